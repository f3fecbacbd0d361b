/-
  A TRIE: New, Rules, fits, Add.
  A TRIE: New, Rules, Add.
  RULES, AND ROWS OF THEM: are they the same, few, and what comes in.
-/
import Derived.Test.YtlakopiopplfhaaGreatDoorGTa
import Derived.Test.YtlakopiopplfhaaGreatDoorGPl
import Derived.DeepKeys4
import Derived.Test.YtlakopiopplfhaaGreatDoorTabF
namespace Go.Tri
open Go.Own Go.Proofs Go.RowKit Go.Lib Go.Asc Go.Adr Go.Nam
attribute [local irreducible] GC GQ G Rd Eff T
set_option maxRecDepth 20000
set_option maxHeartbeats 4000000
attribute [local irreducible] named patL matchL visL fitsL rightL

section
variable {W0 : World} {F : Heap}
/-! ### slices.Contains -/
theorem index_spec (l : List Lab) (x : Lab) (p : Option Addr) (c : Nat) (hc : l.length ≤ c) (hm : l.length ≤ 140737488351232) (hat : Lies W0 F p (strs l)) :
    T Tryz.prog W0 175 #[.slice p l.length c, S x] F (fun v H' => ∃ n : Int, v = .int .i64 n ∧ (0 ≤ n ↔ x ∈ l) ∧ H' = F) := by
  refine T.intro (args := [_, _]) Tryz.func175 rfl Tryz.ntmps175 rfl ?_
  repeat' first | refine Y.st ?_ | (refine nw ?_; intro _) | refine Y.kn ?_ | fail
  refine GC.loopE (ι := { k : Nat // k ≤ l.length ∧ x ∉ l.take k }) (fun i => [(8, .int .i64 (i.1 : Int))]) [(0, _), (1, _), (7, _)] (fun _ => F) (fun i => l.length - i.1) ⟨0, Nat.zero_le _, by simp⟩ ⟨rfl, rfl, rfl, rfl, trivial⟩ (fun _ h => h) ?_
  rintro ⟨k, hk, hx⟩
  dsimp only [List.cons_append, List.nil_append] at hk hx ⊢
  by_cases hlt : k < l.length
  · rcases hat with h0 | ⟨b, o, rfl, hat⟩
    · have := congrArg List.length h0; rw [strs_length] at this; simp at this; subst this; simp at hlt
    have hcell : ∀ w, Own W0 F w → w.cell? ⟨b, o + k * 1, none⟩ = some (S l[k]) := fun w hw => by
      have := hat.here hw k (S l[k]) (by simp [strs, hlt])
      rw [Nat.mul_one]; exact this
    by_cases he : x = l[k]
    · repeat' first | refine Y.st ?_ | (refine nw ?_; intro _) | refine Y.kn ?_ | (refine sp ?_ ?_ <;> intro _) | fail
      exact GQ.done1 rfl rfl ⟨(k : Int), rfl, ⟨fun _ => by rw [he]; exact List.getElem_mem hlt, fun _ => by omega⟩, rfl⟩
    · repeat' first | refine Y.st ?_ | (refine nw ?_; intro _) | refine Y.kn ?_ | (refine sp ?_ ?_ <;> intro _) | fail
      exact GQ.back ⟨k + 1, by omega, by rw [List.take_succ_eq_append_getElem hlt]; intro h; rcases List.mem_append.1 h with h | h; exact hx h; exact he (by simpa using h)⟩ (by simp only; omega) ⟨rfl, rfl, rfl, rfl, trivial⟩ (fun _ h => h)
  · obtain rfl : k = l.length := by omega
    rw [List.take_length] at hx
    repeat' first | refine Y.st ?_ | (refine nw ?_; intro _) | refine Y.kn ?_ | (refine sp ?_ ?_ <;> intro _) | fail
    exact GQ.done1 rfl rfl ⟨-1, rfl, ⟨fun h => by omega, fun h => absurd h hx⟩, rfl⟩
theorem contains_spec (l : List Lab) (x : Lab) (p : Option Addr) (c : Nat) (hc : l.length ≤ c) (hm : l.length ≤ 140737488351232) (hat : Lies W0 F p (strs l)) :
    T Tryz.prog W0 136 #[.slice p l.length c, S x] F (fun v H' => v = .bool (l.contains x) ∧ H' = F) := by
  refine T.intro (args := [_, _]) Tryz.func136 rfl Tryz.ntmps136 rfl ?_
  repeat' first | refine Y.st ?_ | (refine nw ?_; intro _) | refine Y.kn ?_ | fail
  refine G.ef rfl rfl rfl (Eff.callF rfl ((index_spec l x p c hc hm hat).mono ?_))
  rintro v H' ⟨n, rfl, hn, rfl⟩
  repeat' first | refine Y.st ?_ | (refine nw ?_; intro _) | refine Y.kn ?_ | (refine sp ?_ ?_ <;> intro _) | fail
  all_goals refine GQ.pure1 rfl (.tmp rfl) ?_
  all_goals congr 1
  all_goals rw [Bool.eq_iff_iff]; simp [← hn]
/-- Which slice of protocols an argument is. -/
structure AlpnAt (W0 : World) (F : Heap) (v : Value) (l : List Lab) : Prop where
  out : ∃ p c, v = .slice p l.length c ∧ l.length ≤ c ∧ Lies W0 F p (strs l)
  len : l.length ≤ 2000000
theorem AlpnAt.imp {F' : Heap} {v : Value} {l : List Lab} (h : AlpnAt W0 F v l) (hp : ∀ φ, RO W0 F φ → RO W0 F' φ) : AlpnAt W0 F' v l := by
  obtain ⟨p, c, h1, h2, h3⟩ := h.out
  exact ⟨⟨p, c, h1, h2, h3.imp hp⟩, h.len⟩
theorem fits_spec (r : Ru) (port : Int) (v : Value) (alpn : List Lab) (ha : AlpnAt W0 F v alpn) : T Tryz.prog W0 102 #[ruV r, .int .i64 port, v] F (fun u H' => u = .bool (fitsL r port alpn) ∧ H' = F) := by
  obtain ⟨⟨p, c, rfl, hc, hat⟩, hlen⟩ := ha
  refine T.intro (args := [_, _, _]) Tryz.func102 rfl Tryz.ntmps102 rfl ?_
  have fin : ∀ (q1 q2 : Prop) [Decidable q1] [Decidable q2] (q3 : Bool), (q1 ↔ (r.port = 0 ∨ r.port = port)) → (q3 = true ↔ (r.alpn = [] ∨ alpn.contains r.alpn = true)) → fitsL r port alpn = (decide q1 && q3) := by
    intro q1 q2 _ _ q3 h1 h3
    rw [Bool.eq_iff_iff, Bool.and_eq_true, decide_eq_true_eq, h1, h3]
    simp only [fitsL, Bool.and_eq_true, Bool.or_eq_true, decide_eq_true_eq]
  by_cases hp : r.port = 0 ∨ r.port = port
  · by_cases ha : r.alpn = []
    · have hf : fitsL r port alpn = true := by unfold fitsL; rw [ha]; simp [hp]
      repeat' first | refine Y.st ?_ | (refine nw ?_; intro _) | refine Y.kn ?_ | (refine sp ?_ ?_ <;> intro _) | fail
      all_goals first | (exfalso; contradiction) | (exfalso; omega) | exact GQ.pure1 rfl (.tmp rfl) (by rw [hf])
    · have hf : fitsL r port alpn = alpn.contains r.alpn := by unfold fitsL; simp [hp, ha]
      repeat' first | refine Y.st ?_ | (refine nw ?_; intro _) | refine Y.kn ?_ | (refine sp ?_ ?_ <;> intro _) | fail
      all_goals first | (exfalso; contradiction) | (exfalso; omega) | skip
      all_goals
        refine G.ef rfl rfl rfl (Eff.callF rfl ((contains_spec alpn r.alpn p c hc (by omega) (hat.cons _)).mono ?_))
        rintro v H' ⟨rfl, rfl⟩
        repeat' first | refine Y.st ?_ | (refine nw ?_; intro _) | refine Y.kn ?_ | (refine sp ?_ ?_ <;> intro _) | fail
        exact GQ.pure1 rfl (.tmp rfl) (by rw [hf])
  · have hf : fitsL r port alpn = false := by unfold fitsL; simp only [not_or] at hp; simp [hp]
    repeat' first | refine Y.st ?_ | (refine nw ?_; intro _) | refine Y.kn ?_ | (refine sp ?_ ?_ <;> intro _) | fail
    all_goals first | (exfalso; contradiction) | (exfalso; omega) | exact GQ.pure1 rfl (.tmp rfl) (by rw [hf])
end
/-! ### What a trie is, among what is owned -/
abbrev ruC (r : Ru) : List Value := [.bool r.allow, .int .i64 r.prio, S r.pat, .int .i64 r.port, S r.alpn]
theorem ruC_len (r : Ru) : (ruC r).length = 5 := rfl
def Sized (r : Ru) : Prop := (Lit.int .i64 r.prio).wf = true ∧ (Lit.int .i64 r.port).wf = true ∧ r.pat.length ≤ 140737488351232 ∧ r.alpn.length ≤ 140737488351232
theorem ruV_inj : ∀ a b : Ru, ruV a = ruV b → a = b := fun a b h => by
  have h1 : ruA a = ruA b := Value.agg.inj h
  have h2 := congrArg Array.toList h1
  obtain ⟨a1, a2, a3, a4, a5⟩ := a
  obtain ⟨b1, b2, b3, b4, b5⟩ := b
  simp only [List.cons.injEq, Value.bool.injEq, Value.int.injEq, true_and, and_true] at h2
  obtain ⟨e1, e2, e3, e4, e5⟩ := h2
  rw [e1, e2, e4, S_inj _ _ e3, S_inj _ _ e5]
theorem key_ok (r : Ru) (h : Sized r) : isK Tryz.prog 48 (ruV r) := by
  obtain ⟨h1, h2, h3, h4⟩ := h
  have hk : Tryz.prog.keyType 48 = true := by kernel_rfl
  have hc : Tryz.prog.cellsOf 48 = 5 := by kernel_rfl
  have c1 : Tryz.prog.cellsOf 4 = 1 := by kernel_rfl
  have c2 : Tryz.prog.cellsOf 3 = 1 := by kernel_rfl
  have c3 : Tryz.prog.cellsOf 9 = 1 := by kernel_rfl
  have hm3 : (⟨r.pat.toArray⟩ : ByteArray).size ≤ maxLen := by show r.pat.toArray.size ≤ _; simp [maxLen]; omega
  have hm4 : (⟨r.alpn.toArray⟩ : ByteArray).size ≤ maxLen := by show r.alpn.toArray.size ≤ _; simp [maxLen]; omega
  obtain ⟨d, hd⟩ : ∃ d, Tryz.prog.types.size = d + 1 := ⟨Tryz.prog.types.size - 1, by kernel_rfl⟩
  unfold isK keyOf
  rw [Tryz.underlying48]
  simp only [hk, Value.formed, Tryz.underlying48, hc, hd]
  simp [Program.keyLits, Tryz.underlying48, Tryz.underlying4, Tryz.underlying3, Tryz.underlying9, hc, c1, c2, c3, h1, h2, hm3, hm4, Value.cells]
instance : MapT Tryz.prog 149 48 3 (isK Tryz.prog 48) (.int .i64 0) :=
  ⟨Tryz.underlying149, keyLaws (Maps.Keyed.of_law (deep_law_laid (by kernel_rfl) (m := 3) (by omega) (of_decide_eq_true (by kernel_rfl)) (by kernel_rfl) (by kernel_rfl))), Tryz.zeroValue3⟩
end Go.Tri

namespace Go.Tri
open Go.Own Go.Proofs Go.RowKit Go.Lib Go.Asc Go.Adr Go.Nam
attribute [local irreducible] GC GQ G Rd Eff T
set_option maxRecDepth 20000
set_option maxHeartbeats 4000000
attribute [local irreducible] named patL matchL visL fitsL rightL

abbrev hasL (rs : List Ru) : List (Ru × Unit) := rs.map fun r => (dull r, ())
abbrev one1 : Unit → Value := fun _ => .int .i64 1
structure TrieAt (rs : List Ru) (rv av ve vl vm : Value) (oh : Obj) (Br Ba Hn : Heap) : Prop where
  rules : Buf 48 5 rv rs.length (rs.flatMap ruC) Br
  any : Buf 3 1 av (anyOf rs).length (ints (anyOf rs)) Ba
  node : NodeQ (famOf rs) ve vl vm Hn
  has : MapIs (isK Tryz.prog 48) (fun r : Ru => ruV r) one1 (hasL rs) oh
  fine : Fine rs
  len : rs.length ≤ 200
abbrev trieC (rv av ve vl vm : Value) (mh : Nat) : Array Value := #[rv, av, ve, vl, vm, .map (some mh)]
def TrieQ (rs : List Ru) (bt : Nat) (TH : Heap) : Prop := ∃ rv av ve vl vm mh oh Br Ba Hn, TrieAt rs rv av ve vl vm oh Br Ba Hn ∧
  TH = (bt, .cells (trieC rv av ve vl vm mh) 154 (0, 0)) :: (mh, oh) :: (Br ++ (Ba ++ Hn))
theorem hasL_get (rs : List Ru) (k : Ru) : getK (hasL rs) k = if k ∈ rs.map dull then some () else none := by
  induction rs with
  | nil => rfl
  | cons r rs ih =>
    simp only [hasL, List.map_cons, getK, List.mem_cons] at ih ⊢
    by_cases h : dull r = k
    · subst h; simp
    · rw [if_neg h, ih]; simp [Ne.symm h]
theorem famOf_nil : famOf [] = fun _ => ([], []) := rfl
theorem fam_len (rs : List Ru) (h : rs.length ≤ 200) : ∀ p, (famOf rs p).1.length ≤ 1000 ∧ (famOf rs p).2.length ≤ 1000 := fun p => by
  have h1 := idxF_len rs (isEx p)
  have h2 := idxF_len rs (isLo p)
  exact ⟨by show (idxF rs (isEx p)).length ≤ 1000; omega, by show (idxF rs (isLo p)).length ≤ 1000; omega⟩
section
variable {W0 : World} {F : Heap}
theorem new_spec : T Tryz.prog W0 46 #[] F (fun v H' => ∃ bt TH, v = .pointer (some ⟨bt, 0, none⟩) ∧ TrieQ [] bt TH ∧ H' = TH ++ F) := by
  refine T.intro (args := []) Tryz.func46 rfl Tryz.ntmps46 rfl ?_
  repeat' first | refine Y.st ?_ | (refine nw ?_; intro _) | refine Y.kn ?_ | fail
  refine G.ef rfl rfl rfl (Eff.makeMap (fun mh => ?_))
  repeat' first | refine Y.st ?_ | (refine nw ?_; intro _) | refine Y.kn ?_ | fail
  refine G.rd (Rd.build (cells := #[.slice none 0 0, .slice none 0 0, .slice none 0 0, .slice none 0 0, .map none, .map (some mh)]) rfl (by rfl)) rfl rfl ?_
  refine G.ef rfl rfl rfl (Eff.boxA rfl (fun bt => ?_))
  repeat' first | refine Y.st ?_ | (refine nw ?_; intro _) | refine Y.kn ?_ | (refine sp ?_ ?_ <;> intro _) | fail
  refine GQ.done1 rfl rfl ⟨bt, _, rfl, ⟨.slice none 0 0, .slice none 0 0, .slice none 0 0, .slice none 0 0, .map none, mh, .map #[] 0, [], [], [], ⟨.nil, .nil, ?_, .empty ruV_inj, fine_nil, by simp⟩, rfl⟩, rfl⟩
  rw [famOf_nil]; exact NodeH.empty _ _
theorem rules_one (rs : List Ru) : ∀ u ∈ rs.flatMap ruC, u.oneCell' = true := by
  intro u hu
  obtain ⟨r, _, h⟩ := List.mem_flatMap.1 hu
  simp only [ruC, List.mem_cons, List.not_mem_nil, or_false] at h
  rcases h with rfl | rfl | rfl | rfl | rfl <;> rfl
theorem rules_len (rs : List Ru) : (rs.flatMap ruC).length = rs.length * 5 := flat_len ruC 5 ruC_len rs
theorem clone_spec (rv : Value) (rs : List Ru) (B : Heap) (hb : Buf 48 5 rv rs.length (rs.flatMap ruC) B) (hlen : rs.length ≤ 200) :
    T Tryz.prog W0 99 #[rv] (B ++ F) (fun v H' => ∃ B', Buf 48 5 v rs.length (rs.flatMap ruC) B' ∧ H' = B' ++ (B ++ F)) := by
  have hl := rules_len rs
  refine T.intro (args := [_]) Tryz.func99 rfl Tryz.ntmps99 rfl ?_
  have h2 := hb
  obtain ⟨p, cap, hv, hc, hat⟩ := Buf.see h2
  rcases hb.parts with ⟨rfl, h0, hx, rfl⟩ | ⟨b, cap', extra, rfl, rfl, hcc, _, _⟩
  · repeat' first | refine Y.st ?_ | (refine nw ?_; intro _) | refine Y.kn ?_ | fail
    exact GQ.done1 rfl rfl ⟨[], by rw [h0, hx]; exact .nil, rfl⟩
  · repeat' first | refine Y.st ?_ | (refine nw ?_; intro _) | refine Y.kn ?_ | fail
    refine G.ef rfl rfl rfl (Eff.buildSlice (cells := #[]) rfl (by kernel_rfl) (by omega) (fun b2 => ?_))
    repeat' first | refine Y.st ?_ | (refine nw ?_; intro _) | refine Y.kn ?_ | fail
    refine G.ef rfl rfl rfl (Eff.app (hB := Buf.row b2 0 0 [] [] rfl rfl (Nat.le_refl _) (by omega)) rfl rfl (F := [(b, .cells (rs.flatMap ruC ++ extra).toArray 48 (0, 0))] ++ F) (hH := ⟨.refl _⟩) (by omega) hl (at_ahead (cs := rs.flatMap ruC) (extra := extra)) (rules_one rs) (by omega) (by omega) (fun v' B' hB' => ?_))
    repeat' first | refine Y.st ?_ | (refine nw ?_; intro _) | refine Y.kn ?_ | fail
    refine GQ.done1 rfl rfl ⟨B', by simpa using hB', rfl⟩
theorem ruless_spec {rs : List Ru} {bt : Nat} {TH : Heap} (h : TrieQ rs bt TH) : T Tryz.prog W0 53 #[.pointer (some ⟨bt, 0, none⟩)] (TH ++ F) (fun v H' => ∃ B', Buf 48 5 v rs.length (rs.flatMap ruC) B' ∧ H' = B' ++ (TH ++ F)) := by
  obtain ⟨rv, av, ve, vl, vm, mh, oh, Br, Ba, Hn, ha, rfl⟩ := h
  refine T.intro (args := [_]) Tryz.func53 rfl Tryz.ntmps53 rfl ?_
  repeat' first | refine Y.st ?_ | (refine nw ?_; intro _) | refine Y.kn ?_ | fail
  have q1 : ((bt, Obj.cells (trieC rv av ve vl vm mh) 154 (0, 0)) :: (mh, oh) :: (Br ++ (Ba ++ Hn)) ++ F).Perm (Br ++ ((bt, Obj.cells (trieC rv av ve vl vm mh) 154 (0, 0)) :: (mh, oh) :: (Ba ++ Hn) ++ F)) := by exact permC
  refine G.ef rfl rfl rfl (Eff.callP (first := #[]) (captured := #[]) rfl rfl q1 ((clone_spec rv rs Br ha.rules ha.len).mono ?_))
  rintro v H' ⟨B', h1, rfl⟩
  repeat' first | refine Y.st ?_ | (refine nw ?_; intro _) | refine Y.kn ?_ | fail
  refine GQ.heap (H' := B' ++ ((bt, Obj.cells (trieC rv av ve vl vm mh) 154 (0, 0)) :: (mh, oh) :: (Br ++ (Ba ++ Hn)) ++ F)) ?_ (fun w hw => hw.perm (q1.symm.append_left B'))
  exact GQ.done1 rfl rfl ⟨B', h1, rfl⟩
/-- What Add leaves. -/
def AddR (rs : List Ru) (r : Ru) (bt : Nat) (F : Heap) : Value → Heap → Prop := fun v H' => v = .int .i64 (addL rs r).2 ∧ ∃ TH, TrieQ (addL rs r).1 bt TH ∧ H'.Perm (TH ++ F)
theorem add_spec (hv : Vars W0) {rs : List Ru} {bt : Nat} {TH : Heap} (h : TrieQ rs bt TH) (r : Ru) (hs : Sized r) (hp : r.pat.length < 4294967281) :
    T Tryz.prog W0 49 #[.pointer (some ⟨bt, 0, none⟩), ruV r] (TH ++ F) (AddR rs r bt F) := by
  have h' := h
  obtain ⟨rv, av, ve, vl, vm, mh, oh, Br, Ba, Hn, ha, rfl⟩ := h
  have hrl := ha.len
  obtain ⟨p, cap, hrv, hc, hat⟩ := Buf.see ha.rules
  refine T.intro (args := [_, _]) Tryz.func49 rfl Tryz.ntmps49 rfl ?_
  repeat' first | refine Y.st ?_ | (refine nw ?_; intro _) | refine Y.kn ?_ | fail
  have keep : ∀ b3 b5 (o3 o5 : Obj) (k : Int), addL rs r = (rs, k) → ∀ w, Own W0 ((b5, o5) :: (b3, o3) :: ((bt, Obj.cells (trieC rv av ve vl vm mh) 154 (0, 0)) :: (mh, oh) :: (Br ++ (Ba ++ Hn)) ++ F)) w → Own W0 ((bt, Obj.cells (trieC rv av ve vl vm mh) 154 (0, 0)) :: (mh, oh) :: (Br ++ (Ba ++ Hn)) ++ F) w :=
    fun b3 b5 o3 o5 k _ w hw => hw.sub ((List.sublist_cons_self _ _).trans (List.sublist_cons_self _ _))
  rename_i b3 b5
  by_cases h0 : rightL r = 0
  case neg =>
    have hadd : addL rs r = (rs, rightL r) := by rw [addL, if_pos h0]
    repeat' first | refine Y.st ?_ | (refine nw ?_; intro _) | refine Y.kn ?_ | (refine sp ?_ ?_ <;> intro _) | fail
    refine GQ.heap ?_ (keep b3 b5 _ _ _ hadd)
    exact GQ.done1 rfl rfl ⟨by rw [hadd], _, by rw [hadd]; exact h', .refl _⟩
  by_cases h200 : rs.length = 200
  · have hadd : addL rs r = (rs, 2) := by rw [addL, if_neg (by simp [h0]), if_pos h200]
    have hlv : ∃ q c, rv = .slice q rs.length c := ⟨p, cap, hrv⟩
    subst hrv
    repeat' first | refine Y.st ?_ | (refine nw ?_; intro _) | refine Y.kn ?_ | (refine sp ?_ ?_ <;> intro _) | fail
    refine GQ.heap ?_ (keep b3 b5 _ _ _ hadd)
    exact GQ.done1 rfl rfl ⟨by rw [hadd], _, by rw [hadd]; exact h', .refl _⟩
  refine GC.heap (H' := (b5, .cells (ruA (dull r)) 48 (0, 0)) :: (b3, .cells (ruA r) 48 (0, 0)) :: ((bt, Obj.cells (trieC rv av ve vl vm mh) 154 (0, 0)) :: (mh, oh) :: (Br ++ (Ba ++ Hn)) ++ F)) ?_ (fun _ h => h)
  have hkok : isK Tryz.prog 48 (ruV (dull r)) := key_ok (dull r) hs
  subst hrv
  repeat' first | refine Y.st ?_ | (refine nw ?_; intro _) | refine Y.kn ?_ | fail
  refine GC.drawnH [(0, .read), (1, .read), (2, .read), (3, .read), (4, .read), (5, .read), (6, .read), (7, .read)] (by kernel_rfl) (by kernel_rfl) rfl ?_
  repeat' first | refine Y.st ?_ | (refine nw ?_; intro _) | refine Y.kn ?_ | fail
  refine G.rd (Rd.look (key := fun r : Ru => ruV r) (a := dull r) rfl rfl ha.has hkok) rfl rfl ?_
  have hlook : lookV one1 (hasL rs) (dull r) (.int .i64 0) = .int .i64 (if dull r ∈ rs.map dull then 1 else 0) := by
    have := hasL_get rs (dull r)
    by_cases hm : dull r ∈ rs.map dull
    · rw [if_pos hm] at this ⊢; simp only [lookV, this]
    · rw [if_neg hm] at this ⊢; simp only [lookV, this]
  rw [hlook]
  by_cases hm : dull r ∈ rs.map dull
  · have hadd : addL rs r = (rs, 7) := by rw [addL, if_neg (by simp [h0]), if_neg h200, if_pos hm]
    rw [if_pos hm]
    repeat' first | refine Y.st ?_ | (refine nw ?_; intro _) | refine Y.kn ?_ | (refine sp ?_ ?_ <;> intro _) | fail
    refine GQ.heap ?_ (keep b3 b5 _ _ _ hadd)
    exact GQ.done1 rfl rfl ⟨by rw [hadd], _, by rw [hadd]; exact h', .refl _⟩
  rw [if_neg hm]
  have hadd : addL rs r = (rs ++ [r], 0) := by rw [addL, if_neg (by simp [h0]), if_neg h200, if_neg hm]
  have hlen' : (rs ++ [r]).length ≤ 200 := by simp; omega
  have hfine' : Fine (rs ++ [r]) := by have := add_fine ha.fine r; rw [hadd] at this; exact this
  repeat' first | refine Y.st ?_ | (refine nw ?_; intro _) | refine Y.kn ?_ | fail
  refine GC.drawnH [(0, .read), (1, .read), (2, .read), (3, .read), (4, .read), (5, .tail)] (by kernel_rfl) (by kernel_rfl) rfl ?_
  repeat' first | refine Y.st ?_ | (refine nw ?_; intro _) | refine Y.kn ?_ | fail
  refine G.ef rfl rfl rfl (Eff.mapPut (key := fun r : Ru => ruV r) (val := one1) (a := dull r) (v := ()) rfl rfl rfl ha.has hkok (fun oh' hoh' => ?_))
  have hhas : putK (hasL rs) (dull r) () = hasL (rs ++ [r]) := by
    rw [putK_new (by rw [show (hasL rs).map Prod.fst = rs.map dull by simp [hasL]]; exact hm)]; simp [hasL]
  rw [hhas] at hoh'
  repeat' first | refine Y.st ?_ | (refine nw ?_; intro _) | refine Y.kn ?_ | fail
  refine GC.heap (H' := (b5, Obj.cells (ruA (dull r)) 48 (0, 0)) :: (b3, Obj.cells (ruA r) 48 (0, 0)) :: (bt, Obj.cells (trieC (.slice p rs.length cap) av ve vl vm mh) 154 (0, 0)) :: (mh, oh') :: (Br ++ (Ba ++ (Hn ++ F)))) ?_ (fun w hw => hw.perm (by simp))
  refine GC.drawn [(0, .read), (1, .read), (2, .read), (3, .read), (4, .read), (5, .read), (6, .eff), (7, .eff), (8, .read), (9, .read), (10, .tail)] ([(b3, Obj.cells (ruA r) 48 (0, 0)), (bt, Obj.cells (trieC (.slice p rs.length cap) av ve vl vm mh) 154 (0, 0))]) (by kernel_rfl) (by kernel_rfl) rfl ?_
  repeat' first | refine Y.st ?_ | (refine nw ?_; intro _) | refine Y.kn ?_ | fail
  refine G.eeP rfl rfl rfl (Eff.buildSlice (cells := ruA r) rfl (by kernel_rfl) (by omega) (fun b7 => ⟨fun w hw => hw.sub SubH.out, ?_⟩))
  have q1 : ((b7, Obj.cells (ruA r) 48 (0, 0)) :: (b5, Obj.cells (ruA (dull r)) 48 (0, 0)) :: (b3, Obj.cells (ruA r) 48 (0, 0)) :: (bt, Obj.cells (trieC (.slice p rs.length cap) av ve vl vm mh) 154 (0, 0)) :: (mh, oh') :: (Br ++ (Ba ++ (Hn ++ F)))).Perm (Br ++ ((b7, Obj.cells (ruA r) 48 (0, 0)) :: (b5, Obj.cells (ruA (dull r)) 48 (0, 0)) :: (b3, Obj.cells (ruA r) 48 (0, 0)) :: (bt, Obj.cells (trieC (.slice p rs.length cap) av ve vl vm mh) 154 (0, 0)) :: (mh, oh') :: (Ba ++ (Hn ++ F)))) := by exact permC
  refine G.eeP rfl rfl rfl (Eff.app (ys := ruC r) rfl ha.rules rfl (hH := ⟨q1⟩) (by omega) rfl (at_here (cs := ruC r)) (by have := rules_one [r]; simpa using this) (by omega) (by omega) (fun rv' Br' hBr => ⟨fun w hw => hw.sub SubH.out, ?_⟩))
  have hrv' : rv'.oneCell' = true := by cases hBr <;> rfl
  have hBr' : Buf 48 5 rv' (rs ++ [r]).length ((rs ++ [r]).flatMap ruC) Br' := by simpa using hBr
  repeat' first | refine Y.st ?_ | (refine nw ?_; intro _) | refine Y.kn ?_ | fail
  refine G.ef rfl rfl rfl (Eff.store rfl rfl hrv' (by simp) (by simp [Fz]) ?_)
  refine G.heap (H' := Br' ++ ((b7, Obj.cells (ruA r) 48 (0, 0)) :: (b5, Obj.cells (ruA (dull r)) 48 (0, 0)) :: (b3, Obj.cells (ruA r) 48 (0, 0)) :: (bt, Obj.cells (trieC rv' av ve vl vm mh) 154 (0, 0)) :: (mh, oh') :: (Ba ++ (Hn ++ F)))) ?_ (fun _ h => h)
  by_cases hst : r.pat = [42]
  · have hadd2 : famOf (rs ++ [r]) = famOf rs := famOf_snoc_any rs r hst
    have hany2 : anyOf (rs ++ [r]) = anyOf rs ++ [rs.length] := anyOf_snoc_any rs r hst
    have hal := idxF_len rs isAny
    repeat' first | refine Y.st ?_ | (refine nw ?_; intro _) | refine Y.kn ?_ | fail
    refine G.ef rfl rfl rfl (Eff.buildSlice (cells := #[.int .i64 (rs.length : Int)]) rfl (by kernel_rfl) (by omega) (fun b9 => ?_))
    repeat' first | refine Y.st ?_ | (refine nw ?_; intro _) | refine Y.kn ?_ | fail
    have q2 : ((b9, Obj.cells #[.int .i64 (rs.length : Int)] 3 (0, 0)) :: (Br' ++ ((b7, Obj.cells (ruA r) 48 (0, 0)) :: (b5, Obj.cells (ruA (dull r)) 48 (0, 0)) :: (b3, Obj.cells (ruA r) 48 (0, 0)) :: (bt, Obj.cells (trieC rv' av ve vl vm mh) 154 (0, 0)) :: (mh, oh') :: (Ba ++ (Hn ++ F))))).Perm (Ba ++ ((b9, Obj.cells #[.int .i64 (rs.length : Int)] 3 (0, 0)) :: (Br' ++ ((b7, Obj.cells (ruA r) 48 (0, 0)) :: (b5, Obj.cells (ruA (dull r)) 48 (0, 0)) :: (b3, Obj.cells (ruA r) 48 (0, 0)) :: (bt, Obj.cells (trieC rv' av ve vl vm mh) 154 (0, 0)) :: (mh, oh') :: (Hn ++ F))))) := by exact permC
    refine G.ef rfl rfl rfl (Eff.app (ys := ints [rs.length]) rfl ha.any rfl (hH := ⟨q2⟩) (by omega) rfl (at_here (cs := ints [rs.length])) (ints_one _) (by simp only [anyOf]; omega) (by simp only [anyOf]; omega) (fun av' Ba' hBa => ?_))
    have hav' : av'.oneCell' = true := by cases hBa <;> rfl
    repeat' first | refine Y.st ?_ | (refine nw ?_; intro _) | refine Y.kn ?_ | fail
    refine G.ef rfl rfl rfl (Eff.store rfl rfl hav' (by simp) (by simp [Fz]) ?_)
    refine G.heap (H' := Ba' ++ ((b9, Obj.cells #[.int .i64 (rs.length : Int)] 3 (0, 0)) :: (Br' ++ ((b7, Obj.cells (ruA r) 48 (0, 0)) :: (b5, Obj.cells (ruA (dull r)) 48 (0, 0)) :: (b3, Obj.cells (ruA r) 48 (0, 0)) :: (bt, Obj.cells (trieC rv' av' ve vl vm mh) 154 (0, 0)) :: (mh, oh') :: (Hn ++ F))))) ?_ (fun _ h => h)
    repeat' first | refine Y.st ?_ | (refine nw ?_; intro _) | refine Y.kn ?_ | fail
    have q3 : (Ba' ++ ((b9, Obj.cells #[.int .i64 (rs.length : Int)] 3 (0, 0)) :: (Br' ++ ((b7, Obj.cells (ruA r) 48 (0, 0)) :: (b5, Obj.cells (ruA (dull r)) 48 (0, 0)) :: (b3, Obj.cells (ruA r) 48 (0, 0)) :: (bt, Obj.cells (trieC rv' av' ve vl vm mh) 154 (0, 0)) :: (mh, oh') :: (Hn ++ F))))).Perm ([(b9, Obj.cells #[.int .i64 (rs.length : Int)] 3 (0, 0)), (b7, Obj.cells (ruA r) 48 (0, 0)), (b5, Obj.cells (ruA (dull r)) 48 (0, 0)), (b3, Obj.cells (ruA r) 48 (0, 0))] ++ ((bt, Obj.cells (trieC rv' av' ve vl vm mh) 154 (0, 0)) :: (mh, oh') :: (Br' ++ (Ba' ++ Hn)) ++ F)) := by exact permC
    refine GQ.heap (H' := (bt, Obj.cells (trieC rv' av' ve vl vm mh) 154 (0, 0)) :: (mh, oh') :: (Br' ++ (Ba' ++ Hn)) ++ F) ?_ (fun w hw => (hw.perm q3).sub (List.sublist_append_right _ _))
    refine GQ.done1 rfl rfl ⟨by rw [hadd], _, ⟨rv', av', ve, vl, vm, mh, oh', Br', Ba', Hn, ⟨by rw [hadd]; exact hBr', ?_, by rw [hadd, hadd2]; exact ha.node, by rw [hadd]; exact hoh', by rw [hadd]; exact hfine', by rw [hadd]; exact hlen'⟩, rfl⟩, .refl _⟩
    rw [hadd, hany2, List.length_append, ints_append]; exact hBa
  · have hadd2 := famOf_snoc rs r hst
    have hany2 : anyOf (rs ++ [r]) = anyOf rs := anyOf_snoc rs r hst
    have hrl := rest_len r.pat
    repeat' first | refine Y.st ?_ | (refine nw ?_; intro _) | refine Y.kn ?_ | fail
    refine GC.drawn [(0, .read), (1, .read), (2, .read), (3, .read), (5, .read), (6, .read), (4, .eff), (7, .tail)] ([]) (by kernel_rfl) (by kernel_rfl) rfl ?_
    repeat' first | refine Y.st ?_ | (refine nw ?_; intro _) | refine Y.kn ?_ | fail
    refine G.eeP rfl rfl rfl (Eff.callF rfl ((labels_spec hv (restL r.pat) (by omega)).mono ?_))
    rintro v H' ⟨lb, rfl, rfl⟩
    refine ⟨fun w hw => hw.sub SubH.out, ?_⟩
    refine G.heap (H' := (lb, Obj.cells (strs (labelsL (restL r.pat))).toArray 9 (0, 0)) :: (Br' ++ ((b7, Obj.cells (ruA r) 48 (0, 0)) :: (b5, Obj.cells (ruA (dull r)) 48 (0, 0)) :: (b3, Obj.cells (ruA r) 48 (0, 0)) :: (bt, Obj.cells (nodeC [rv', av] [.map (some mh)] ve vl vm) 154 (0, 0)) :: (mh, oh') :: (Ba ++ (Hn ++ F))))) ?_ (fun _ h => h)
    have q4 : ((lb, Obj.cells (strs (labelsL (restL r.pat))).toArray 9 (0, 0)) :: (Br' ++ ((b7, Obj.cells (ruA r) 48 (0, 0)) :: (b5, Obj.cells (ruA (dull r)) 48 (0, 0)) :: (b3, Obj.cells (ruA r) 48 (0, 0)) :: (bt, Obj.cells (nodeC [rv', av] [.map (some mh)] ve vl vm) 154 (0, 0)) :: (mh, oh') :: (Ba ++ (Hn ++ F))))).Perm ((bt, Obj.cells (nodeC [rv', av] [.map (some mh)] ve vl vm) 154 (0, 0)) :: (Hn ++ ((lb, Obj.cells (strs (labelsL (restL r.pat))).toArray 9 (0, 0)) :: (b7, Obj.cells (ruA r) 48 (0, 0)) :: (b5, Obj.cells (ruA (dull r)) 48 (0, 0)) :: (b3, Obj.cells (ruA r) 48 (0, 0)) :: (mh, oh') :: (Br' ++ (Ba ++ F))))) := by exact permC
    have hput := put_spec (W0 := W0) (wildL r.pat) rs.length (labelsL (restL r.pat)) lb (labelsL (restL r.pat)).length 0 0 (labelsL (restL r.pat)).length (by omega) (Nat.le_refl _) (fun _ => rfl) (famOf rs) ve vl vm Hn ((lb, Obj.cells (strs (labelsL (restL r.pat))).toArray 9 (0, 0)) :: (b7, Obj.cells (ruA r) 48 (0, 0)) :: (b5, Obj.cells (ruA (dull r)) 48 (0, 0)) :: (b3, Obj.cells (ruA r) 48 (0, 0)) :: (mh, oh') :: (Br' ++ (Ba ++ F))) bt [rv', av] [.map (some mh)] 154 ha.node (fam_len rs ha.len) inferInstance
    refine G.ef rfl rfl rfl (Eff.callP (first := #[]) (captured := #[]) rfl rfl q4 (hput.mono ?_))
    rintro v H' ⟨ve', vl', vm', Hn', rfl, hn', hpH⟩
    refine G.heap ?_ (fun w hw => hw.perm hpH)
    repeat' first | refine Y.st ?_ | (refine nw ?_; intro _) | refine Y.kn ?_ | fail
    have q5 : ((bt, Obj.cells (nodeC [rv', av] [.map (some mh)] ve' vl' vm') 154 (0, 0)) :: (Hn' ++ ((lb, Obj.cells (strs (labelsL (restL r.pat))).toArray 9 (0, 0)) :: (b7, Obj.cells (ruA r) 48 (0, 0)) :: (b5, Obj.cells (ruA (dull r)) 48 (0, 0)) :: (b3, Obj.cells (ruA r) 48 (0, 0)) :: (mh, oh') :: (Br' ++ (Ba ++ F))))).Perm ([(lb, Obj.cells (strs (labelsL (restL r.pat))).toArray 9 (0, 0)), (b7, Obj.cells (ruA r) 48 (0, 0)), (b5, Obj.cells (ruA (dull r)) 48 (0, 0)), (b3, Obj.cells (ruA r) 48 (0, 0))] ++ ((bt, Obj.cells (nodeC [rv', av] [.map (some mh)] ve' vl' vm') 154 (0, 0)) :: (mh, oh') :: (Br' ++ (Ba ++ Hn')) ++ F)) := by exact permC
    refine GQ.heap (H' := (bt, Obj.cells (trieC rv' av ve' vl' vm' mh) 154 (0, 0)) :: (mh, oh') :: (Br' ++ (Ba ++ Hn')) ++ F) ?_ (fun w hw => (hw.perm q5).sub (List.sublist_append_right _ _))
    refine GQ.done1 rfl rfl ⟨by rw [hadd], _, ⟨rv', av, ve', vl', vm', mh, oh', Br', Ba, Hn', ⟨by rw [hadd]; exact hBr', by rw [hadd, hany2]; exact ha.any, ?_, by rw [hadd]; exact hoh', by rw [hadd]; exact hfine', by rw [hadd]; exact hlen'⟩, rfl⟩, .refl _⟩
    rw [hadd, hadd2]; exact hn'
end
end Go.Tri

namespace Go.Tri
open Go.Own Go.Proofs Go.RowKit Go.Lib Go.Asc Go.Adr Go.Nam
attribute [local irreducible] GC GQ G Rd Eff T
set_option maxRecDepth 20000
set_option maxHeartbeats 4000000
attribute [local irreducible] named patL matchL visL fitsL rightL countsL

theorem rules_cells {W0 : World} {H : Heap} {rs : List Ru} {b o : Nat} (h : ∀ w, Own W0 H w → CellsAt w b o (rs.flatMap ruC)) {k : Nat} (hk : k < rs.length) : ∀ w, Own W0 H w → CellsAt w b (o + k * 5) (ruC (rs.getD k zeroR)) := fun w hw j u hj => by
  have hj5 : j < 5 := by have := (List.getElem?_eq_some_iff.1 hj).1; rw [ruC_len] at this; exact this
  rw [Nat.add_assoc]
  refine h w hw (k * 5 + j) u ?_
  rw [flat_get ruC 5 ruC_len rs k j hj5, List.getElem?_eq_getElem hk]
  rw [List.getD_eq_getElem?_getD, List.getElem?_eq_getElem hk] at hj
  exact hj
/-! ### Are two rules the same -/
section
variable {W0 : World} {H : Heap} {e : Env} {x y : Operand}
theorem run_same (a b : Ru) (ha : Sized a) (hb : Sized b) (w : World) : (Op.equal 48 (ruV a) (ruV b)).run Tryz.prog w = .ok (decide (a = b)) w := by
  obtain ⟨la, hla⟩ := key_ok a ha
  obtain ⟨lb, hlb⟩ := key_ok b hb
  obtain ⟨r, hr, hiff⟩ := run_equal_deep (P := Tryz.prog) w (m := 3) (by omega) (k := 48) (by kernel_rfl) (by kernel_rfl) hla hlb
  rw [hr]
  congr 1
  rw [Bool.eq_iff_iff, hiff, decide_eq_true_eq]
  constructor
  · rintro rfl
    have K := Maps.Keyed.of_law (deep_law_laid (P := Tryz.prog) (by kernel_rfl) (m := 3) (by omega) (k := 48) (of_decide_eq_true (by kernel_rfl)) (by kernel_rfl) (by kernel_rfl))
    exact ruV_inj _ _ (K.inj hla hlb)
  · rintro rfl
    rw [hla] at hlb; exact Option.some.inj hlb
theorem Rd.eqlRu (a b : Ru) (hx : opv e x = some (ruV a)) (hy : opv e y = some (ruV b)) (ha : Sized a) (hb : Sized b) {t' : TypeId} : Rd Tryz.prog W0 H e (.binOp .eql 48 x y t') (.bool (decide (a = b))) := by
    delta Rd
    intro ρ hρ w _ op ho
    have hg : Tryz.prog.eqGuardType Tryz.prog.depth 48 = false := by kernel_rfl
    have h : (binOp .eql 48 (ruV a) (ruV b)).run Tryz.prog w = .ok (.bool (decide (a = b))) w := by
      simp only [binOp]; simp [run_same a b ha hb w]
    simp [execOp, ho, hρ x _ hx, hρ y _ hy, eqGuard, hg, h]
theorem Rd.neqRu (a b : Ru) (hx : opv e x = some (ruV a)) (hy : opv e y = some (ruV b)) (ha : Sized a) (hb : Sized b) {t' : TypeId} : Rd Tryz.prog W0 H e (.binOp .neq 48 x y t') (.bool (!decide (a = b))) := by
    delta Rd
    intro ρ hρ w _ op ho
    have hg : Tryz.prog.eqGuardType Tryz.prog.depth 48 = false := by kernel_rfl
    have h : (binOp .neq 48 (ruV a) (ruV b)).run Tryz.prog w = .ok (.bool (!decide (a = b))) w := by
      simp only [binOp]; simp [run_same a b ha hb w]
    simp [execOp, ho, hρ x _ hx, hρ y _ hy, eqGuard, hg, h]
end

/-- Rules of bounded texts. -/
def Small (r : Ru) : Prop := Sized r ∧ r.pat.length ≤ 2000000 ∧ r.alpn.length ≤ 2000000
section
variable {W0 : World} {F : Heap}
/-- Where rules lie. -/
def RulesAt (W0 : World) (F : Heap) (v : Value) (rs : List Ru) : Prop := ∃ p c, v = .slice p rs.length c ∧ rs.length ≤ c ∧ Go.Tri.Lies W0 F p (rs.flatMap ruC)
theorem RulesAt.imp {F' : Heap} {v : Value} {rs : List Ru} (h : RulesAt W0 F v rs) (hp : ∀ φ, RO W0 F φ → RO W0 F' φ) : RulesAt W0 F' v rs := by
  obtain ⟨p, c, h1, h2, h3⟩ := h
  exact ⟨p, c, h1, h2, h3.imp hp⟩
theorem lies_get {H : Heap} {p : Option Addr} {rs : List Ru} (h : Go.Tri.Lies W0 H p (rs.flatMap ruC)) {k : Nat} (hk : k < rs.length) : ∃ b o, p = some ⟨b, o, none⟩ ∧ ∀ m, m < rs.length → ∀ w, Own W0 H w → CellsAt w b (o + m * 5) (ruC (rs.getD m zeroR)) := by
  rcases h with h0 | ⟨b, o, h1, h2⟩
  · have := congrArg List.length h0; rw [rules_len] at this; simp only [List.length_nil] at this; omega
  · exact ⟨b, o, h1, fun m hm => rules_cells (fun w hw => h2.here hw) hm⟩
theorem getD_small {rs : List Ru} (h : ∀ r ∈ rs, Small r) {k : Nat} (hk : k < rs.length) : Small (rs.getD k zeroR) := h _ (getD_mem hk)
theorem ext_getD {xs ys : List Ru} (hl : xs.length = ys.length) (h : ∀ k, k < xs.length → xs.getD k zeroR = ys.getD k zeroR) : xs = ys := by
  refine List.ext_getElem hl (fun k h1 h2 => ?_)
  have := h k h1
  rwa [List.getD_eq_getElem?_getD, List.getD_eq_getElem?_getD, List.getElem?_eq_getElem h1, List.getElem?_eq_getElem h2] at this
theorem same_spec (va vb : Value) (xs ys : List Ru) (ha : RulesAt W0 F va xs) (hb : RulesAt W0 F vb ys) (sa : ∀ r ∈ xs, Small r) (sb : ∀ r ∈ ys, Small r) (hla : xs.length ≤ 2000000) :
    T Tryz.prog W0 54 #[va, vb] F (fun v H' => v = .bool (decide (xs = ys)) ∧ H' = F) := by
  obtain ⟨pa, ca, rfl, hca, hat⟩ := ha
  obtain ⟨pb, cb, rfl, hcb, hbt⟩ := hb
  refine T.intro (args := [_, _]) Tryz.func54 rfl Tryz.ntmps54 rfl ?_
  by_cases hl : xs.length = ys.length
  · repeat' first | refine Y.st ?_ | (refine nw ?_; intro _) | refine Y.kn ?_ | fail
    refine GC.loopE (ι := { k : Nat // k ≤ xs.length ∧ ∀ m, m < k → xs.getD m zeroR = ys.getD m zeroR }) (fun i => [(5, .int .i64 (i.1 : Int))]) [(0, _), (1, _)] (fun _ => F) (fun i => xs.length - i.1) ⟨0, Nat.zero_le _, fun m h => by omega⟩ ⟨rfl, rfl, rfl, trivial⟩ (fun _ h => h) ?_
    rintro ⟨k, hk, hall⟩
    dsimp only [List.cons_append, List.nil_append] at hk hall ⊢
    by_cases hlt : k < xs.length
    · obtain ⟨b1, o1, rfl, hc1⟩ := lies_get hat hlt
      obtain ⟨b2, o2, rfl, hc2⟩ := lies_get hbt (k := k) (by omega)
      have h1 := hc1 k hlt
      have h2 := hc2 k (by omega)
      repeat' first | refine Y.st ?_ | (refine nw ?_; intro _) | refine Y.kn ?_ | fail
      refine GC.drawnH [(0, .read), (1, .read), (2, .read), (3, .read), (4, .read), (5, .read), (6, .read), (7, .read), (8, .read)] (by kernel_rfl) (by kernel_rfl) rfl ?_
      repeat' first | refine Y.st ?_ | (refine nw ?_; intro _) | refine Y.kn ?_ | fail
      refine G.rd (Rd.neqRu (xs.getD k zeroR) (ys.getD k zeroR) rfl rfl (getD_small sa hlt).1 (getD_small sb (by omega)).1) rfl rfl ?_
      by_cases he : xs.getD k zeroR = ys.getD k zeroR
      · repeat' first | refine Y.st ?_ | (refine nw ?_; intro _) | refine Y.kn ?_ | (refine sp ?_ ?_ <;> intro _) | fail
        exact GQ.back ⟨k + 1, by omega, fun m hm => by
          rcases Nat.lt_or_ge m k with h | h
          · exact hall m h
          · obtain rfl : m = k := by omega
            exact he⟩ (by simp only; omega) ⟨rfl, rfl, rfl, trivial⟩ (fun _ h => h)
      · have hne : ¬ xs = ys := fun h => he (by rw [h])
        repeat' first | refine Y.st ?_ | (refine nw ?_; intro _) | refine Y.kn ?_ | (refine sp ?_ ?_ <;> intro _) | fail
        exact GQ.pure1 rfl (.tmp rfl) (by rw [decide_eq_false hne])
    · obtain rfl : k = xs.length := by omega
      have heq : xs = ys := ext_getD hl hall
      repeat' first | refine Y.st ?_ | (refine nw ?_; intro _) | refine Y.kn ?_ | (refine sp ?_ ?_ <;> intro _) | fail
      exact GQ.pure1 rfl (.tmp rfl) (by rw [decide_eq_true heq])
  · have hne : ¬ xs = ys := fun h => hl (by rw [h])
    repeat' first | refine Y.st ?_ | (refine nw ?_; intro _) | refine Y.kn ?_ | (refine sp ?_ ?_ <;> intro _) | fail
    exact GQ.pure1 rfl (.tmp rfl) (by rw [decide_eq_false hne])
end
def fewL (l : List Ru) : Bool := l.all (fun r => decide (r.pat.length ≤ 300) && decide (r.alpn.length ≤ 300)) && decide (l.length ≤ 220)
section
variable {W0 : World} {F : Heap}
theorem few_spec (v : Value) (l : List Ru) (hv : RulesAt W0 F v l) (hl : l.length ≤ 140737488351232) : T Tryz.prog W0 59 #[v] F (fun u H' => u = .bool (fewL l) ∧ H' = F) := by
  obtain ⟨p, c, rfl, hc, hat⟩ := hv
  refine T.intro (args := [_]) Tryz.func59 rfl Tryz.ntmps59 rfl ?_
  repeat' first | refine Y.st ?_ | (refine nw ?_; intro _) | refine Y.kn ?_ | fail
  refine GC.loopE (ι := { k : Nat // k ≤ l.length ∧ ∀ m, m < k → (l.getD m zeroR).pat.length ≤ 300 ∧ (l.getD m zeroR).alpn.length ≤ 300 }) (fun i => [(3, .int .i64 (i.1 : Int))]) [(0, _)] (fun _ => F) (fun i => l.length - i.1) ⟨0, Nat.zero_le _, fun m h => by omega⟩ ⟨rfl, rfl, trivial⟩ (fun _ h => h) ?_
  rintro ⟨k, hk, hall⟩
  dsimp only [List.cons_append, List.nil_append] at hk hall ⊢
  by_cases hlt : k < l.length
  · obtain ⟨b, o, rfl, hc1⟩ := lies_get hat hlt
    have h2 : ∀ w, Own W0 F w → w.cell? ⟨b, o + k * 5 + 2, none⟩ = some (S (l.getD k zeroR).pat) := fun w hw => hc1 k hlt w hw 2 _ rfl
    have h4 : ∀ w, Own W0 F w → w.cell? ⟨b, o + k * 5 + 4, none⟩ = some (S (l.getD k zeroR).alpn) := fun w hw => hc1 k hlt w hw 4 _ rfl
    by_cases hs : (l.getD k zeroR).pat.length ≤ 300 ∧ (l.getD k zeroR).alpn.length ≤ 300
    · repeat' first | refine Y.st ?_ | (refine nw ?_; intro _) | refine Y.kn ?_ | (refine sp ?_ ?_ <;> intro _) | fail
      all_goals first | (exfalso; omega) | skip
      exact GQ.back ⟨k + 1, by omega, fun m hm => by
        rcases Nat.lt_or_ge m k with h | h
        · exact hall m h
        · obtain rfl : m = k := by omega
          exact hs⟩ (by simp only; omega) ⟨rfl, rfl, trivial⟩ (fun _ h => h)
    · have hf : fewL l = false := by
        unfold fewL
        rw [List.all_eq_false.2 ⟨_, getD_mem hlt, by simp only [Bool.and_eq_true, decide_eq_true_eq]; exact hs⟩]; rfl
      repeat' first | refine Y.st ?_ | (refine nw ?_; intro _) | refine Y.kn ?_ | (refine sp ?_ ?_ <;> intro _) | fail
      all_goals first | (exfalso; omega) | exact GQ.pure1 rfl (.tmp rfl) (by rw [hf])
  · obtain rfl : k = l.length := by omega
    have hf : fewL l = decide (l.length ≤ 220) := by
      unfold fewL
      rw [List.all_eq_true.2 (fun r hr => by obtain ⟨i, hi, rfl⟩ := mem_getD hr; simp only [Bool.and_eq_true, decide_eq_true_eq]; exact hall i hi)]; simp
    rw [hf]
    by_cases h220 : l.length ≤ 220
    · repeat' first | refine Y.st ?_ | (refine nw ?_; intro _) | refine Y.kn ?_ | (refine sp ?_ ?_ <;> intro _) | fail
      exact GQ.pure1 rfl (.tmp rfl) (by simp [h220])
    · repeat' first | refine Y.st ?_ | (refine nw ?_; intro _) | refine Y.kn ?_ | (refine sp ?_ ?_ <;> intro _) | fail
      exact GQ.pure1 rfl (.tmp rfl) (by simp [h220])
end
section
variable {W W0 : World}
theorem lies_rule {v : VT} (h : VT.Lies Tryz.prog W 48 v) : ∃ r : Ru, v.val = ruV r ∧ v.cells = ruC r ∧ Sized r := by
  obtain ⟨ps, rfl, h1⟩ := Go.Own.Lies.agg h
  obtain ⟨a1, r1, rfl, k1, h1⟩ := lies_one h1
  obtain ⟨a2, r2, rfl, k2, h1⟩ := lies_one h1
  obtain ⟨a3, r3, rfl, k3, h1⟩ := lies_one h1
  obtain ⟨a4, r4, rfl, k4, h1⟩ := lies_one h1
  obtain ⟨a5, r5, rfl, k5, h1⟩ := lies_one h1
  obtain rfl := lies_nil h1
  obtain ⟨b, rfl⟩ := Go.Own.Lies.bool k1
  obtain ⟨n, rfl, hn⟩ := Go.Own.Lies.int k2
  obtain ⟨p, rfl, hp⟩ := Go.Own.Lies.str k3
  obtain ⟨m, rfl, hm⟩ := Go.Own.Lies.int k4
  obtain ⟨q, rfl, hq⟩ := Go.Own.Lies.str k5
  exact ⟨⟨b, n, p, m, q⟩, by simp [VT.val, VT.cells, VT.cellsL], by simp [VT.cells, VT.cellsL], hn, hm, hp, hq⟩
theorem lies_rules : ∀ {es : List VT}, VT.LiesAll Tryz.prog W 48 es → ∃ l : List Ru, l.length = es.length ∧ VT.cellsL es = l.flatMap ruC ∧ ∀ r ∈ l, Sized r
  | [], _ => ⟨[], rfl, by simp [VT.cellsL], by simp⟩
  | x :: es, h => by
    simp only [VT.LiesAll] at h
    obtain ⟨r, _, h2, h3⟩ := lies_rule h.1
    obtain ⟨l, k1, k2, k3⟩ := lies_rules h.2
    refine ⟨r :: l, by simp [k1], ?_, ?_⟩
    · rw [VT.cellsL, h2, k2, List.flatMap_cons]
    · intro y hy
      rcases List.mem_cons.1 hy with rfl | hy
      · exact h3
      · exact k3 y hy
/-- A row of rules that came in. -/
theorem lies_rulesAt {v : VT} (h : VT.Lies Tryz.prog W 22 v) : ∃ (l : List Ru) (p : Option Addr) (c : Nat), (∀ r ∈ l, Sized r) ∧ l.length ≤ 140737488351232 ∧ v.val = .slice p l.length c ∧ l.length ≤ c ∧ ∀ F, Go.Tri.Lies W F p (l.flatMap ruC) := by
  obtain ⟨p, c, es, rfl, hp, hc, hc2, hat, hes⟩ := Go.Own.Lies.slice h
  obtain ⟨l, h1, h2, h3⟩ := lies_rules hes
  rw [show Tryz.prog.bytesOf 48 = 56 by kernel_rfl] at hc2
  rw [h2] at hat
  exact ⟨l, p, c, h3, by omega, by simp [VT.val, h1], by omega, fun F => lies_base hat⟩
/-! ### What a statement with few rules leans on -/
theorem few_true {l : List Ru} (h : fewL l = true) : l.length ≤ 220 ∧ ∀ r ∈ l, r.pat.length ≤ 300 ∧ r.alpn.length ≤ 300 := by
  unfold fewL at h
  rw [Bool.and_eq_true, decide_eq_true_eq] at h
  refine ⟨h.2, fun r hr => ?_⟩
  have := List.all_eq_true.1 h.1 r hr
  simpa using this
theorem lies_all {W : World} {p : Option Addr} {rs : List Ru} (hat : ∀ F, Go.Tri.Lies W F p (rs.flatMap ruC)) {k : Nat} (hk : k < rs.length) :
    ∃ b o, p = some ⟨b, o, none⟩ ∧ ∀ H m, m < rs.length → ∀ w, Own W H w → CellsAt w b (o + m * 5) (ruC (rs.getD m zeroR)) := by
  obtain ⟨b, o, h1, _⟩ := lies_get (hat []) hk
  refine ⟨b, o, h1, fun H m hm => ?_⟩
  obtain ⟨b', o', h1', h2⟩ := lies_get (hat H) hk
  rw [h1] at h1'
  cases h1'
  exact h2 m hm
end
end Go.Tri
