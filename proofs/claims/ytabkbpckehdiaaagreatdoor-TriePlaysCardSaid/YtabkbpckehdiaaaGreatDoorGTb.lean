/-
  A TRIE: New, Rules, fits, Add.
  A TRIE: New, Rules, Add.
  A TRIE: Find.
-/
import Derived.Test.YtabkbpckehdiaaaGreatDoorGTa
import Derived.Test.YtabkbpckehdiaaaGreatDoorGPl
import Derived.DeepKeys4
namespace Go.Tri
open Go.Own Go.Proofs Go.RowKit Go.Lib Go.Asc Go.Adr Go.Nam
attribute [local irreducible] GC GQ G Rd Eff T
set_option maxRecDepth 20000
set_option maxHeartbeats 4000000
attribute [local irreducible] named patL matchL visL fitsL rightL

section
variable {W0 : World} {F : Heap}
/-! ### slices.Contains -/
theorem index_spec (l : List Lab) (x : Lab) (p : Option Addr) (c : Nat) (hc : l.length ≤ c) (hm : l.length ≤ 140737488351232) (hat : Lies W0 F p (strs l)) :
    T Tryz.prog W0 106 #[.slice p l.length c, S x] F (fun v H' => ∃ n : Int, v = .int .i64 n ∧ (0 ≤ n ↔ x ∈ l) ∧ H' = F) := by
  refine T.intro (args := [_, _]) Tryz.func106 rfl Tryz.ntmps106 rfl ?_
  repeat' first | refine Y.st ?_ | (refine nw ?_; intro _) | refine Y.kn ?_ | fail
  refine GC.loopE (ι := { k : Nat // k ≤ l.length ∧ x ∉ l.take k }) (fun i => [(8, .int .i64 (i.1 : Int))]) [(0, _), (1, _), (7, _)] (fun _ => F) (fun i => l.length - i.1) ⟨0, Nat.zero_le _, by simp⟩ ⟨rfl, rfl, rfl, rfl, trivial⟩ (fun _ h => h) ?_
  rintro ⟨k, hk, hx⟩
  dsimp only [List.cons_append, List.nil_append] at hk hx ⊢
  by_cases hlt : k < l.length
  · rcases hat with h0 | ⟨b, o, rfl, hat⟩
    · have := congrArg List.length h0; rw [strs_length] at this; simp at this; subst this; simp at hlt
    have hcell : ∀ w, Own W0 F w → w.cell? ⟨b, o + k * 1, none⟩ = some (S l[k]) := fun w hw => by
      have := hat.here hw k (S l[k]) (by simp [strs, hlt])
      rw [Nat.mul_one]; exact this
    by_cases he : x = l[k]
    · repeat' first | refine Y.st ?_ | (refine nw ?_; intro _) | refine Y.kn ?_ | (refine sp ?_ ?_ <;> intro _) | fail
      exact GQ.done1 rfl rfl ⟨(k : Int), rfl, ⟨fun _ => by rw [he]; exact List.getElem_mem hlt, fun _ => by omega⟩, rfl⟩
    · repeat' first | refine Y.st ?_ | (refine nw ?_; intro _) | refine Y.kn ?_ | (refine sp ?_ ?_ <;> intro _) | fail
      exact GQ.back ⟨k + 1, by omega, by rw [List.take_succ_eq_append_getElem hlt]; intro h; rcases List.mem_append.1 h with h | h; exact hx h; exact he (by simpa using h)⟩ (by simp only; omega) ⟨rfl, rfl, rfl, rfl, trivial⟩ (fun _ h => h)
  · obtain rfl : k = l.length := by omega
    rw [List.take_length] at hx
    repeat' first | refine Y.st ?_ | (refine nw ?_; intro _) | refine Y.kn ?_ | (refine sp ?_ ?_ <;> intro _) | fail
    exact GQ.done1 rfl rfl ⟨-1, rfl, ⟨fun h => by omega, fun h => absurd h hx⟩, rfl⟩
theorem contains_spec (l : List Lab) (x : Lab) (p : Option Addr) (c : Nat) (hc : l.length ≤ c) (hm : l.length ≤ 140737488351232) (hat : Lies W0 F p (strs l)) :
    T Tryz.prog W0 89 #[.slice p l.length c, S x] F (fun v H' => v = .bool (l.contains x) ∧ H' = F) := by
  refine T.intro (args := [_, _]) Tryz.func89 rfl Tryz.ntmps89 rfl ?_
  repeat' first | refine Y.st ?_ | (refine nw ?_; intro _) | refine Y.kn ?_ | fail
  refine G.ef rfl rfl rfl (Eff.callF rfl ((index_spec l x p c hc hm hat).mono ?_))
  rintro v H' ⟨n, rfl, hn, rfl⟩
  repeat' first | refine Y.st ?_ | (refine nw ?_; intro _) | refine Y.kn ?_ | (refine sp ?_ ?_ <;> intro _) | fail
  all_goals refine GQ.pure1 rfl (.tmp rfl) ?_
  all_goals congr 1
  all_goals rw [Bool.eq_iff_iff]; simp [← hn]
/-- Which slice of protocols an argument is. -/
structure AlpnAt (W0 : World) (F : Heap) (v : Value) (l : List Lab) : Prop where
  out : ∃ p c, v = .slice p l.length c ∧ l.length ≤ c ∧ Lies W0 F p (strs l)
  len : l.length ≤ 1000000
theorem AlpnAt.imp {F' : Heap} {v : Value} {l : List Lab} (h : AlpnAt W0 F v l) (hp : ∀ φ, RO W0 F φ → RO W0 F' φ) : AlpnAt W0 F' v l := by
  obtain ⟨p, c, h1, h2, h3⟩ := h.out
  exact ⟨⟨p, c, h1, h2, h3.imp hp⟩, h.len⟩
theorem fits_spec (r : Ru) (port : Int) (v : Value) (alpn : List Lab) (ha : AlpnAt W0 F v alpn) : T Tryz.prog W0 53 #[ruV r, .int .i64 port, v] F (fun u H' => u = .bool (fitsL r port alpn) ∧ H' = F) := by
  obtain ⟨⟨p, c, rfl, hc, hat⟩, hlen⟩ := ha
  refine T.intro (args := [_, _, _]) Tryz.func53 rfl Tryz.ntmps53 rfl ?_
  have fin : ∀ (q1 q2 : Prop) [Decidable q1] [Decidable q2] (q3 : Bool), (q1 ↔ (r.port = 0 ∨ r.port = port)) → (q3 = true ↔ (r.alpn = [] ∨ alpn.contains r.alpn = true)) → fitsL r port alpn = (decide q1 && q3) := by
    intro q1 q2 _ _ q3 h1 h3
    rw [Bool.eq_iff_iff, Bool.and_eq_true, decide_eq_true_eq, h1, h3]
    simp only [fitsL, Bool.and_eq_true, Bool.or_eq_true, decide_eq_true_eq]
  by_cases hp : r.port = 0 ∨ r.port = port
  · by_cases ha : r.alpn = []
    · have hf : fitsL r port alpn = true := by unfold fitsL; rw [ha]; simp [hp]
      repeat' first | refine Y.st ?_ | (refine nw ?_; intro _) | refine Y.kn ?_ | (refine sp ?_ ?_ <;> intro _) | fail
      all_goals first | (exfalso; contradiction) | (exfalso; omega) | exact GQ.pure1 rfl (.tmp rfl) (by rw [hf])
    · have hf : fitsL r port alpn = alpn.contains r.alpn := by unfold fitsL; simp [hp, ha]
      repeat' first | refine Y.st ?_ | (refine nw ?_; intro _) | refine Y.kn ?_ | (refine sp ?_ ?_ <;> intro _) | fail
      all_goals first | (exfalso; contradiction) | (exfalso; omega) | skip
      all_goals
        refine G.ef rfl rfl rfl (Eff.callF rfl ((contains_spec alpn r.alpn p c hc (by omega) (hat.cons _)).mono ?_))
        rintro v H' ⟨rfl, rfl⟩
        repeat' first | refine Y.st ?_ | (refine nw ?_; intro _) | refine Y.kn ?_ | (refine sp ?_ ?_ <;> intro _) | fail
        exact GQ.pure1 rfl (.tmp rfl) (by rw [hf])
  · have hf : fitsL r port alpn = false := by unfold fitsL; simp only [not_or] at hp; simp [hp]
    repeat' first | refine Y.st ?_ | (refine nw ?_; intro _) | refine Y.kn ?_ | (refine sp ?_ ?_ <;> intro _) | fail
    all_goals first | (exfalso; contradiction) | (exfalso; omega) | exact GQ.pure1 rfl (.tmp rfl) (by rw [hf])
end
/-! ### What a trie is, among what is owned -/
abbrev ruC (r : Ru) : List Value := [.bool r.allow, .int .i64 r.prio, S r.pat, .int .i64 r.port, S r.alpn]
theorem ruC_len (r : Ru) : (ruC r).length = 5 := rfl
def Sized (r : Ru) : Prop := (Lit.int .i64 r.prio).wf = true ∧ (Lit.int .i64 r.port).wf = true ∧ r.pat.length ≤ 140737488351232 ∧ r.alpn.length ≤ 140737488351232
theorem ruV_inj : ∀ a b : Ru, ruV a = ruV b → a = b := fun a b h => by
  have h1 : ruA a = ruA b := Value.agg.inj h
  have h2 := congrArg Array.toList h1
  obtain ⟨a1, a2, a3, a4, a5⟩ := a
  obtain ⟨b1, b2, b3, b4, b5⟩ := b
  simp only [List.cons.injEq, Value.bool.injEq, Value.int.injEq, true_and, and_true] at h2
  obtain ⟨e1, e2, e3, e4, e5⟩ := h2
  rw [e1, e2, e4, S_inj _ _ e3, S_inj _ _ e5]
theorem key_ok (r : Ru) (h : Sized r) : isK Tryz.prog 31 (ruV r) := by
  obtain ⟨h1, h2, h3, h4⟩ := h
  have hk : Tryz.prog.keyType 31 = true := by kernel_rfl
  have hc : Tryz.prog.cellsOf 31 = 5 := by kernel_rfl
  have c1 : Tryz.prog.cellsOf 4 = 1 := by kernel_rfl
  have c2 : Tryz.prog.cellsOf 3 = 1 := by kernel_rfl
  have c3 : Tryz.prog.cellsOf 9 = 1 := by kernel_rfl
  have hm3 : (⟨r.pat.toArray⟩ : ByteArray).size ≤ maxLen := by show r.pat.toArray.size ≤ _; simp [maxLen]; omega
  have hm4 : (⟨r.alpn.toArray⟩ : ByteArray).size ≤ maxLen := by show r.alpn.toArray.size ≤ _; simp [maxLen]; omega
  obtain ⟨d, hd⟩ : ∃ d, Tryz.prog.types.size = d + 1 := ⟨Tryz.prog.types.size - 1, by kernel_rfl⟩
  unfold isK keyOf
  rw [Tryz.underlying31]
  simp only [hk, Value.formed, Tryz.underlying31, hc, hd]
  simp [Program.keyLits, Tryz.underlying31, Tryz.underlying4, Tryz.underlying3, Tryz.underlying9, hc, c1, c2, c3, h1, h2, hm3, hm4, Value.cells]
instance : MapT Tryz.prog 67 31 3 (isK Tryz.prog 31) (.int .i64 0) :=
  ⟨Tryz.underlying67, keyLaws (Maps.Keyed.of_law (deep_law_laid (by kernel_rfl) (m := 3) (by omega) (of_decide_eq_true (by kernel_rfl)) (by kernel_rfl) (by kernel_rfl))), Tryz.zeroValue3⟩
end Go.Tri

namespace Go.Tri
open Go.Own Go.Proofs Go.RowKit Go.Lib Go.Asc Go.Adr Go.Nam
attribute [local irreducible] GC GQ G Rd Eff T
set_option maxRecDepth 20000
set_option maxHeartbeats 4000000
attribute [local irreducible] named patL matchL visL fitsL rightL

abbrev hasL (rs : List Ru) : List (Ru × Unit) := rs.map fun r => (dull r, ())
abbrev one1 : Unit → Value := fun _ => .int .i64 1
structure TrieAt (rs : List Ru) (rv av ve vl vm : Value) (oh : Obj) (Br Ba Hn : Heap) : Prop where
  rules : Buf 31 5 rv rs.length (rs.flatMap ruC) Br
  any : Buf 3 1 av (anyOf rs).length (ints (anyOf rs)) Ba
  node : NodeQ (famOf rs) ve vl vm Hn
  has : MapIs (isK Tryz.prog 31) (fun r : Ru => ruV r) one1 (hasL rs) oh
  fine : Fine rs
  len : rs.length ≤ 200
abbrev trieC (rv av ve vl vm : Value) (mh : Nat) : Array Value := #[rv, av, ve, vl, vm, .map (some mh)]
def TrieQ (rs : List Ru) (bt : Nat) (TH : Heap) : Prop := ∃ rv av ve vl vm mh oh Br Ba Hn, TrieAt rs rv av ve vl vm oh Br Ba Hn ∧
  TH = (bt, .cells (trieC rv av ve vl vm mh) 73 (0, 0)) :: (mh, oh) :: (Br ++ (Ba ++ Hn))
theorem hasL_get (rs : List Ru) (k : Ru) : getK (hasL rs) k = if k ∈ rs.map dull then some () else none := by
  induction rs with
  | nil => rfl
  | cons r rs ih =>
    simp only [hasL, List.map_cons, getK, List.mem_cons] at ih ⊢
    by_cases h : dull r = k
    · subst h; simp
    · rw [if_neg h, ih]; simp [Ne.symm h]
theorem famOf_nil : famOf [] = fun _ => ([], []) := rfl
theorem fam_len (rs : List Ru) (h : rs.length ≤ 200) : ∀ p, (famOf rs p).1.length ≤ 1000 ∧ (famOf rs p).2.length ≤ 1000 := fun p => by
  have h1 := idxF_len rs (isEx p)
  have h2 := idxF_len rs (isLo p)
  exact ⟨by show (idxF rs (isEx p)).length ≤ 1000; omega, by show (idxF rs (isLo p)).length ≤ 1000; omega⟩
section
variable {W0 : World} {F : Heap}
theorem new_spec : T Tryz.prog W0 23 #[] F (fun v H' => ∃ bt TH, v = .pointer (some ⟨bt, 0, none⟩) ∧ TrieQ [] bt TH ∧ H' = TH ++ F) := by
  refine T.intro (args := []) Tryz.func23 rfl Tryz.ntmps23 rfl ?_
  repeat' first | refine Y.st ?_ | (refine nw ?_; intro _) | refine Y.kn ?_ | fail
  refine G.ef rfl rfl rfl (Eff.makeMap (fun mh => ?_))
  repeat' first | refine Y.st ?_ | (refine nw ?_; intro _) | refine Y.kn ?_ | fail
  refine G.rd (Rd.build (cells := #[.slice none 0 0, .slice none 0 0, .slice none 0 0, .slice none 0 0, .map none, .map (some mh)]) rfl (by rfl)) rfl rfl ?_
  refine G.ef rfl rfl rfl (Eff.boxA rfl (fun bt => ?_))
  repeat' first | refine Y.st ?_ | (refine nw ?_; intro _) | refine Y.kn ?_ | (refine sp ?_ ?_ <;> intro _) | fail
  refine GQ.done1 rfl rfl ⟨bt, _, rfl, ⟨.slice none 0 0, .slice none 0 0, .slice none 0 0, .slice none 0 0, .map none, mh, .map #[] 0, [], [], [], ⟨.nil, .nil, ?_, .empty ruV_inj, fine_nil, by simp⟩, rfl⟩, rfl⟩
  rw [famOf_nil]; exact NodeH.empty _ _
theorem rules_one (rs : List Ru) : ∀ u ∈ rs.flatMap ruC, u.oneCell' = true := by
  intro u hu
  obtain ⟨r, _, h⟩ := List.mem_flatMap.1 hu
  simp only [ruC, List.mem_cons, List.not_mem_nil, or_false] at h
  rcases h with rfl | rfl | rfl | rfl | rfl <;> rfl
theorem rules_len (rs : List Ru) : (rs.flatMap ruC).length = rs.length * 5 := flat_len ruC 5 ruC_len rs
theorem clone_spec (rv : Value) (rs : List Ru) (B : Heap) (hb : Buf 31 5 rv rs.length (rs.flatMap ruC) B) (hlen : rs.length ≤ 200) :
    T Tryz.prog W0 56 #[rv] (B ++ F) (fun v H' => ∃ B', Buf 31 5 v rs.length (rs.flatMap ruC) B' ∧ H' = B' ++ (B ++ F)) := by
  have hl := rules_len rs
  refine T.intro (args := [_]) Tryz.func56 rfl Tryz.ntmps56 rfl ?_
  have h2 := hb
  obtain ⟨p, cap, hv, hc, hat⟩ := Buf.see h2
  rcases hb.parts with ⟨rfl, h0, hx, rfl⟩ | ⟨b, cap', extra, rfl, rfl, hcc, _, _⟩
  · repeat' first | refine Y.st ?_ | (refine nw ?_; intro _) | refine Y.kn ?_ | fail
    exact GQ.done1 rfl rfl ⟨[], by rw [h0, hx]; exact .nil, rfl⟩
  · repeat' first | refine Y.st ?_ | (refine nw ?_; intro _) | refine Y.kn ?_ | fail
    refine G.ef rfl rfl rfl (Eff.buildSlice (cells := #[]) rfl (by kernel_rfl) (by omega) (fun b2 => ?_))
    repeat' first | refine Y.st ?_ | (refine nw ?_; intro _) | refine Y.kn ?_ | fail
    refine G.ef rfl rfl rfl (Eff.app (hB := Buf.row b2 0 0 [] [] rfl rfl (Nat.le_refl _) (by omega)) rfl rfl (F := [(b, .cells (rs.flatMap ruC ++ extra).toArray 31 (0, 0))] ++ F) (hH := ⟨.refl _⟩) (by omega) hl (at_ahead (cs := rs.flatMap ruC) (extra := extra)) (rules_one rs) (by omega) (by omega) (fun v' B' hB' => ?_))
    repeat' first | refine Y.st ?_ | (refine nw ?_; intro _) | refine Y.kn ?_ | fail
    refine GQ.done1 rfl rfl ⟨B', by simpa using hB', rfl⟩
theorem ruless_spec {rs : List Ru} {bt : Nat} {TH : Heap} (h : TrieQ rs bt TH) : T Tryz.prog W0 28 #[.pointer (some ⟨bt, 0, none⟩)] (TH ++ F) (fun v H' => ∃ B', Buf 31 5 v rs.length (rs.flatMap ruC) B' ∧ H' = B' ++ (TH ++ F)) := by
  obtain ⟨rv, av, ve, vl, vm, mh, oh, Br, Ba, Hn, ha, rfl⟩ := h
  refine T.intro (args := [_]) Tryz.func28 rfl Tryz.ntmps28 rfl ?_
  repeat' first | refine Y.st ?_ | (refine nw ?_; intro _) | refine Y.kn ?_ | fail
  have q1 : ((bt, Obj.cells (trieC rv av ve vl vm mh) 73 (0, 0)) :: (mh, oh) :: (Br ++ (Ba ++ Hn)) ++ F).Perm (Br ++ ((bt, Obj.cells (trieC rv av ve vl vm mh) 73 (0, 0)) :: (mh, oh) :: (Ba ++ Hn) ++ F)) := by exact permC
  refine G.ef rfl rfl rfl (Eff.callP (first := #[]) (captured := #[]) rfl rfl q1 ((clone_spec rv rs Br ha.rules ha.len).mono ?_))
  rintro v H' ⟨B', h1, rfl⟩
  repeat' first | refine Y.st ?_ | (refine nw ?_; intro _) | refine Y.kn ?_ | fail
  refine GQ.heap (H' := B' ++ ((bt, Obj.cells (trieC rv av ve vl vm mh) 73 (0, 0)) :: (mh, oh) :: (Br ++ (Ba ++ Hn)) ++ F)) ?_ (fun w hw => hw.perm (q1.symm.append_left B'))
  exact GQ.done1 rfl rfl ⟨B', h1, rfl⟩
/-- What Add leaves. -/
def AddR (rs : List Ru) (r : Ru) (bt : Nat) (F : Heap) : Value → Heap → Prop := fun v H' => v = .int .i64 (addL rs r).2 ∧ ∃ TH, TrieQ (addL rs r).1 bt TH ∧ H'.Perm (TH ++ F)
theorem add_spec (hv : Vars W0) {rs : List Ru} {bt : Nat} {TH : Heap} (h : TrieQ rs bt TH) (r : Ru) (hs : Sized r) (hp : r.pat.length < 4294967281) :
    T Tryz.prog W0 24 #[.pointer (some ⟨bt, 0, none⟩), ruV r] (TH ++ F) (AddR rs r bt F) := by
  have h' := h
  obtain ⟨rv, av, ve, vl, vm, mh, oh, Br, Ba, Hn, ha, rfl⟩ := h
  have hrl := ha.len
  obtain ⟨p, cap, hrv, hc, hat⟩ := Buf.see ha.rules
  refine T.intro (args := [_, _]) Tryz.func24 rfl Tryz.ntmps24 rfl ?_
  repeat' first | refine Y.st ?_ | (refine nw ?_; intro _) | refine Y.kn ?_ | fail
  have keep : ∀ b3 b5 (o3 o5 : Obj) (k : Int), addL rs r = (rs, k) → ∀ w, Own W0 ((b5, o5) :: (b3, o3) :: ((bt, Obj.cells (trieC rv av ve vl vm mh) 73 (0, 0)) :: (mh, oh) :: (Br ++ (Ba ++ Hn)) ++ F)) w → Own W0 ((bt, Obj.cells (trieC rv av ve vl vm mh) 73 (0, 0)) :: (mh, oh) :: (Br ++ (Ba ++ Hn)) ++ F) w :=
    fun b3 b5 o3 o5 k _ w hw => hw.sub ((List.sublist_cons_self _ _).trans (List.sublist_cons_self _ _))
  rename_i b3 b5
  by_cases h0 : rightL r = 0
  case neg =>
    have hadd : addL rs r = (rs, rightL r) := by rw [addL, if_pos h0]
    repeat' first | refine Y.st ?_ | (refine nw ?_; intro _) | refine Y.kn ?_ | (refine sp ?_ ?_ <;> intro _) | fail
    refine GQ.heap ?_ (keep b3 b5 _ _ _ hadd)
    exact GQ.done1 rfl rfl ⟨by rw [hadd], _, by rw [hadd]; exact h', .refl _⟩
  by_cases h200 : rs.length = 200
  · have hadd : addL rs r = (rs, 2) := by rw [addL, if_neg (by simp [h0]), if_pos h200]
    have hlv : ∃ q c, rv = .slice q rs.length c := ⟨p, cap, hrv⟩
    subst hrv
    repeat' first | refine Y.st ?_ | (refine nw ?_; intro _) | refine Y.kn ?_ | (refine sp ?_ ?_ <;> intro _) | fail
    refine GQ.heap ?_ (keep b3 b5 _ _ _ hadd)
    exact GQ.done1 rfl rfl ⟨by rw [hadd], _, by rw [hadd]; exact h', .refl _⟩
  refine GC.heap (H' := (b5, .cells (ruA (dull r)) 31 (0, 0)) :: (b3, .cells (ruA r) 31 (0, 0)) :: ((bt, Obj.cells (trieC rv av ve vl vm mh) 73 (0, 0)) :: (mh, oh) :: (Br ++ (Ba ++ Hn)) ++ F)) ?_ (fun _ h => h)
  have hkok : isK Tryz.prog 31 (ruV (dull r)) := key_ok (dull r) hs
  subst hrv
  repeat' first | refine Y.st ?_ | (refine nw ?_; intro _) | refine Y.kn ?_ | fail
  refine GC.drawnH [(0, .read), (1, .read), (2, .read), (3, .read), (4, .read), (5, .read), (6, .read), (7, .read)] (by kernel_rfl) (by kernel_rfl) rfl ?_
  repeat' first | refine Y.st ?_ | (refine nw ?_; intro _) | refine Y.kn ?_ | fail
  refine G.rd (Rd.look (key := fun r : Ru => ruV r) (a := dull r) rfl rfl ha.has hkok) rfl rfl ?_
  have hlook : lookV one1 (hasL rs) (dull r) (.int .i64 0) = .int .i64 (if dull r ∈ rs.map dull then 1 else 0) := by
    have := hasL_get rs (dull r)
    by_cases hm : dull r ∈ rs.map dull
    · rw [if_pos hm] at this ⊢; simp only [lookV, this]
    · rw [if_neg hm] at this ⊢; simp only [lookV, this]
  rw [hlook]
  by_cases hm : dull r ∈ rs.map dull
  · have hadd : addL rs r = (rs, 7) := by rw [addL, if_neg (by simp [h0]), if_neg h200, if_pos hm]
    rw [if_pos hm]
    repeat' first | refine Y.st ?_ | (refine nw ?_; intro _) | refine Y.kn ?_ | (refine sp ?_ ?_ <;> intro _) | fail
    refine GQ.heap ?_ (keep b3 b5 _ _ _ hadd)
    exact GQ.done1 rfl rfl ⟨by rw [hadd], _, by rw [hadd]; exact h', .refl _⟩
  rw [if_neg hm]
  have hadd : addL rs r = (rs ++ [r], 0) := by rw [addL, if_neg (by simp [h0]), if_neg h200, if_neg hm]
  have hlen' : (rs ++ [r]).length ≤ 200 := by simp; omega
  have hfine' : Fine (rs ++ [r]) := by have := add_fine ha.fine r; rw [hadd] at this; exact this
  repeat' first | refine Y.st ?_ | (refine nw ?_; intro _) | refine Y.kn ?_ | fail
  refine GC.drawnH [(0, .read), (1, .read), (2, .read), (3, .read), (4, .read), (5, .tail)] (by kernel_rfl) (by kernel_rfl) rfl ?_
  repeat' first | refine Y.st ?_ | (refine nw ?_; intro _) | refine Y.kn ?_ | fail
  refine G.ef rfl rfl rfl (Eff.mapPut (key := fun r : Ru => ruV r) (val := one1) (a := dull r) (v := ()) rfl rfl rfl ha.has hkok (fun oh' hoh' => ?_))
  have hhas : putK (hasL rs) (dull r) () = hasL (rs ++ [r]) := by
    rw [putK_new (by rw [show (hasL rs).map Prod.fst = rs.map dull by simp [hasL]]; exact hm)]; simp [hasL]
  rw [hhas] at hoh'
  repeat' first | refine Y.st ?_ | (refine nw ?_; intro _) | refine Y.kn ?_ | fail
  refine GC.heap (H' := (b5, Obj.cells (ruA (dull r)) 31 (0, 0)) :: (b3, Obj.cells (ruA r) 31 (0, 0)) :: (bt, Obj.cells (trieC (.slice p rs.length cap) av ve vl vm mh) 73 (0, 0)) :: (mh, oh') :: (Br ++ (Ba ++ (Hn ++ F)))) ?_ (fun w hw => hw.perm (by simp))
  refine GC.drawn [(0, .read), (1, .read), (2, .read), (3, .read), (4, .read), (5, .read), (6, .eff), (7, .eff), (8, .read), (9, .read), (10, .tail)] ([(b3, Obj.cells (ruA r) 31 (0, 0)), (bt, Obj.cells (trieC (.slice p rs.length cap) av ve vl vm mh) 73 (0, 0))]) (by kernel_rfl) (by kernel_rfl) rfl ?_
  repeat' first | refine Y.st ?_ | (refine nw ?_; intro _) | refine Y.kn ?_ | fail
  refine G.eeP rfl rfl rfl (Eff.buildSlice (cells := ruA r) rfl (by kernel_rfl) (by omega) (fun b7 => ⟨fun w hw => hw.sub SubH.out, ?_⟩))
  have q1 : ((b7, Obj.cells (ruA r) 31 (0, 0)) :: (b5, Obj.cells (ruA (dull r)) 31 (0, 0)) :: (b3, Obj.cells (ruA r) 31 (0, 0)) :: (bt, Obj.cells (trieC (.slice p rs.length cap) av ve vl vm mh) 73 (0, 0)) :: (mh, oh') :: (Br ++ (Ba ++ (Hn ++ F)))).Perm (Br ++ ((b7, Obj.cells (ruA r) 31 (0, 0)) :: (b5, Obj.cells (ruA (dull r)) 31 (0, 0)) :: (b3, Obj.cells (ruA r) 31 (0, 0)) :: (bt, Obj.cells (trieC (.slice p rs.length cap) av ve vl vm mh) 73 (0, 0)) :: (mh, oh') :: (Ba ++ (Hn ++ F)))) := by exact permC
  refine G.eeP rfl rfl rfl (Eff.app (ys := ruC r) rfl ha.rules rfl (hH := ⟨q1⟩) (by omega) rfl (at_here (cs := ruC r)) (by have := rules_one [r]; simpa using this) (by omega) (by omega) (fun rv' Br' hBr => ⟨fun w hw => hw.sub SubH.out, ?_⟩))
  have hrv' : rv'.oneCell' = true := by cases hBr <;> rfl
  have hBr' : Buf 31 5 rv' (rs ++ [r]).length ((rs ++ [r]).flatMap ruC) Br' := by simpa using hBr
  repeat' first | refine Y.st ?_ | (refine nw ?_; intro _) | refine Y.kn ?_ | fail
  refine G.ef rfl rfl rfl (Eff.store rfl rfl hrv' (by simp) (by simp [Fz]) ?_)
  refine G.heap (H' := Br' ++ ((b7, Obj.cells (ruA r) 31 (0, 0)) :: (b5, Obj.cells (ruA (dull r)) 31 (0, 0)) :: (b3, Obj.cells (ruA r) 31 (0, 0)) :: (bt, Obj.cells (trieC rv' av ve vl vm mh) 73 (0, 0)) :: (mh, oh') :: (Ba ++ (Hn ++ F)))) ?_ (fun _ h => h)
  by_cases hst : r.pat = [42]
  · have hadd2 : famOf (rs ++ [r]) = famOf rs := famOf_snoc_any rs r hst
    have hany2 : anyOf (rs ++ [r]) = anyOf rs ++ [rs.length] := anyOf_snoc_any rs r hst
    have hal := idxF_len rs isAny
    repeat' first | refine Y.st ?_ | (refine nw ?_; intro _) | refine Y.kn ?_ | fail
    refine G.ef rfl rfl rfl (Eff.buildSlice (cells := #[.int .i64 (rs.length : Int)]) rfl (by kernel_rfl) (by omega) (fun b9 => ?_))
    repeat' first | refine Y.st ?_ | (refine nw ?_; intro _) | refine Y.kn ?_ | fail
    have q2 : ((b9, Obj.cells #[.int .i64 (rs.length : Int)] 3 (0, 0)) :: (Br' ++ ((b7, Obj.cells (ruA r) 31 (0, 0)) :: (b5, Obj.cells (ruA (dull r)) 31 (0, 0)) :: (b3, Obj.cells (ruA r) 31 (0, 0)) :: (bt, Obj.cells (trieC rv' av ve vl vm mh) 73 (0, 0)) :: (mh, oh') :: (Ba ++ (Hn ++ F))))).Perm (Ba ++ ((b9, Obj.cells #[.int .i64 (rs.length : Int)] 3 (0, 0)) :: (Br' ++ ((b7, Obj.cells (ruA r) 31 (0, 0)) :: (b5, Obj.cells (ruA (dull r)) 31 (0, 0)) :: (b3, Obj.cells (ruA r) 31 (0, 0)) :: (bt, Obj.cells (trieC rv' av ve vl vm mh) 73 (0, 0)) :: (mh, oh') :: (Hn ++ F))))) := by exact permC
    refine G.ef rfl rfl rfl (Eff.app (ys := ints [rs.length]) rfl ha.any rfl (hH := ⟨q2⟩) (by omega) rfl (at_here (cs := ints [rs.length])) (ints_one _) (by simp only [anyOf]; omega) (by simp only [anyOf]; omega) (fun av' Ba' hBa => ?_))
    have hav' : av'.oneCell' = true := by cases hBa <;> rfl
    repeat' first | refine Y.st ?_ | (refine nw ?_; intro _) | refine Y.kn ?_ | fail
    refine G.ef rfl rfl rfl (Eff.store rfl rfl hav' (by simp) (by simp [Fz]) ?_)
    refine G.heap (H' := Ba' ++ ((b9, Obj.cells #[.int .i64 (rs.length : Int)] 3 (0, 0)) :: (Br' ++ ((b7, Obj.cells (ruA r) 31 (0, 0)) :: (b5, Obj.cells (ruA (dull r)) 31 (0, 0)) :: (b3, Obj.cells (ruA r) 31 (0, 0)) :: (bt, Obj.cells (trieC rv' av' ve vl vm mh) 73 (0, 0)) :: (mh, oh') :: (Hn ++ F))))) ?_ (fun _ h => h)
    repeat' first | refine Y.st ?_ | (refine nw ?_; intro _) | refine Y.kn ?_ | fail
    have q3 : (Ba' ++ ((b9, Obj.cells #[.int .i64 (rs.length : Int)] 3 (0, 0)) :: (Br' ++ ((b7, Obj.cells (ruA r) 31 (0, 0)) :: (b5, Obj.cells (ruA (dull r)) 31 (0, 0)) :: (b3, Obj.cells (ruA r) 31 (0, 0)) :: (bt, Obj.cells (trieC rv' av' ve vl vm mh) 73 (0, 0)) :: (mh, oh') :: (Hn ++ F))))).Perm ([(b9, Obj.cells #[.int .i64 (rs.length : Int)] 3 (0, 0)), (b7, Obj.cells (ruA r) 31 (0, 0)), (b5, Obj.cells (ruA (dull r)) 31 (0, 0)), (b3, Obj.cells (ruA r) 31 (0, 0))] ++ ((bt, Obj.cells (trieC rv' av' ve vl vm mh) 73 (0, 0)) :: (mh, oh') :: (Br' ++ (Ba' ++ Hn)) ++ F)) := by exact permC
    refine GQ.heap (H' := (bt, Obj.cells (trieC rv' av' ve vl vm mh) 73 (0, 0)) :: (mh, oh') :: (Br' ++ (Ba' ++ Hn)) ++ F) ?_ (fun w hw => (hw.perm q3).sub (List.sublist_append_right _ _))
    refine GQ.done1 rfl rfl ⟨by rw [hadd], _, ⟨rv', av', ve, vl, vm, mh, oh', Br', Ba', Hn, ⟨by rw [hadd]; exact hBr', ?_, by rw [hadd, hadd2]; exact ha.node, by rw [hadd]; exact hoh', by rw [hadd]; exact hfine', by rw [hadd]; exact hlen'⟩, rfl⟩, .refl _⟩
    rw [hadd, hany2, List.length_append, ints_append]; exact hBa
  · have hadd2 := famOf_snoc rs r hst
    have hany2 : anyOf (rs ++ [r]) = anyOf rs := anyOf_snoc rs r hst
    have hrl := rest_len r.pat
    repeat' first | refine Y.st ?_ | (refine nw ?_; intro _) | refine Y.kn ?_ | fail
    refine GC.drawn [(0, .read), (1, .read), (2, .read), (3, .read), (5, .read), (6, .read), (4, .eff), (7, .tail)] ([]) (by kernel_rfl) (by kernel_rfl) rfl ?_
    repeat' first | refine Y.st ?_ | (refine nw ?_; intro _) | refine Y.kn ?_ | fail
    refine G.eeP rfl rfl rfl (Eff.callF rfl ((labels_spec hv (restL r.pat) (by omega)).mono ?_))
    rintro v H' ⟨lb, rfl, rfl⟩
    refine ⟨fun w hw => hw.sub SubH.out, ?_⟩
    refine G.heap (H' := (lb, Obj.cells (strs (labelsL (restL r.pat))).toArray 9 (0, 0)) :: (Br' ++ ((b7, Obj.cells (ruA r) 31 (0, 0)) :: (b5, Obj.cells (ruA (dull r)) 31 (0, 0)) :: (b3, Obj.cells (ruA r) 31 (0, 0)) :: (bt, Obj.cells (nodeC [rv', av] [.map (some mh)] ve vl vm) 73 (0, 0)) :: (mh, oh') :: (Ba ++ (Hn ++ F))))) ?_ (fun _ h => h)
    have q4 : ((lb, Obj.cells (strs (labelsL (restL r.pat))).toArray 9 (0, 0)) :: (Br' ++ ((b7, Obj.cells (ruA r) 31 (0, 0)) :: (b5, Obj.cells (ruA (dull r)) 31 (0, 0)) :: (b3, Obj.cells (ruA r) 31 (0, 0)) :: (bt, Obj.cells (nodeC [rv', av] [.map (some mh)] ve vl vm) 73 (0, 0)) :: (mh, oh') :: (Ba ++ (Hn ++ F))))).Perm ((bt, Obj.cells (nodeC [rv', av] [.map (some mh)] ve vl vm) 73 (0, 0)) :: (Hn ++ ((lb, Obj.cells (strs (labelsL (restL r.pat))).toArray 9 (0, 0)) :: (b7, Obj.cells (ruA r) 31 (0, 0)) :: (b5, Obj.cells (ruA (dull r)) 31 (0, 0)) :: (b3, Obj.cells (ruA r) 31 (0, 0)) :: (mh, oh') :: (Br' ++ (Ba ++ F))))) := by exact permC
    have hput := put_spec (W0 := W0) (wildL r.pat) rs.length (labelsL (restL r.pat)) lb (labelsL (restL r.pat)).length 0 0 (labelsL (restL r.pat)).length (by omega) (Nat.le_refl _) (fun _ => rfl) (famOf rs) ve vl vm Hn ((lb, Obj.cells (strs (labelsL (restL r.pat))).toArray 9 (0, 0)) :: (b7, Obj.cells (ruA r) 31 (0, 0)) :: (b5, Obj.cells (ruA (dull r)) 31 (0, 0)) :: (b3, Obj.cells (ruA r) 31 (0, 0)) :: (mh, oh') :: (Br' ++ (Ba ++ F))) bt [rv', av] [.map (some mh)] 73 ha.node (fam_len rs ha.len) inferInstance
    refine G.ef rfl rfl rfl (Eff.callP (first := #[]) (captured := #[]) rfl rfl q4 (hput.mono ?_))
    rintro v H' ⟨ve', vl', vm', Hn', rfl, hn', hpH⟩
    refine G.heap ?_ (fun w hw => hw.perm hpH)
    repeat' first | refine Y.st ?_ | (refine nw ?_; intro _) | refine Y.kn ?_ | fail
    have q5 : ((bt, Obj.cells (nodeC [rv', av] [.map (some mh)] ve' vl' vm') 73 (0, 0)) :: (Hn' ++ ((lb, Obj.cells (strs (labelsL (restL r.pat))).toArray 9 (0, 0)) :: (b7, Obj.cells (ruA r) 31 (0, 0)) :: (b5, Obj.cells (ruA (dull r)) 31 (0, 0)) :: (b3, Obj.cells (ruA r) 31 (0, 0)) :: (mh, oh') :: (Br' ++ (Ba ++ F))))).Perm ([(lb, Obj.cells (strs (labelsL (restL r.pat))).toArray 9 (0, 0)), (b7, Obj.cells (ruA r) 31 (0, 0)), (b5, Obj.cells (ruA (dull r)) 31 (0, 0)), (b3, Obj.cells (ruA r) 31 (0, 0))] ++ ((bt, Obj.cells (nodeC [rv', av] [.map (some mh)] ve' vl' vm') 73 (0, 0)) :: (mh, oh') :: (Br' ++ (Ba ++ Hn')) ++ F)) := by exact permC
    refine GQ.heap (H' := (bt, Obj.cells (trieC rv' av ve' vl' vm' mh) 73 (0, 0)) :: (mh, oh') :: (Br' ++ (Ba ++ Hn')) ++ F) ?_ (fun w hw => (hw.perm q5).sub (List.sublist_append_right _ _))
    refine GQ.done1 rfl rfl ⟨by rw [hadd], _, ⟨rv', av, ve', vl', vm', mh, oh', Br', Ba, Hn', ⟨by rw [hadd]; exact hBr', by rw [hadd, hany2]; exact ha.any, ?_, by rw [hadd]; exact hoh', by rw [hadd]; exact hfine', by rw [hadd]; exact hlen'⟩, rfl⟩, .refl _⟩
    rw [hadd, hadd2]; exact hn'
end
end Go.Tri

namespace Go.Tri
open Go.Own Go.Proofs Go.RowKit Go.Lib Go.Asc Go.Adr Go.Nam
attribute [local irreducible] GC GQ G Rd Eff T
set_option maxRecDepth 20000
set_option maxHeartbeats 4000000
attribute [local irreducible] named patL matchL visL fitsL rightL

theorem rowsOf_lt {rs : List Ru} {host : Lab} : ∀ row ∈ rowsOf rs host, ∀ k ∈ row, k < rs.length := by
  intro row hrow k hk
  simp only [rowsOf, List.mem_cons] at hrow
  rcases hrow with h | h
  · rw [h] at hk; exact (mem_idxF.1 hk).1
  · split at h
    · cases h
    · have e0 : famOf rs = famAt (famOf rs) [] := rfl
      rw [e0] at h
      rcases rowsG_rows _ _ _ _ h with h | ⟨d, _, h⟩
      · rw [h] at hk; exact (mem_idxF.1 hk).1
      · rw [h] at hk; exact (mem_idxF.1 hk).1
section
variable {fits : Nat → Bool} {prio : Nat → Int} {k a : Nat} {o : Option Nat}
theorem rowStep_no (hf : fits k = false) : rowStep fits prio o k = o := by simp [rowStep, hf]
theorem rowStep_first (hf : fits k = true) : rowStep fits prio none k = some k := by simp [rowStep, hf]
theorem rowStep_more (hf : fits k = true) (h : prio a < prio k) : rowStep fits prio (some a) k = some k := by simp [rowStep, hf, h]
theorem rowStep_less (hf : fits k = true) (h : ¬ prio a < prio k) : rowStep fits prio (some a) k = some a := by simp [rowStep, hf]; intro h'; exact absurd h' h
end
section
variable {fits : Nat → Bool} {prio : Nat → Int} {a b : Nat} {o : Option Nat} {row : List Nat}
theorem bestStep_none (h : rowBest fits prio row = none) : bestStep fits prio o row = o := by simp [bestStep, h]
theorem bestStep_first (h : rowBest fits prio row = some a) : bestStep fits prio none row = some a := by simp [bestStep, h]
theorem bestStep_more (h : rowBest fits prio row = some a) (hp : prio b ≤ prio a) : bestStep fits prio (some b) row = some a := by simp [bestStep, h, hp]
theorem bestStep_less (h : rowBest fits prio row = some a) (hp : ¬ prio b ≤ prio a) : bestStep fits prio (some b) row = some b := by simp only [bestStep, h, if_neg hp]
end
theorem rowsOf_len {rs : List Ru} {host : Lab} : ∀ row ∈ rowsOf rs host, row.length ≤ rs.length := by
  intro row hrow
  simp only [rowsOf, List.mem_cons] at hrow
  rcases hrow with h | h
  · rw [h]; exact idxF_len _ _
  · split at h
    · cases h
    · have e0 : famOf rs = famAt (famOf rs) [] := rfl
      rw [e0] at h
      rcases rowsG_rows _ _ _ _ h with h | ⟨d, _, h⟩
      · rw [h]; exact idxF_len _ _
      · rw [h]; exact idxF_len _ _
theorem rows_len {rs : List Ru} {host : Lab} {rows : List (List Nat)} (h : rows.filter (· ≠ []) = (rowsOf rs host).filter (· ≠ [])) : ∀ row ∈ rows, row.length ≤ rs.length := by
  intro row hrow
  by_cases h0 : row = []
  · rw [h0]; exact Nat.zero_le _
  · have h1 : row ∈ rows.filter (· ≠ []) := List.mem_filter.2 ⟨hrow, by simpa using h0⟩
    rw [h] at h1
    exact rowsOf_len row (List.mem_filter.1 h1).1
theorem rows_lt {rs : List Ru} {host : Lab} {rows : List (List Nat)} (h : rows.filter (· ≠ []) = (rowsOf rs host).filter (· ≠ [])) : ∀ row ∈ rows, ∀ k ∈ row, k < rs.length := by
  intro row hrow k hk
  have h1 : row ∈ rows.filter (· ≠ []) := List.mem_filter.2 ⟨hrow, by simp; rintro rfl; cases hk⟩
  rw [h] at h1
  exact rowsOf_lt row (List.mem_filter.1 h1).1 k hk
def optV : Option Nat → Value
  | none => .int .i64 (-1)
  | some n => .int .i64 (n : Int)
def resV (p : Ru × Nat × Bool) : Value := .tuple #[ruV p.1, .int .i64 (p.2.1 : Int), .bool p.2.2]
theorem rules_cells {W0 : World} {H : Heap} {rs : List Ru} {b o : Nat} (h : ∀ w, Own W0 H w → CellsAt w b o (rs.flatMap ruC)) {k : Nat} (hk : k < rs.length) : ∀ w, Own W0 H w → CellsAt w b (o + k * 5) (ruC (rs.getD k zeroR)) := fun w hw j u hj => by
  have hj5 : j < 5 := by have := (List.getElem?_eq_some_iff.1 hj).1; rw [ruC_len] at this; exact this
  rw [Nat.add_assoc]
  refine h w hw (k * 5 + j) u ?_
  rw [flat_get ruC 5 ruC_len rs k j hj5, List.getElem?_eq_getElem hk]
  rw [List.getD_eq_getElem?_getD, List.getElem?_eq_getElem hk] at hj
  exact hj
section
variable {W0 : World} {F : Heap}
theorem labels_len (l : Lab) : (labelsL l).length ≤ l.length + 1 := by
  unfold labelsL
  split
  · simp
  · rw [List.length_reverse, splitB_length]; have := List.count_le_length (a := (46 : UInt8)) (l := l); omega
theorem Find_spec (hv : Vars W0) {rs : List Ru} {bt : Nat} {TH : Heap} (h : TrieQ rs bt TH) (host : Lab) (hl : host.length < 4294967281) (port : Int) (v3 : Value) (alpn : List Lab) (hal : AlpnAt W0 F v3 alpn) :
    T Tryz.prog W0 26 #[.pointer (some ⟨bt, 0, none⟩), S host, .int .i64 port, v3] (TH ++ F) (fun v H' => v = resV (pickL rs (findB rs host port alpn)) ∧ H' = TH ++ F) := by
  obtain ⟨rv, av, ve, vl, vm, mh, oh, Br, Ba, Hn, ha, hTH⟩ := h
  obtain ⟨p, cap, hrv, hc, hat⟩ := Buf.see ha.rules
  have hlen := ha.len
  have hanyl := idxF_len rs isAny
  have hlabl : (labelsL host).length ≤ host.length + 1 := labels_len host
  subst hrv
  have hTHany : RowV W0 ((bt, Obj.cells (trieC (.slice p rs.length cap) av ve vl vm mh) 73 (0, 0)) :: (mh, oh) :: (Br ++ (Ba ++ Hn))) (anyOf rs) av := buf_row (Hr := (bt, Obj.cells (trieC (.slice p rs.length cap) av ve vl vm mh) 73 (0, 0)) :: (mh, oh) :: (Br ++ Hn)) ha.any (by exact permC)
  have hTHr : Lies W0 ((bt, Obj.cells (trieC (.slice p rs.length cap) av ve vl vm mh) 73 (0, 0)) :: (mh, oh) :: (Br ++ (Ba ++ Hn))) p (rs.flatMap ruC) := ((hat W0).app ((bt, Obj.cells (trieC (.slice p rs.length cap) av ve vl vm mh) 73 (0, 0)) :: (mh, oh) :: (Ba ++ Hn))).perm (by exact permC)
  subst hTH
  refine T.intro (args := [_, _, _, _]) Tryz.func26 rfl Tryz.ntmps26 rfl ?_
  repeat' first | refine Y.st ?_ | (refine nw ?_; intro _) | refine Y.kn ?_ | fail
  rename_i b8
  refine G.ef rfl rfl rfl (Eff.buildSlice (cells := #[av]) rfl (by obtain ⟨_, _, rfl, _⟩ := hTHany; kernel_rfl) (by omega) (fun b12 => ?_))
  iterate 3 refine Y.one ?_
  refine GC.cutE (ι := { i : List (List Nat) × List Value × Value × Heap // Buf 68 1 i.2.2.1 i.1.length i.2.1 i.2.2.2 ∧ RowsV W0 ((bt, Obj.cells (trieC (.slice p rs.length cap) av ve vl vm mh) 73 (0, 0)) :: (mh, oh) :: (Br ++ (Ba ++ Hn))) i.1 i.2.1 ∧ i.1.filter (· ≠ []) = (rowsOf rs host).filter (· ≠ []) ∧ i.1.length ≤ 4294967300 })
    (fun i => [(12, i.1.2.2.1)]) [(0, .pointer (some ⟨bt, 0, none⟩)), (2, .int .i64 port), (3, v3), (8, .pointer (some ⟨b8, 0, none⟩)), (11, .int .i64 (-1))] (fun i => i.1.2.2.2 ++ ((b8, Obj.cells (ruA zeroR) 31 (0, 0)) :: (((bt, Obj.cells (trieC (.slice p rs.length cap) av ve vl vm mh) 73 (0, 0)) :: (mh, oh) :: (Br ++ (Ba ++ Hn))) ++ F))) ?_ ?_
  · by_cases hh : host = []
    · subst hh
      repeat' first | refine Y.st ?_ | (refine nw ?_; intro _) | refine Y.kn ?_ | fail
      exact GQ.cutEnd ⟨([anyOf rs], [av], .slice (some ⟨b12, 0, none⟩) 1 1, [(b12, Obj.cells #[av] 68 (0, 0))]), Buf.row b12 1 1 [av] [] rfl rfl (Nat.le_refl _) (by omega), .cons hTHany .nil, by simp [rowsOf], by simp⟩ ⟨rfl, rfl, rfl, rfl, rfl, rfl, trivial⟩ (fun _ h => h)
    · repeat' first | refine Y.st ?_ | (refine nw ?_; intro _) | refine Y.kn ?_ | fail
      refine GC.drawn [(0, .read), (1, .read), (2, .read), (3, .read), (4, .read), (5, .eff), (6, .eff), (7, .tail), (8, .tail)] ([]) (by kernel_rfl) (by kernel_rfl) rfl ?_
      repeat' first | refine Y.st ?_ | (refine nw ?_; intro _) | refine Y.kn ?_ | fail
      refine G.eeP rfl rfl rfl (Eff.callF rfl ((labels_spec hv host (by omega)).mono ?_))
      rintro v H' ⟨lb, rfl, rfl⟩
      refine ⟨fun w hw => hw.sub SubH.out, ?_⟩
      refine G.heap (H' := (lb, Obj.cells (strs (labelsL host)).toArray 9 (0, 0)) :: (b12, Obj.cells #[av] 68 (0, 0)) :: (b8, Obj.cells (ruA zeroR) 31 (0, 0)) :: ((bt, Obj.cells (nodeC [.slice p rs.length cap, av] [.map (some mh)] ve vl vm) 73 (0, 0)) :: (mh, oh) :: (Br ++ (Ba ++ Hn)) ++ F)) ?_ (fun _ h => h)
      have q4 : ((lb, Obj.cells (strs (labelsL host)).toArray 9 (0, 0)) :: (b12, Obj.cells #[av] 68 (0, 0)) :: (b8, Obj.cells (ruA zeroR) 31 (0, 0)) :: ((bt, Obj.cells (nodeC [.slice p rs.length cap, av] [.map (some mh)] ve vl vm) 73 (0, 0)) :: (mh, oh) :: (Br ++ (Ba ++ Hn)) ++ F)).Perm ((bt, Obj.cells (nodeC [.slice p rs.length cap, av] [.map (some mh)] ve vl vm) 73 (0, 0)) :: (Hn ++ ((lb, Obj.cells (strs (labelsL host)).toArray 9 (0, 0)) :: (b12, Obj.cells #[av] 68 (0, 0)) :: (b8, Obj.cells (ruA zeroR) 31 (0, 0)) :: (mh, oh) :: (Br ++ (Ba ++ F))))) := by exact permC
      have hfind := find_spec (W0 := W0) (labelsL host) lb (by omega) (labelsL host).length 0 0 (labelsL host).length (by omega) (Nat.le_refl _) (fun _ => rfl) (famOf rs) ve vl vm Hn ((lb, Obj.cells (strs (labelsL host)).toArray 9 (0, 0)) :: (b12, Obj.cells #[av] 68 (0, 0)) :: (b8, Obj.cells (ruA zeroR) 31 (0, 0)) :: (mh, oh) :: (Br ++ (Ba ++ F))) bt [.slice p rs.length cap, av] [.map (some mh)] 73 ha.node inferInstance
      refine G.eeP rfl rfl rfl (Eff.callP (first := #[]) (captured := #[]) rfl rfl q4 (hfind.mono ?_))
      rintro v H' ⟨rows, vals, B, h1, h2, h3, h4, h5⟩
      refine ⟨fun w hw => (hw.sub (List.nil_sublist _)), ?_⟩
      refine G.heap ?_ (fun w hw => hw.perm h2)
      obtain ⟨q, qc, rfl, hqc, hqat⟩ := Buf.see h1
      have hrl : rows.length ≤ 4294967290 := by simp at h4; omega
      have q2 : (B ++ (((bt, Obj.cells (nodeC [.slice p rs.length cap, av] [.map (some mh)] ve vl vm) 73 (0, 0)) :: Hn) ++ ((lb, Obj.cells (strs (labelsL host)).toArray 9 (0, 0)) :: (b12, Obj.cells #[av] 68 (0, 0)) :: (b8, Obj.cells (ruA zeroR) 31 (0, 0)) :: (mh, oh) :: (Br ++ (Ba ++ F))))).Perm ([(b12, Obj.cells ([av] ++ []).toArray 68 (0, 0))] ++ (B ++ (((bt, Obj.cells (nodeC [.slice p rs.length cap, av] [.map (some mh)] ve vl vm) 73 (0, 0)) :: Hn) ++ ((lb, Obj.cells (strs (labelsL host)).toArray 9 (0, 0)) :: (b8, Obj.cells (ruA zeroR) 31 (0, 0)) :: (mh, oh) :: (Br ++ (Ba ++ F)))))) := by
        simp only [List.append_nil]
        exact permC
      have q3 : (B ++ (((bt, Obj.cells (nodeC [.slice p rs.length cap, av] [.map (some mh)] ve vl vm) 73 (0, 0)) :: Hn) ++ ((lb, Obj.cells (strs (labelsL host)).toArray 9 (0, 0)) :: (b12, Obj.cells #[av] 68 (0, 0)) :: (b8, Obj.cells (ruA zeroR) 31 (0, 0)) :: (mh, oh) :: (Br ++ (Ba ++ F))))).Perm ((((bt, Obj.cells (nodeC [.slice p rs.length cap, av] [.map (some mh)] ve vl vm) 73 (0, 0)) :: Hn) ++ ((lb, Obj.cells (strs (labelsL host)).toArray 9 (0, 0)) :: (b12, Obj.cells #[av] 68 (0, 0)) :: (b8, Obj.cells (ruA zeroR) 31 (0, 0)) :: (mh, oh) :: (Br ++ (Ba ++ F)))) ++ B) := by exact permC
      refine G.ef rfl rfl rfl (Eff.app (hB := Buf.row b12 1 1 [av] [] rfl rfl (Nat.le_refl _) (by omega)) rfl rfl (hH := ⟨q2⟩) (by omega) (by rw [h3.len, Nat.mul_one]) (fun w hw => (hqat W0).ro.own (((bt, Obj.cells (nodeC [.slice p rs.length cap, av] [.map (some mh)] ve vl vm) 73 (0, 0)) :: Hn) ++ ((lb, Obj.cells (strs (labelsL host)).toArray 9 (0, 0)) :: (b12, Obj.cells #[av] 68 (0, 0)) :: (b8, Obj.cells (ruA zeroR) 31 (0, 0)) :: (mh, oh) :: (Br ++ (Ba ++ F)))) w (hw.perm q3)) h3.one (by omega) (by omega) (fun v' B' hB' => ?_))
      repeat' first | refine Y.st ?_ | (refine nw ?_; intro _) | refine Y.kn ?_ | fail
      have hROT : ∀ φ, RO W0 ((bt, Obj.cells (nodeC [.slice p rs.length cap, av] [.map (some mh)] ve vl vm) 73 (0, 0)) :: Hn) φ → RO W0 ((bt, Obj.cells (trieC (.slice p rs.length cap) av ve vl vm mh) 73 (0, 0)) :: (mh, oh) :: (Br ++ (Ba ++ Hn))) φ := fun φ hφ => by
        have h6 : RO W0 ((bt, Obj.cells (trieC (.slice p rs.length cap) av ve vl vm mh) 73 (0, 0)) :: Hn) φ := hφ
        exact (h6.app ((mh, oh) :: (Br ++ Ba))).perm (by exact permC)
      have q5 : (B' ++ (B ++ (((bt, Obj.cells (nodeC [.slice p rs.length cap, av] [.map (some mh)] ve vl vm) 73 (0, 0)) :: Hn) ++ ((lb, Obj.cells (strs (labelsL host)).toArray 9 (0, 0)) :: (b8, Obj.cells (ruA zeroR) 31 (0, 0)) :: (mh, oh) :: (Br ++ (Ba ++ F)))))).Perm ((B ++ [(lb, Obj.cells (strs (labelsL host)).toArray 9 (0, 0))]) ++ (B' ++ ((b8, Obj.cells (ruA zeroR) 31 (0, 0)) :: ((bt, Obj.cells (nodeC [.slice p rs.length cap, av] [.map (some mh)] ve vl vm) 73 (0, 0)) :: (mh, oh) :: (Br ++ (Ba ++ Hn)) ++ F)))) := by exact permC
      refine GQ.cutEnd ⟨(anyOf rs :: rows, av :: vals, v', B'), by rw [List.length_cons, Nat.add_comm]; exact hB', .cons hTHany (h3.imp hROT), ?_, by simp; omega⟩ ⟨rfl, rfl, rfl, rfl, rfl, rfl, trivial⟩ (fun w hw => (hw.perm q5).sub (List.sublist_append_right _ _))
      simp only [rowsOf, if_neg hh, List.filter_cons, h5, List.drop_zero]
  rintro ⟨⟨rows, vals, v12, B⟩, hbuf, hrows, hfil, hrl⟩
  dsimp only at hbuf hrows hfil hrl ⊢
  obtain ⟨q, qc, rfl, hqc, hqat⟩ := Buf.see hbuf
  have hlt := rows_lt hfil
  have hbest : findB rs host port alpn = rows.foldl (bestStep (fun i => fitsL (rs.getD i zeroR) port alpn) (fun i => (rs.getD i zeroR).prio)) none := (bestOf_same _ _ hfil).symm
  have hal0 : AlpnAt W0 (B ++ ((b8, Obj.cells (ruA zeroR) 31 (0, 0)) :: (bt, Obj.cells (trieC (.slice p rs.length cap) av ve vl vm mh) 73 (0, 0)) :: (mh, oh) :: (Br ++ (Ba ++ Hn) ++ F))) v3 alpn := hal.imp (fun φ hφ => (hφ.app (B ++ ((b8, Obj.cells (ruA zeroR) 31 (0, 0)) :: ((bt, Obj.cells (trieC (.slice p rs.length cap) av ve vl vm mh) 73 (0, 0)) :: (mh, oh) :: (Br ++ (Ba ++ Hn)))))).perm (by exact permC))
  have hown : ∀ φ, RO W0 ((bt, Obj.cells (trieC (.slice p rs.length cap) av ve vl vm mh) 73 (0, 0)) :: (mh, oh) :: (Br ++ (Ba ++ Hn))) φ → ∀ w, Own W0 (B ++ ((b8, Obj.cells (ruA zeroR) 31 (0, 0)) :: (bt, Obj.cells (trieC (.slice p rs.length cap) av ve vl vm mh) 73 (0, 0)) :: (mh, oh) :: (Br ++ (Ba ++ Hn) ++ F))) w → φ w := fun φ hφ w hw => hφ (B ++ ((b8, Obj.cells (ruA zeroR) 31 (0, 0)) :: F)) w (hw.perm (by exact permC))
  repeat' first | refine Y.st ?_ | (refine nw ?_; intro _) | refine Y.kn ?_ | fail
  -- the rows, one behind the other
  refine GC.loopE (ι := { i : Nat × Option Nat // i.1 ≤ rows.length ∧ i.2 = (rows.take i.1).foldl (bestStep (fun i => fitsL (rs.getD i zeroR) port alpn) (fun i => (rs.getD i zeroR).prio)) none ∧ ∀ b, i.2 = some b → b < rs.length })
    (fun i => [(11, optV i.1.2), (35, .int .i64 (i.1.1 : Int))]) [(0, _), (2, _), (3, _), (8, _), (33, _), (34, _)] (fun _ => (B ++ ((b8, Obj.cells (ruA zeroR) 31 (0, 0)) :: (bt, Obj.cells (trieC (.slice p rs.length cap) av ve vl vm mh) 73 (0, 0)) :: (mh, oh) :: (Br ++ (Ba ++ Hn) ++ F)))) (fun i => rows.length - i.1.1) ⟨(0, none), Nat.zero_le _, rfl, fun b h => by cases h⟩ ⟨rfl, rfl, rfl, rfl, rfl, rfl, rfl, rfl, trivial⟩ (fun _ h => h) ?_
  rintro ⟨⟨k, best⟩, hk, hbk, hbl⟩
  dsimp only [List.cons_append, List.nil_append] at hk hbk hbl ⊢
  by_cases hlt1 : k < rows.length
  · obtain ⟨vr, hvr, pr, cr, rfl, hcr, hrat⟩ := hrows.get k hlt1
    have hvc : ∀ w, Own W0 (B ++ ((b8, Obj.cells (ruA zeroR) 31 (0, 0)) :: (bt, Obj.cells (trieC (.slice p rs.length cap) av ve vl vm mh) 73 (0, 0)) :: (mh, oh) :: (Br ++ (Ba ++ Hn) ++ F))) w → ∃ qb qo, q = some ⟨qb, qo, none⟩ ∧ w.cell? ⟨qb, qo + k * 1, none⟩ = some (.slice pr rows[k].length cr) := fun w hw => by
      rcases hqat W0 with h0 | ⟨qb, qo, h1, h2⟩
      · rw [h0] at hvr; simp at hvr
      · refine ⟨qb, qo, h1, ?_⟩
        rw [Nat.mul_one]
        exact h2 ((b8, Obj.cells (ruA zeroR) 31 (0, 0)) :: (bt, Obj.cells (trieC (.slice p rs.length cap) av ve vl vm mh) 73 (0, 0)) :: (mh, oh) :: (Br ++ (Ba ++ Hn) ++ F)) w (hw.perm (by exact permC)) k _ hvr
    obtain ⟨qb, qo, rfl, hqc2⟩ : ∃ qb qo, q = some ⟨qb, qo, none⟩ ∧ RO W0 B (fun w => CellsAt w qb qo vals) := by
      rcases hqat W0 with h0 | h
      · rw [h0] at hvr; simp at hvr
      · exact h
    have hvcell : ∀ w, Own W0 (B ++ ((b8, Obj.cells (ruA zeroR) 31 (0, 0)) :: (bt, Obj.cells (trieC (.slice p rs.length cap) av ve vl vm mh) 73 (0, 0)) :: (mh, oh) :: (Br ++ (Ba ++ Hn) ++ F))) w → w.cell? ⟨qb, qo + k * 1, none⟩ = some (.slice pr rows[k].length cr) := fun w hw => by
      rw [Nat.mul_one]
      exact hqc2 ((b8, Obj.cells (ruA zeroR) 31 (0, 0)) :: (bt, Obj.cells (trieC (.slice p rs.length cap) av ve vl vm mh) 73 (0, 0)) :: (mh, oh) :: (Br ++ (Ba ++ Hn) ++ F)) w (hw.perm (by exact permC)) k _ hvr
    have hrowlt := hlt rows[k] (List.getElem_mem hlt1)
    have hrowlen := rows_len hfil rows[k] (List.getElem_mem hlt1)
    repeat' first | refine Y.st ?_ | (refine nw ?_; intro _) | refine Y.kn ?_ | fail
    refine GC.loopE (ι := { i : Nat × Option Nat // i.1 ≤ rows[k].length ∧ i.2 = (rows[k].take i.1).foldl (rowStep (fun i => fitsL (rs.getD i zeroR) port alpn) (fun i => (rs.getD i zeroR).prio)) none ∧ ∀ b, i.2 = some b → b < rs.length })
      (fun i => [(15, optV i.1.2), (41, .int .i64 (i.1.1 : Int))]) [(0, _), (2, _), (3, _), (8, _), (11, _), (33, _), (34, _), (35, _), (39, _), (40, _)] (fun _ => (B ++ ((b8, Obj.cells (ruA zeroR) 31 (0, 0)) :: (bt, Obj.cells (trieC (.slice p rs.length cap) av ve vl vm mh) 73 (0, 0)) :: (mh, oh) :: (Br ++ (Ba ++ Hn) ++ F)))) (fun i => rows[k].length - i.1.1) ⟨(0, none), Nat.zero_le _, rfl, fun b h => by cases h⟩ ⟨rfl, rfl, rfl, rfl, rfl, rfl, rfl, rfl, rfl, rfl, rfl, rfl, trivial⟩ (fun _ h => h) ?_
    rintro ⟨⟨j, at_⟩, hj, hat_, hal_⟩
    dsimp only [List.cons_append, List.nil_append] at hj hat_ hal_ ⊢
    by_cases hlt2 : j < rows[k].length
    · rcases hrat with h0 | ⟨rb, ro, rfl, hrat⟩
      · have := congrArg List.length h0; rw [ints_length] at this; simp at this; rw [this] at hlt2; simp at hlt2
      have hkl := hrowlt rows[k][j] (List.getElem_mem hlt2)
      have hkcell : ∀ w, Own W0 (B ++ ((b8, Obj.cells (ruA zeroR) 31 (0, 0)) :: (bt, Obj.cells (trieC (.slice p rs.length cap) av ve vl vm mh) 73 (0, 0)) :: (mh, oh) :: (Br ++ (Ba ++ Hn) ++ F))) w → w.cell? ⟨rb, ro + j * 1, none⟩ = some (.int .i64 (rows[k][j] : Int)) := fun w hw => by
        rw [Nat.mul_one]
        exact hown _ hrat w hw j _ (by simp [ints, hlt2])
      obtain ⟨pb, po, rfl, hpat⟩ : ∃ pb po, p = some ⟨pb, po, none⟩ ∧ RO W0 ((bt, Obj.cells (trieC (.slice p rs.length cap) av ve vl vm mh) 73 (0, 0)) :: (mh, oh) :: (Br ++ (Ba ++ Hn))) (fun w => CellsAt w pb po (rs.flatMap ruC)) := by
        rcases hTHr with h0 | h
        · have := congrArg List.length h0; rw [rules_len] at this; simp only [List.length_nil] at this; omega
        · exact h
      have hrc : ∀ m, m < rs.length → ∀ w, Own W0 _ w → CellsAt w pb (po + m * 5) (ruC (rs.getD m zeroR)) := fun m hm => rules_cells (hown _ hpat) hm
      have hprio : ∀ m, m < rs.length → ∀ w, Own W0 _ w → w.cell? ⟨pb, po + m * 5 + 1, none⟩ = some (.int .i64 (rs.getD m zeroR).prio) := fun m hm w hw => hrc m hm w hw 1 _ rfl
      have hrck := hrc _ hkl
      have hprk := hprio _ hkl
      repeat' first | refine Y.st ?_ | (refine nw ?_; intro _) | refine Y.kn ?_ | fail
      refine GC.drawnH [(0, .read), (1, .read), (2, .read), (3, .read), (4, .read), (5, .read), (6, .read), (7, .read), (8, .read), (9, .eff), (10, .read), (11, .read), (12, .read), (13, .read), (14, .read), (15, .read), (16, .read), (17, .read), (18, .read), (19, .read), (20, .read), (21, .read), (22, .read), (23, .read), (24, .read), (25, .read), (26, .read), (27, .read), (28, .read), (29, .read), (30, .read), (31, .read), (32, .read)] (by kernel_rfl) (by kernel_rfl) rfl ?_
      repeat' first | refine Y.st ?_ | (refine nw ?_; intro _) | refine Y.kn ?_ | fail
      refine G.eeP rfl rfl rfl (Eff.callF rfl ((fits_spec (rs.getD rows[k][j] zeroR) port v3 alpn hal0).mono ?_))
      rintro v H' ⟨rfl, rfl⟩
      refine ⟨fun w hw => hw, ?_⟩
      have hnext : ∀ o, rowStep (fun i => fitsL (rs.getD i zeroR) port alpn) (fun i => (rs.getD i zeroR).prio) at_ rows[k][j] = o → o = (rows[k].take (j + 1)).foldl (rowStep (fun i => fitsL (rs.getD i zeroR) port alpn) (fun i => (rs.getD i zeroR).prio)) none := fun o ho => by
        rw [List.take_succ_eq_append_getElem hlt2, List.foldl_append, ← hat_]; exact ho.symm
      cases hf : fitsL (rs.getD rows[k][j] zeroR) port alpn with
      | false =>
        repeat' first | refine Y.st ?_ | (refine nw ?_; intro _) | refine Y.kn ?_ | (refine sp ?_ ?_ <;> intro _) | fail
        exact GQ.back ⟨(j + 1, at_), by omega, hnext _ (rowStep_no hf), hal_⟩ (by simp only; omega) ⟨rfl, rfl, rfl, rfl, rfl, rfl, rfl, rfl, rfl, rfl, rfl, rfl, trivial⟩ (fun _ h => h)
      | true =>
        cases at_ with
        | none =>
          repeat' first | refine Y.st ?_ | (refine nw ?_; intro _) | refine Y.kn ?_ | (refine sp ?_ ?_ <;> intro _) | fail
          exact GQ.back ⟨(j + 1, some rows[k][j]), by omega, hnext _ (rowStep_first hf), fun b hb => by cases hb; exact hkl⟩ (by simp only; omega) ⟨rfl, rfl, rfl, rfl, rfl, rfl, rfl, rfl, rfl, rfl, rfl, rfl, trivial⟩ (fun _ h => h)
        | some a =>
          have hal9 := hal_ a rfl
          have hpra := hprio a hal9
          by_cases hpp : (rs.getD a zeroR).prio < (rs.getD rows[k][j] zeroR).prio
          · repeat' first | refine Y.st ?_ | (refine nw ?_; intro _) | refine Y.kn ?_ | (refine sp ?_ ?_ <;> intro _) | fail
            exact GQ.back ⟨(j + 1, some rows[k][j]), by omega, hnext _ (rowStep_more hf hpp), fun b hb => by cases hb; exact hkl⟩ (by simp only; omega) ⟨rfl, rfl, rfl, rfl, rfl, rfl, rfl, rfl, rfl, rfl, rfl, rfl, trivial⟩ (fun _ h => h)
          · repeat' first | refine Y.st ?_ | (refine nw ?_; intro _) | refine Y.kn ?_ | (refine sp ?_ ?_ <;> intro _) | fail
            exact GQ.back ⟨(j + 1, some a), by omega, hnext _ (rowStep_less hf hpp), hal_⟩ (by simp only; omega) ⟨rfl, rfl, rfl, rfl, rfl, rfl, rfl, rfl, rfl, rfl, rfl, rfl, trivial⟩ (fun _ h => h)
    · obtain rfl : j = rows[k].length := by omega
      rw [List.take_length] at hat_
      have hrb : rowBest (fun i => fitsL (rs.getD i zeroR) port alpn) (fun i => (rs.getD i zeroR).prio) rows[k] = at_ := hat_.symm
      have hnext : ∀ o, bestStep (fun i => fitsL (rs.getD i zeroR) port alpn) (fun i => (rs.getD i zeroR).prio) best rows[k] = o → o = (rows.take (k + 1)).foldl (bestStep (fun i => fitsL (rs.getD i zeroR) port alpn) (fun i => (rs.getD i zeroR).prio)) none := fun o ho => by
        rw [List.take_succ_eq_append_getElem hlt1, List.foldl_append, ← hbk]; exact ho.symm
      cases at_ with
      | none =>
        repeat' first | refine Y.st ?_ | (refine nw ?_; intro _) | refine Y.kn ?_ | fail
        refine GC.drawnH [(0, .read), (1, .read), (2, .read), (3, .read), (4, .read), (5, .read), (6, .read), (7, .read), (8, .read), (9, .read), (10, .read), (11, .read), (12, .read), (13, .read), (14, .read), (15, .read), (16, .read), (17, .read), (18, .read), (19, .read), (20, .read), (21, .read), (22, .read), (23, .read), (24, .read)] (by kernel_rfl) (by kernel_rfl) rfl ?_
        repeat' first | refine Y.st ?_ | (refine nw ?_; intro _) | refine Y.kn ?_ | (refine sp ?_ ?_ <;> intro _) | fail
        exact GQ.back ⟨(k + 1, best), by omega, hnext _ (bestStep_none hrb), hbl⟩ (by simp only; omega) ⟨rfl, rfl, rfl, rfl, rfl, rfl, rfl, rfl, trivial⟩ (fun _ h => h)
      | some a =>
        have hal9 := hal_ a rfl
        cases best with
        | none =>
          repeat' first | refine Y.st ?_ | (refine nw ?_; intro _) | refine Y.kn ?_ | fail
          refine GC.drawnH [(0, .read), (1, .read), (2, .read), (3, .read), (4, .read), (5, .read), (6, .read), (7, .read), (8, .read), (9, .read), (10, .read), (11, .read), (12, .read), (13, .read), (14, .read), (15, .read), (16, .read), (17, .read), (18, .read), (19, .read), (20, .read), (21, .read), (22, .read), (23, .read), (24, .read)] (by kernel_rfl) (by kernel_rfl) rfl ?_
          repeat' first | refine Y.st ?_ | (refine nw ?_; intro _) | refine Y.kn ?_ | (refine sp ?_ ?_ <;> intro _) | fail
          exact GQ.back ⟨(k + 1, some a), by omega, hnext _ (bestStep_first hrb), hal_⟩ (by simp only; omega) ⟨rfl, rfl, rfl, rfl, rfl, rfl, rfl, rfl, trivial⟩ (fun _ h => h)
        | some b =>
          have hbl9 := hbl b rfl
          obtain ⟨pb, po, rfl, hpat⟩ : ∃ pb po, p = some ⟨pb, po, none⟩ ∧ RO W0 _ (fun w => CellsAt w pb po (rs.flatMap ruC)) := by
            rcases hTHr with h0 | h
            · have := congrArg List.length h0; rw [rules_len] at this; simp only [List.length_nil] at this; omega
            · exact h
          have hprio : ∀ m, m < rs.length → ∀ w, Own W0 _ w → w.cell? ⟨pb, po + m * 5 + 1, none⟩ = some (.int .i64 (rs.getD m zeroR).prio) := fun m hm w hw => rules_cells (hown _ hpat) hm w hw 1 _ rfl
          have hpra := hprio a hal9
          have hprb := hprio b hbl9
          by_cases hpp : (rs.getD b zeroR).prio ≤ (rs.getD a zeroR).prio
          · repeat' first | refine Y.st ?_ | (refine nw ?_; intro _) | refine Y.kn ?_ | fail
            refine GC.drawnH [(0, .read), (1, .read), (2, .read), (3, .read), (4, .read), (5, .read), (6, .read), (7, .read), (8, .read), (9, .read), (10, .read), (11, .read), (12, .read), (13, .read), (14, .read), (15, .read), (16, .read), (17, .read), (18, .read), (19, .read), (20, .read), (21, .read), (22, .read), (23, .read), (24, .read)] (by kernel_rfl) (by kernel_rfl) rfl ?_
            repeat' first | refine Y.st ?_ | (refine nw ?_; intro _) | refine Y.kn ?_ | (refine sp ?_ ?_ <;> intro _) | fail
            exact GQ.back ⟨(k + 1, some a), by omega, hnext _ (bestStep_more hrb hpp), hal_⟩ (by simp only; omega) ⟨rfl, rfl, rfl, rfl, rfl, rfl, rfl, rfl, trivial⟩ (fun _ h => h)
          · repeat' first | refine Y.st ?_ | (refine nw ?_; intro _) | refine Y.kn ?_ | fail
            refine GC.drawnH [(0, .read), (1, .read), (2, .read), (3, .read), (4, .read), (5, .read), (6, .read), (7, .read), (8, .read), (9, .read), (10, .read), (11, .read), (12, .read), (13, .read), (14, .read), (15, .read), (16, .read), (17, .read), (18, .read), (19, .read), (20, .read), (21, .read), (22, .read), (23, .read), (24, .read)] (by kernel_rfl) (by kernel_rfl) rfl ?_
            repeat' first | refine Y.st ?_ | (refine nw ?_; intro _) | refine Y.kn ?_ | (refine sp ?_ ?_ <;> intro _) | fail
            exact GQ.back ⟨(k + 1, some b), by omega, hnext _ (bestStep_less hrb hpp), hbl⟩ (by simp only; omega) ⟨rfl, rfl, rfl, rfl, rfl, rfl, rfl, rfl, trivial⟩ (fun _ h => h)
  · obtain rfl : k = rows.length := by omega
    rw [List.take_length, ← hbest] at hbk
    rw [← hbk]
    cases best with
    | none =>
      repeat' first | refine Y.st ?_ | (refine nw ?_; intro _) | refine Y.kn ?_ | fail
      refine G.rd (Rd.build (cells := ruA zeroR) rfl (by rfl)) rfl rfl ?_
      repeat' first | refine Y.st ?_ | (refine nw ?_; intro _) | refine Y.kn ?_ | fail
      refine GQ.res3h (v := ruV zeroR) rfl (.aggA rfl rfl) (.tmp rfl) (.tmp rfl) (((bt, Obj.cells (trieC (.slice p rs.length cap) av ve vl vm mh) 73 (0, 0)) :: (mh, oh) :: (Br ++ (Ba ++ Hn))) ++ F) (fun w hw => hw.sub ((List.sublist_cons_self _ _).trans (List.sublist_append_right B _))) ⟨rfl, rfl⟩
    | some b =>
      have hbl9 := hbl b rfl
      obtain ⟨pb, po, rfl, hpat⟩ : ∃ pb po, p = some ⟨pb, po, none⟩ ∧ RO W0 _ (fun w => CellsAt w pb po (rs.flatMap ruC)) := by
        rcases hTHr with h0 | h
        · have := congrArg List.length h0; rw [rules_len] at this; simp only [List.length_nil] at this; omega
        · exact h
      have hrb9 : ∀ w, Own W0 _ w → CellsAt w pb (po + b * 5) (ruC (rs.getD b zeroR)) := rules_cells (hown _ hpat) hbl9
      repeat' first | refine Y.st ?_ | (refine nw ?_; intro _) | refine Y.kn ?_ | fail
      refine GQ.res3h (v := ruV (rs.getD b zeroR)) rfl (.aggA rfl rfl) (.tmp rfl) (.tmp rfl) (((bt, Obj.cells (trieC (.slice (some ⟨pb, po, none⟩) rs.length cap) av ve vl vm mh) 73 (0, 0)) :: (mh, oh) :: (Br ++ (Ba ++ Hn))) ++ F) (fun w hw => hw.sub ((List.sublist_cons_self _ _).trans (List.sublist_append_right B _))) ⟨rfl, rfl⟩
end
end Go.Tri
