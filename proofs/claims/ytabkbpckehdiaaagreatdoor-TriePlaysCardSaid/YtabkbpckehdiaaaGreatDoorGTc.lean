/-
  THE DOCUMENT'S TRIE: patterns, rules, which counts.
  THE DOCUMENT'S TRIE: Add, Find, Same.
  THE DOCUMENT'S TRIE: Find.
  THE STATEMENTS' OWN HELPERS: Few, alpns, the small case.
  WHAT COMES INTO THE TRIE'S STATEMENTS: rules and rows of them, rows of texts.
-/
import Derived.Test.YtabkbpckehdiaaaGreatDoorGTb
import Derived.Test.YtabkbpckehdiaaaGreatDoorGRf
import Derived.Test.YtabkbpckehdiaaaGreatDoorGOwn
import Derived.Test.YtabkbpckehdiaaaGreatDoorGPl
import Derived.Test.YtabkbpckehdiaaaGreatDoorTabF
namespace Go.Tri
open Go.Own Go.Proofs Go.RowKit Go.Lib Go.Asc Go.Adr Go.Nam Go.Rfn
attribute [local irreducible] GC GQ G Rd Eff T
set_option maxRecDepth 20000
set_option maxHeartbeats 4000000
attribute [local irreducible] named patL matchL visL fitsL rightL countsL

/-! ### Are two rules the same -/
section
variable {W0 : World} {H : Heap} {e : Env} {x y : Operand}
theorem run_same (a b : Ru) (ha : Sized a) (hb : Sized b) (w : World) : (Op.equal 31 (ruV a) (ruV b)).run Tryz.prog w = .ok (decide (a = b)) w := by
  obtain ⟨la, hla⟩ := key_ok a ha
  obtain ⟨lb, hlb⟩ := key_ok b hb
  obtain ⟨r, hr, hiff⟩ := run_equal_deep (P := Tryz.prog) w (m := 3) (by omega) (k := 31) (by kernel_rfl) (by kernel_rfl) hla hlb
  rw [hr]
  congr 1
  rw [Bool.eq_iff_iff, hiff, decide_eq_true_eq]
  constructor
  · rintro rfl
    have K := Maps.Keyed.of_law (deep_law_laid (P := Tryz.prog) (by kernel_rfl) (m := 3) (by omega) (k := 31) (of_decide_eq_true (by kernel_rfl)) (by kernel_rfl) (by kernel_rfl))
    exact ruV_inj _ _ (K.inj hla hlb)
  · rintro rfl
    rw [hla] at hlb; exact Option.some.inj hlb
theorem Rd.eqlRu (a b : Ru) (hx : opv e x = some (ruV a)) (hy : opv e y = some (ruV b)) (ha : Sized a) (hb : Sized b) {t' : TypeId} : Rd Tryz.prog W0 H e (.binOp .eql 31 x y t') (.bool (decide (a = b))) := by
    delta Rd
    intro ρ hρ w _ op ho
    have hg : Tryz.prog.eqGuardType Tryz.prog.depth 31 = false := by kernel_rfl
    have h : (binOp .eql 31 (ruV a) (ruV b)).run Tryz.prog w = .ok (.bool (decide (a = b))) w := by
      simp only [binOp]; simp [run_same a b ha hb w]
    simp [execOp, ho, hρ x _ hx, hρ y _ hy, eqGuard, hg, h]
theorem Rd.neqRu (a b : Ru) (hx : opv e x = some (ruV a)) (hy : opv e y = some (ruV b)) (ha : Sized a) (hb : Sized b) {t' : TypeId} : Rd Tryz.prog W0 H e (.binOp .neq 31 x y t') (.bool (!decide (a = b))) := by
    delta Rd
    intro ρ hρ w _ op ho
    have hg : Tryz.prog.eqGuardType Tryz.prog.depth 31 = false := by kernel_rfl
    have h : (binOp .neq 31 (ruV a) (ruV b)).run Tryz.prog w = .ok (.bool (!decide (a = b))) w := by
      simp only [binOp]; simp [run_same a b ha hb w]
    simp [execOp, ho, hρ x _ hx, hρ y _ hy, eqGuard, hg, h]
end

section
variable {W0 : World} {F : Heap}
theorem rnamed_spec (s : List UInt8) (hl : s.length ≤ 8796093022207) : T Tryz.prog W0 86 #[S s] F (fun v H' => v = .bool (named s) ∧ H' = F) := by
  refine T.intro (args := [_]) Tryz.func86 rfl Tryz.ntmps86 rfl ?_
  rw [← named_eq]
  repeat' first | refine Y.st ?_ | (refine nw ?_; intro _) | refine Y.kn ?_ | (refine sp ?_ ?_ <;> intro _) | fail
  all_goals exact GQ.pure1 rfl (.tmp rfl) (by first | (rw [decide_eq_true ‹((normalL s).2 : Int) = 0›]; rfl) | (rw [decide_eq_false ‹¬ ((normalL s).2 : Int) = 0›]; rfl))
instance {s : List UInt8} : PureF Tryz.prog W0 86 [S s] (s.length ≤ 8796093022207) (.bool (named s)) := ⟨fun h _ => rnamed_spec s h⟩
def cutV (p : List UInt8) : Value := .tuple #[.int .i64 ((cutL p).1 : Int), S (cutL p).2]
theorem cut_spec (p : List UInt8) (hl : p.length ≤ 8796093022207) : T Tryz.prog W0 47 #[S p] F (fun v H' => v = cutV p ∧ H' = F) := by
  have hd : (p.drop 2).length ≤ 8796093022207 := by rw [List.length_drop]; omega
  have hq : (u8s ((parseL (p.drop 2)).getD zero16)).length = 16 := by rw [u8s_length]; exact addr_len _
  refine T.intro (args := [_]) Tryz.func47 rfl Tryz.ntmps47 rfl ?_
  by_cases h0 : p = [42]
  · have hc : cutL p = (0, []) := by rw [cutL, if_pos h0]
    repeat' first | refine Y.st ?_ | (refine nw ?_; intro _) | refine Y.kn ?_ | (refine sp ?_ ?_ <;> intro _) | fail
    exact GQ.pure2 rfl (.tmp rfl) (.tmp rfl) (by rw [cutV, hc]; rfl)
  · by_cases h2 : 2 < p.length
    · by_cases h3 : p.take 2 = [42, 46]
      · cases hp : (parseL (p.drop 2)).isSome with
        | true =>
          have hc : cutL p = (3, []) := by rw [cutL, if_neg h0, if_pos ⟨h2, h3⟩, if_pos (.inl hp)]
          repeat' first | refine Y.st ?_ | (refine nw ?_; intro _) | refine Y.kn ?_ | (refine sp ?_ ?_ <;> intro _) | fail
          exact GQ.pure2 rfl (.tmp rfl) (.tmp rfl) (by rw [cutV, hc]; rfl)
        | false =>
          cases hn : named (p.drop 2) with
          | true =>
            have hc : cutL p = (1, p.drop 2) := by rw [cutL, if_neg h0, if_pos ⟨h2, h3⟩, if_neg (by simp [hp, hn])]
            repeat' first | refine Y.st ?_ | (refine nw ?_; intro _) | refine Y.kn ?_ | fail
            refine GC.drawnH [(0, .read), (1, .read), (2, .read), (3, .read)] (by kernel_rfl) (by kernel_rfl) rfl ?_
            repeat' first | refine Y.st ?_ | (refine nw ?_; intro _) | refine Y.kn ?_ | (refine sp ?_ ?_ <;> intro _) | fail
            exact GQ.pure2 rfl (.tmp rfl) (.tmp rfl) (by rw [cutV, hc]; rfl)
          | false =>
            have hc : cutL p = (3, []) := by rw [cutL, if_neg h0, if_pos ⟨h2, h3⟩, if_pos (.inr hn)]
            repeat' first | refine Y.st ?_ | (refine nw ?_; intro _) | refine Y.kn ?_ | (refine sp ?_ ?_ <;> intro _) | fail
            exact GQ.pure2 rfl (.tmp rfl) (.tmp rfl) (by rw [cutV, hc]; rfl)
      · cases hn : named p with
        | true =>
          have hc : cutL p = (2, p) := by rw [cutL, if_neg h0, if_neg (fun h => h3 h.2), if_neg (by simp [hn])]
          repeat' first | refine Y.st ?_ | (refine nw ?_; intro _) | refine Y.kn ?_ | (refine sp ?_ ?_ <;> intro _) | fail
          exact GQ.pure2 rfl (.tmp rfl) (.tmp rfl) (by rw [cutV, hc]; rfl)
        | false =>
          have hc : cutL p = (3, []) := by rw [cutL, if_neg h0, if_neg (fun h => h3 h.2), if_pos hn]
          repeat' first | refine Y.st ?_ | (refine nw ?_; intro _) | refine Y.kn ?_ | (refine sp ?_ ?_ <;> intro _) | fail
          exact GQ.pure2 rfl (.tmp rfl) (.tmp rfl) (by rw [cutV, hc]; rfl)
    · cases hn : named p with
      | true =>
        have hc : cutL p = (2, p) := by rw [cutL, if_neg h0, if_neg (fun h => h2 h.1), if_neg (by simp [hn])]
        repeat' first | refine Y.st ?_ | (refine nw ?_; intro _) | refine Y.kn ?_ | (refine sp ?_ ?_ <;> intro _) | fail
        exact GQ.pure2 rfl (.tmp rfl) (.tmp rfl) (by rw [cutV, hc]; rfl)
      | false =>
        have hc : cutL p = (3, []) := by rw [cutL, if_neg h0, if_neg (fun h => h2 h.1), if_pos hn]
        repeat' first | refine Y.st ?_ | (refine nw ?_; intro _) | refine Y.kn ?_ | (refine sp ?_ ?_ <;> intro _) | fail
        exact GQ.pure2 rfl (.tmp rfl) (.tmp rfl) (by rw [cutV, hc]; rfl)
instance {s : List UInt8} : PureF Tryz.prog W0 47 [S s] (s.length ≤ 8796093022207) (.tuple #[.int .i64 ((cutL s).1 : Int), S (cutL s).2]) := ⟨fun h _ => cut_spec s h⟩
theorem cutL_len (p : List UInt8) : (cutL p).2.length ≤ p.length := by
  have := rest_len p
  rcases cut_cases p with ⟨_, h⟩ | ⟨_, _, h⟩ | ⟨_, _, h⟩ | ⟨_, _, _, h⟩ <;> rw [h] <;> simp <;> omega
theorem rmatches_spec (p host : List UInt8) (hl : p.length ≤ 8796093022207) (hh : host.length ≤ 8796093022207) : T Tryz.prog W0 20 #[S p, S host] F (fun v H' => v = .bool (matchL p host) ∧ H' = F) := by
  have hcl := cutL_len p
  rw [← ref_match]
  refine T.intro (args := [_, _]) Tryz.func20 rfl Tryz.ntmps20 rfl ?_
  obtain ⟨k, hk⟩ : ∃ k, (cutL p).1 = k := ⟨_, rfl⟩
  rcases cut_cases p with ⟨_, h⟩ | ⟨_, _, h⟩ | ⟨_, _, h⟩ | ⟨_, _, _, h⟩
  · have h1 : (cutL p).1 = 0 := by rw [h]
    have hr : refMatch p host = true := by simp [refMatch, h1]
    repeat' first | refine Y.st ?_ | (refine nw ?_; intro _) | refine Y.kn ?_ | (refine sp ?_ ?_ <;> intro _) | fail
    exact GQ.pure1 rfl (.tmp rfl) (by rw [hr])
  · have h1 : (cutL p).1 = 3 := by rw [h]
    have hr : refMatch p host = false := by simp [refMatch, h1]
    repeat' first | refine Y.st ?_ | (refine nw ?_; intro _) | refine Y.kn ?_ | (refine sp ?_ ?_ <;> intro _) | fail
    exact GQ.pure1 rfl (.tmp rfl) (by rw [hr])
  · have h1 : (cutL p).1 = 1 := by rw [h]
    have hr : refMatch p host = decide ((cutL p).2.length < host.length ∧ host.drop (host.length - (cutL p).2.length) = (cutL p).2 ∧ host.getD (host.length - (cutL p).2.length - 1) 0 = 46) := by simp [refMatch, h1]
    by_cases hlt : (cutL p).2.length < host.length
    · haveI : LeN (cutL p).2.length host.length := ⟨by omega⟩
      haveI : LeN 1 (host.length - (cutL p).2.length) := ⟨by omega⟩
      have hm : host.length - (cutL p).2.length - 1 < host.length := by omega
      have hgd : host.getD (host.length - (cutL p).2.length - 1) 0 = host[host.length - (cutL p).2.length - 1] := by rw [List.getD_eq_getElem?_getD, List.getElem?_eq_getElem hm]; rfl
      rw [hgd] at hr
      by_cases hd : host.drop (host.length - (cutL p).2.length) = (cutL p).2
      · by_cases h46 : host[host.length - (cutL p).2.length - 1] = 46
        · have hv : ((host[host.length - (cutL p).2.length - 1]).toNat : Int) = 46 := by rw [h46]; rfl
          repeat' first | refine Y.st ?_ | (refine nw ?_; intro _) | refine Y.kn ?_ | (refine sp ?_ ?_ <;> intro _) | fail
          exact GQ.pure1 rfl (.tmp rfl) (by rw [hr, decide_eq_true ⟨hlt, hd, h46⟩])
        · have hv : ¬ ((host[host.length - (cutL p).2.length - 1]).toNat : Int) = 46 := fun h9 => h46 (UInt8.toNat_inj.1 (by have : (46 : UInt8).toNat = 46 := rfl; omega))
          repeat' first | refine Y.st ?_ | (refine nw ?_; intro _) | refine Y.kn ?_ | (refine sp ?_ ?_ <;> intro _) | fail
          exact GQ.pure1 rfl (.tmp rfl) (by rw [hr, decide_eq_false (fun h9 => h46 h9.2.2)])
      · repeat' first | refine Y.st ?_ | (refine nw ?_; intro _) | refine Y.kn ?_ | (refine sp ?_ ?_ <;> intro _) | fail
        exact GQ.pure1 rfl (.tmp rfl) (by rw [hr, decide_eq_false (fun h9 => hd h9.2.1)])
    · repeat' first | refine Y.st ?_ | (refine nw ?_; intro _) | refine Y.kn ?_ | (refine sp ?_ ?_ <;> intro _) | fail
      exact GQ.pure1 rfl (.tmp rfl) (by rw [hr, decide_eq_false (fun h9 => hlt h9.1)])
  · have h1 : (cutL p).1 = 2 := by rw [h]
    have hr : refMatch p host = decide (host = (cutL p).2) := by simp [refMatch, h1]
    repeat' first | refine Y.st ?_ | (refine nw ?_; intro _) | refine Y.kn ?_ | (refine sp ?_ ?_ <;> intro _) | fail
    exact GQ.pure1 rfl (.tmp rfl) (by rw [hr])
instance {p host : List UInt8} : PureF Tryz.prog W0 20 [S p, S host] (p.length ≤ 8796093022207 ∧ host.length ≤ 8796093022207) (.bool (matchL p host)) := ⟨fun h _ => rmatches_spec p host h.1 h.2⟩
def wtR (p : List UInt8) : Int := if (cutL p).1 = 0 then 0 else 2 * ((labelsL (cutL p).2).length : Int) + ((cutL p).1 : Int) - 1
theorem wtR_of {r : Ru} (h : patL r.pat = true) : wtR r.pat = wtOf r := by
  rcases cut_cases r.pat with ⟨h1, h2⟩ | ⟨_, h1, _⟩ | ⟨_, h1, h2⟩ | ⟨h0, _, h1, h2⟩
  · rw [wtR, h2, wtOf, if_pos h1]; rfl
  · rw [h] at h1; cases h1
  · have hne := (wild_nm h h1).2.2.2
    rw [wtR, h2, wt_wild hne h1, if_neg (by simp)]; simp
  · rw [wtR, h2, wt_flat h0 h1, if_neg (by simp)]; simp; omega
theorem weight_spec (p : List UInt8) (hl : p.length ≤ 8796093022206) : T Tryz.prog W0 90 #[S p] F (fun v H' => v = .int .i64 (wtR p) ∧ H' = F) := by
  have hcl := cutL_len p
  have hll := labels_len (cutL p).2
  have hk3 : (cutL p).1 ≤ 3 := by rcases cut_cases p with ⟨_, h⟩ | ⟨_, _, h⟩ | ⟨_, _, h⟩ | ⟨_, _, _, h⟩ <;> rw [h] <;> simp
  refine T.intro (args := [_]) Tryz.func90 rfl Tryz.ntmps90 rfl ?_
  by_cases h0 : (cutL p).1 = 0
  · repeat' first | refine Y.st ?_ | (refine nw ?_; intro _) | refine Y.kn ?_ | (refine sp ?_ ?_ <;> intro _) | fail
    exact GQ.pure1 rfl (.tmp rfl) (by rw [wtR, if_pos h0])
  · repeat' first | refine Y.st ?_ | (refine nw ?_; intro _) | refine Y.kn ?_ | fail
    refine G.ef rfl rfl rfl (Eff.callF rfl ((rLabels_spec (cutL p).2 (by omega)).mono ?_))
    rintro v H' ⟨B, hb, rfl⟩
    obtain ⟨q, qc, rfl, _, _⟩ := Buf.see hb
    repeat' first | refine Y.st ?_ | (refine nw ?_; intro _) | refine Y.kn ?_ | (refine sp ?_ ?_ <;> intro _) | fail
    refine GQ.pure1 (hs := SubH.app) rfl (.tmp rfl) ?_
    rw [wtR, if_neg h0]
instance {p : List UInt8} : PureF Tryz.prog W0 90 [S p] (p.length ≤ 8796093022206) (.int .i64 (wtR p)) := ⟨fun h _ => weight_spec p h⟩
theorem rvisible_spec (l : List UInt8) (hl : l.length ≤ 8796093022206) : T Tryz.prog W0 48 #[S l] F (fun v H' => v = .bool (visL l) ∧ H' = F) := by
  refine T.intro (args := [_]) Tryz.func48 rfl Tryz.ntmps48 rfl ?_
  repeat' first | refine Y.st ?_ | (refine nw ?_; intro _) | refine Y.kn ?_ | fail
  refine GC.loopE (ι := { k : Nat // k ≤ l.length ∧ ∀ b ∈ l.take k, 33 ≤ b.toNat ∧ b.toNat ≤ 126 }) (fun i => [(3, .int .i64 (i.1 : Int))]) [(0, _)] (fun _ => F) (fun i => l.length - i.1) ⟨0, Nat.zero_le _, by simp⟩ ⟨rfl, rfl, trivial⟩ (fun _ h => h) ?_
  rintro ⟨k, hk, hall⟩
  dsimp only [List.cons_append, List.nil_append] at hk hall ⊢
  by_cases hlt : k < l.length
  · by_cases hb : 33 ≤ (l[k]).toNat ∧ (l[k]).toNat ≤ 126
    · repeat' first | refine Y.st ?_ | (refine nw ?_; intro _) | refine Y.kn ?_ | (refine sp ?_ ?_ <;> intro _) | fail
      all_goals first | (exfalso; omega) | skip
      exact GQ.back ⟨k + 1, by omega, by
        intro b hb'
        rw [List.take_succ_eq_append_getElem hlt] at hb'
        rcases List.mem_append.1 hb' with h | h
        · exact hall b h
        · simp at h; subst h; exact hb⟩ (by simp only; omega) ⟨rfl, rfl, trivial⟩ (fun _ h => h)
    · have hv : visL l = false := by
        unfold visL
        rw [List.all_eq_false.2 ⟨l[k], List.getElem_mem hlt, by simp only [Bool.and_eq_true, decide_eq_true_eq]; exact hb⟩]; rfl
      repeat' first | refine Y.st ?_ | (refine nw ?_; intro _) | refine Y.kn ?_ | (refine sp ?_ ?_ <;> intro _) | fail
      all_goals first | (exfalso; omega) | exact GQ.pure1 rfl (.tmp rfl) (by rw [hv])
  · obtain rfl : k = l.length := by omega
    rw [List.take_length] at hall
    have hv : visL l = !decide (l = []) := by
      unfold visL
      rw [List.all_eq_true.2 (fun b hb => by simp [hall b hb])]; simp
    repeat' first | refine Y.st ?_ | (refine nw ?_; intro _) | refine Y.kn ?_ | (refine sp ?_ ?_ <;> intro _) | fail
    all_goals exact GQ.pure1 rfl (.tmp rfl) (by rw [hv])
instance {l : List UInt8} : PureF Tryz.prog W0 48 [S l] (l.length ≤ 8796093022206) (.bool (visL l)) := ⟨fun h _ => rvisible_spec l h⟩
theorem cut_three {p : Lab} : ((cutL p).1 = 3 ↔ patL p = false) := by
  rcases cut_cases p with ⟨h1, h⟩ | ⟨_, h1, h⟩ | ⟨h1, _, h⟩ | ⟨_, h1, _, h⟩ <;> rw [h]
  · rw [h1, pat_star]; simp
  · simp [h1]
  · simp [h1]
  · simp [h1]
theorem rright_spec (r : Ru) (hl : r.pat.length ≤ 8796093022206) (hl2 : r.alpn.length ≤ 8796093022206) : T Tryz.prog W0 18 #[ruV r] F (fun v H' => v = .int .i64 (rightL r) ∧ H' = F) := by
  refine T.intro (args := [_]) Tryz.func18 rfl Tryz.ntmps18 rfl ?_
  have hct := cut_three (p := r.pat)
  by_cases h1 : r.prio < -1000 ∨ 1000 < r.prio
  · have hr : rightL r = 1 := by rw [rightL, if_pos h1]
    repeat' first | refine Y.st ?_ | (refine nw ?_; intro _) | refine Y.kn ?_ | (refine sp ?_ ?_ <;> intro _) | fail
    all_goals first | (exfalso; omega) | exact GQ.pure1 rfl (.tmp rfl) (by rw [hr])
  · by_cases h2 : (cutL r.pat).1 = 3
    · have hr : rightL r = 9 := by rw [rightL, if_neg h1, if_pos (hct.1 h2)]
      repeat' first | refine Y.st ?_ | (refine nw ?_; intro _) | refine Y.kn ?_ | (refine sp ?_ ?_ <;> intro _) | fail
      all_goals first | (exfalso; omega) | exact GQ.pure1 rfl (.tmp rfl) (by rw [hr])
    · have h2' : ¬ patL r.pat = false := fun h => h2 (hct.2 h)
      by_cases h3 : r.port < 0 ∨ 65535 < r.port
      · have hr : rightL r = 10 := by rw [rightL, if_neg h1, if_neg h2', if_pos h3]
        repeat' first | refine Y.st ?_ | (refine nw ?_; intro _) | refine Y.kn ?_ | (refine sp ?_ ?_ <;> intro _) | fail
        all_goals first | (exfalso; omega) | exact GQ.pure1 rfl (.tmp rfl) (by rw [hr])
      · cases h5 : visL r.alpn with
        | false =>
          by_cases h6 : r.alpn = []
          · have hlen : r.alpn.length = 0 := by rw [h6]; rfl
            have hr : rightL r = 0 := by rw [rightL, if_neg h1, if_neg h2', if_neg h3, if_neg (by simp [h6])]
            repeat' first | refine Y.st ?_ | (refine nw ?_; intro _) | refine Y.kn ?_ | (refine sp ?_ ?_ <;> intro _) | fail
            all_goals first | (exfalso; omega) | (exfalso; contradiction) | exact GQ.pure1 rfl (.tmp rfl) (by rw [hr])
          · have hr : rightL r = 1 := by rw [rightL, if_neg h1, if_neg h2', if_neg h3, if_pos (.inl ⟨h6, h5⟩)]
            repeat' first | refine Y.st ?_ | (refine nw ?_; intro _) | refine Y.kn ?_ | (refine sp ?_ ?_ <;> intro _) | fail
            all_goals first | (exfalso; omega) | (exfalso; contradiction) | exact GQ.pure1 rfl (.tmp rfl) (by rw [hr])
        | true =>
          by_cases h4 : 255 < r.alpn.length
          · have hr : rightL r = 1 := by rw [rightL, if_neg h1, if_neg h2', if_neg h3, if_pos (.inr h4)]
            repeat' first | refine Y.st ?_ | (refine nw ?_; intro _) | refine Y.kn ?_ | (refine sp ?_ ?_ <;> intro _) | fail
            all_goals first | (exfalso; omega) | (exfalso; contradiction) | exact GQ.pure1 rfl (.tmp rfl) (by rw [hr])
          · have hr : rightL r = 0 := by rw [rightL, if_neg h1, if_neg h2', if_neg h3, if_neg (by rw [h5]; simp; omega)]
            repeat' first | refine Y.st ?_ | (refine nw ?_; intro _) | refine Y.kn ?_ | (refine sp ?_ ?_ <;> intro _) | fail
            all_goals first | (exfalso; omega) | (exfalso; contradiction) | exact GQ.pure1 rfl (.tmp rfl) (by rw [hr])
instance {r : Ru} : PureF Tryz.prog W0 18 [.agg #[.bool r.allow, .int .i64 r.prio, S r.pat, .int .i64 r.port, S r.alpn]] (r.pat.length ≤ 8796093022206 ∧ r.alpn.length ≤ 8796093022206) (.int .i64 (rightL r)) := ⟨fun h _ => rright_spec r h.1 h.2⟩
def lessL (a b : Ru) : Bool := if a.prio = b.prio then decide (wtR a.pat < wtR b.pat) else decide (a.prio < b.prio)
theorem less_spec (a b : Ru) (ha : a.pat.length ≤ 8796093022206) (hb : b.pat.length ≤ 8796093022206) : T Tryz.prog W0 55 #[ruV a, ruV b] F (fun v H' => v = .bool (lessL a b) ∧ H' = F) := by
  refine T.intro (args := [_, _]) Tryz.func55 rfl Tryz.ntmps55 rfl ?_
  by_cases hp : a.prio = b.prio
  · repeat' first | refine Y.st ?_ | (refine nw ?_; intro _) | refine Y.kn ?_ | fail
    refine GC.drawnH [(0, .read), (1, .read), (3, .read), (4, .read), (2, .eff), (5, .tail), (6, .tail), (7, .tail)] (by kernel_rfl) (by kernel_rfl) rfl ?_
    repeat' first | refine Y.st ?_ | (refine nw ?_; intro _) | refine Y.kn ?_ | (refine sp ?_ ?_ <;> intro _) | fail
    exact GQ.pure1 rfl (.tmp rfl) (by rw [lessL, if_pos hp])
  · repeat' first | refine Y.st ?_ | (refine nw ?_; intro _) | refine Y.kn ?_ | (refine sp ?_ ?_ <;> intro _) | fail
    exact GQ.pure1 rfl (.tmp rfl) (by rw [lessL, if_neg hp])
theorem rcounts_spec (r : Ru) (host : Lab) (port : Int) (v3 : Value) (alpn : List Lab) (hal : AlpnAt W0 F v3 alpn) (hl : r.pat.length ≤ 8796093022206) (hh : host.length ≤ 8796093022206) :
    T Tryz.prog W0 54 #[ruV r, S host, .int .i64 port, v3] F (fun v H' => v = .bool (countsL r host port alpn) ∧ H' = F) := by
  obtain ⟨⟨p, c, rfl, hc, hat⟩, hlen⟩ := hal
  refine T.intro (args := [_, _, _, _]) Tryz.func54 rfl Tryz.ntmps54 rfl ?_
  repeat' first | refine Y.st ?_ | (refine nw ?_; intro _) | refine Y.kn ?_ | fail
  rename_i b4
  have h00 : (decide (r.alpn = []) || (alpn.take 0).contains r.alpn) = decide (r.alpn = []) := by simp
  refine GC.loopE (ι := { k : Nat // k ≤ alpn.length }) (fun i => [(9, .bool (decide (r.alpn = []) || (alpn.take i.1).contains r.alpn)), (10, .int .i64 (i.1 : Int))]) [(1, _), (2, _), (3, _), (4, _)] (fun _ => (b4, .cells (ruA r) 31 (0, 0)) :: F) (fun i => alpn.length - i.1) ⟨0, Nat.zero_le _⟩ ⟨(by first | rfl | (rw [h00]; rfl)), (by first | rfl | (rw [h00]; rfl)), (by first | rfl | (rw [h00]; rfl)), (by first | rfl | (rw [h00]; rfl)), (by first | rfl | (rw [h00]; rfl)), (by first | rfl | (rw [h00]; rfl)), trivial⟩ (fun _ h => h) ?_
  rintro ⟨k, hk⟩
  dsimp only [List.cons_append, List.nil_append] at hk ⊢
  by_cases hlt : k < alpn.length
  · rcases hat with h0 | ⟨b, o, rfl, hat⟩
    · have := congrArg List.length h0; rw [strs_length] at this; simp at this; subst this; simp at hlt
    have hcell : ∀ w, Own W0 ((b4, .cells (ruA r) 31 (0, 0)) :: F) w → w.cell? ⟨b, o + k * 1, none⟩ = some (S alpn[k]) := fun w hw => by
      have := (hat.cons _).here hw k (S alpn[k]) (by simp [strs, hlt])
      rw [Nat.mul_one]; exact this
    have hnext : (decide (r.alpn = []) || (alpn.take (k + 1)).contains r.alpn) = ((decide (r.alpn = []) || (alpn.take k).contains r.alpn) || decide (alpn[k] = r.alpn)) := by
      rw [List.take_succ_eq_append_getElem hlt, Bool.eq_iff_iff]
      simp only [List.contains_eq_mem, List.mem_append, List.mem_singleton, Bool.or_eq_true, decide_eq_true_eq]
      constructor
      · rintro (h | h | h)
        · exact .inl (.inl h)
        · exact .inl (.inr h)
        · exact .inr h.symm
      · rintro ((h | h) | h)
        · exact .inl h
        · exact .inr (.inl h)
        · exact .inr (.inr h.symm)
    cases hb : (decide (r.alpn = []) || (alpn.take k).contains r.alpn) with
    | true =>
      repeat' first | refine Y.st ?_ | (refine nw ?_; intro _) | refine Y.kn ?_ | fail
      refine GC.drawnH [(0, .read), (1, .read), (2, .read), (3, .read), (4, .read), (5, .read), (6, .read), (7, .read), (8, .read), (9, .read), (10, .read)] (by kernel_rfl) (by kernel_rfl) rfl ?_
      repeat' first | refine Y.st ?_ | (refine nw ?_; intro _) | refine Y.kn ?_ | (refine sp ?_ ?_ <;> intro _) | fail
      exact GQ.back ⟨k + 1, by omega⟩ (by simp only; omega) ⟨by dsimp only; rw [hnext, hb]; rfl, rfl, rfl, rfl, rfl, rfl, trivial⟩ (fun _ h => h)
    | false =>
      repeat' first | refine Y.st ?_ | (refine nw ?_; intro _) | refine Y.kn ?_ | fail
      refine GC.drawnH [(0, .read), (1, .read), (2, .read), (3, .read), (4, .read), (5, .read), (6, .read), (7, .read), (8, .read), (9, .read), (10, .read)] (by kernel_rfl) (by kernel_rfl) rfl ?_
      repeat' first | refine Y.st ?_ | (refine nw ?_; intro _) | refine Y.kn ?_ | (refine sp ?_ ?_ <;> intro _) | fail
      exact GQ.back ⟨k + 1, by omega⟩ (by simp only; omega) ⟨by dsimp only; rw [hnext, hb]; rfl, rfl, rfl, rfl, rfl, rfl, trivial⟩ (fun _ h => h)
  · obtain rfl : k = alpn.length := by omega
    have hcl : countsL r host port alpn = (matchL r.pat host && (decide (r.alpn = []) || alpn.contains r.alpn) && (decide (r.port = 0) || decide (r.port = port))) := by
      unfold countsL fitsL
      cases matchL r.pat host <;> cases (decide (r.alpn = []) || alpn.contains r.alpn) <;> cases (decide (r.port = 0) || decide (r.port = port)) <;> rfl
    rw [List.take_length]
    rw [hcl]
    repeat' first | refine Y.st ?_ | (refine nw ?_; intro _) | refine Y.kn ?_ | (refine sp ?_ ?_ <;> intro _) | fail
    all_goals exact GQ.pure1 rfl (.tmp rfl) (by simp_all)
end
end Go.Tri

namespace Go.Tri
open Go.Own Go.Proofs Go.RowKit Go.Lib Go.Asc Go.Adr Go.Nam Go.Rfn
attribute [local irreducible] GC GQ G Rd Eff T
set_option maxRecDepth 20000
set_option maxHeartbeats 4000000
attribute [local irreducible] named patL matchL visL fitsL rightL countsL

/-- Rules of bounded texts. -/
def Small (r : Ru) : Prop := Sized r ∧ r.pat.length ≤ 1000000 ∧ r.alpn.length ≤ 1000000
theorem small_dull {r : Ru} (h : Small r) : Small (dull r) := h
section
variable {W0 : World} {F : Heap}
/-- Where rules lie. -/
def RulesAt (W0 : World) (F : Heap) (v : Value) (rs : List Ru) : Prop := ∃ p c, v = .slice p rs.length c ∧ rs.length ≤ c ∧ Go.Tri.Lies W0 F p (rs.flatMap ruC)
theorem RulesAt.imp {F' : Heap} {v : Value} {rs : List Ru} (h : RulesAt W0 F v rs) (hp : ∀ φ, RO W0 F φ → RO W0 F' φ) : RulesAt W0 F' v rs := by
  obtain ⟨p, c, h1, h2, h3⟩ := h
  exact ⟨p, c, h1, h2, h3.imp hp⟩
theorem lies_get {H : Heap} {p : Option Addr} {rs : List Ru} (h : Go.Tri.Lies W0 H p (rs.flatMap ruC)) {k : Nat} (hk : k < rs.length) : ∃ b o, p = some ⟨b, o, none⟩ ∧ ∀ m, m < rs.length → ∀ w, Own W0 H w → CellsAt w b (o + m * 5) (ruC (rs.getD m zeroR)) := by
  rcases h with h0 | ⟨b, o, h1, h2⟩
  · have := congrArg List.length h0; rw [rules_len] at this; simp only [List.length_nil] at this; omega
  · exact ⟨b, o, h1, fun m hm => rules_cells (fun w hw => h2.here hw) hm⟩
theorem getD_small {rs : List Ru} (h : ∀ r ∈ rs, Small r) {k : Nat} (hk : k < rs.length) : Small (rs.getD k zeroR) := h _ (getD_mem hk)
theorem ext_getD {xs ys : List Ru} (hl : xs.length = ys.length) (h : ∀ k, k < xs.length → xs.getD k zeroR = ys.getD k zeroR) : xs = ys := by
  refine List.ext_getElem hl (fun k h1 h2 => ?_)
  have := h k h1
  rwa [List.getD_eq_getElem?_getD, List.getD_eq_getElem?_getD, List.getElem?_eq_getElem h1, List.getElem?_eq_getElem h2] at this
theorem same_spec (va vb : Value) (xs ys : List Ru) (ha : RulesAt W0 F va xs) (hb : RulesAt W0 F vb ys) (sa : ∀ r ∈ xs, Small r) (sb : ∀ r ∈ ys, Small r) (hla : xs.length ≤ 1000000) :
    T Tryz.prog W0 29 #[va, vb] F (fun v H' => v = .bool (decide (xs = ys)) ∧ H' = F) := by
  obtain ⟨pa, ca, rfl, hca, hat⟩ := ha
  obtain ⟨pb, cb, rfl, hcb, hbt⟩ := hb
  refine T.intro (args := [_, _]) Tryz.func29 rfl Tryz.ntmps29 rfl ?_
  by_cases hl : xs.length = ys.length
  · repeat' first | refine Y.st ?_ | (refine nw ?_; intro _) | refine Y.kn ?_ | fail
    refine GC.loopE (ι := { k : Nat // k ≤ xs.length ∧ ∀ m, m < k → xs.getD m zeroR = ys.getD m zeroR }) (fun i => [(5, .int .i64 (i.1 : Int))]) [(0, _), (1, _)] (fun _ => F) (fun i => xs.length - i.1) ⟨0, Nat.zero_le _, fun m h => by omega⟩ ⟨rfl, rfl, rfl, trivial⟩ (fun _ h => h) ?_
    rintro ⟨k, hk, hall⟩
    dsimp only [List.cons_append, List.nil_append] at hk hall ⊢
    by_cases hlt : k < xs.length
    · obtain ⟨b1, o1, rfl, hc1⟩ := lies_get hat hlt
      obtain ⟨b2, o2, rfl, hc2⟩ := lies_get hbt (k := k) (by omega)
      have h1 := hc1 k hlt
      have h2 := hc2 k (by omega)
      repeat' first | refine Y.st ?_ | (refine nw ?_; intro _) | refine Y.kn ?_ | fail
      refine GC.drawnH [(0, .read), (1, .read), (2, .read), (3, .read), (4, .read), (5, .read), (6, .read), (7, .read), (8, .read)] (by kernel_rfl) (by kernel_rfl) rfl ?_
      repeat' first | refine Y.st ?_ | (refine nw ?_; intro _) | refine Y.kn ?_ | fail
      refine G.rd (Rd.neqRu (xs.getD k zeroR) (ys.getD k zeroR) rfl rfl (getD_small sa hlt).1 (getD_small sb (by omega)).1) rfl rfl ?_
      by_cases he : xs.getD k zeroR = ys.getD k zeroR
      · repeat' first | refine Y.st ?_ | (refine nw ?_; intro _) | refine Y.kn ?_ | (refine sp ?_ ?_ <;> intro _) | fail
        exact GQ.back ⟨k + 1, by omega, fun m hm => by
          rcases Nat.lt_or_ge m k with h | h
          · exact hall m h
          · obtain rfl : m = k := by omega
            exact he⟩ (by simp only; omega) ⟨rfl, rfl, rfl, trivial⟩ (fun _ h => h)
      · have hne : ¬ xs = ys := fun h => he (by rw [h])
        repeat' first | refine Y.st ?_ | (refine nw ?_; intro _) | refine Y.kn ?_ | (refine sp ?_ ?_ <;> intro _) | fail
        exact GQ.pure1 rfl (.tmp rfl) (by rw [decide_eq_false hne])
    · obtain rfl : k = xs.length := by omega
      have heq : xs = ys := ext_getD hl hall
      repeat' first | refine Y.st ?_ | (refine nw ?_; intro _) | refine Y.kn ?_ | (refine sp ?_ ?_ <;> intro _) | fail
      exact GQ.pure1 rfl (.tmp rfl) (by rw [decide_eq_true heq])
  · have hne : ¬ xs = ys := fun h => hl (by rw [h])
    repeat' first | refine Y.st ?_ | (refine nw ?_; intro _) | refine Y.kn ?_ | (refine sp ?_ ?_ <;> intro _) | fail
    exact GQ.pure1 rfl (.tmp rfl) (by rw [decide_eq_false hne])
/-- The document's trie, among what is owned. -/
def RefQ (rs : List Ru) (by_ : Nat) (TH : Heap) : Prop := ∃ lv B, Buf 31 5 lv rs.length (rs.flatMap ruC) B ∧ TH = (by_, .cells #[lv] 42 (0, 0)) :: B ∧ (∀ r ∈ rs, Small r) ∧ rs.length ≤ 200 ∧ Fine rs
theorem dull_same {x r : Ru} : ({ x with allow := r.allow } : Ru) = r ↔ dull x = dull r := by
  obtain ⟨a1, a2, a3, a4, a5⟩ := x
  obtain ⟨b1, b2, b3, b4, b5⟩ := r
  simp [dull]
def RAddR (rs : List Ru) (r : Ru) (by_ : Nat) (F : Heap) : Value → Heap → Prop := fun v H' => v = .int .i64 (addL rs r).2 ∧ ∃ TH, RefQ (addL rs r).1 by_ TH ∧ H'.Perm (TH ++ F)
theorem radd_spec {rs : List Ru} {by_ : Nat} {TH : Heap} (h : RefQ rs by_ TH) (r : Ru) (hr : Small r) : T Tryz.prog W0 25 #[.pointer (some ⟨by_, 0, none⟩), ruV r] (TH ++ F) (RAddR rs r by_ F) := by
  have h' := h
  obtain ⟨lv, B, hb, rfl, hs, hlen, hfine⟩ := h
  obtain ⟨p, cap, rfl, hc, hat⟩ := Buf.see hb
  have hrl := hr.2.1
  have hrl2 := hr.2.2
  refine T.intro (args := [_, _]) Tryz.func25 rfl Tryz.ntmps25 rfl ?_
  repeat' first | refine Y.st ?_ | (refine nw ?_; intro _) | refine Y.kn ?_ | fail
  rename_i b3
  by_cases h0 : rightL r = 0
  case neg =>
    have hadd : addL rs r = (rs, rightL r) := by rw [addL, if_pos h0]
    repeat' first | refine Y.st ?_ | (refine nw ?_; intro _) | refine Y.kn ?_ | (refine sp ?_ ?_ <;> intro _) | fail
    refine GQ.heap (H' := (by_, .cells #[.slice p rs.length cap] 42 (0, 0)) :: B ++ F) ?_ (fun w hw => hw.sub (List.sublist_cons_self _ _))
    exact GQ.done1 rfl rfl ⟨by rw [hadd], _, by rw [hadd]; exact h', .refl _⟩
  by_cases h200 : rs.length = 200
  · have hadd : addL rs r = (rs, 2) := by rw [addL, if_neg (by simp [h0]), if_pos h200]
    repeat' first | refine Y.st ?_ | (refine nw ?_; intro _) | refine Y.kn ?_ | (refine sp ?_ ?_ <;> intro _) | fail
    refine GQ.heap (H' := (by_, .cells #[.slice p rs.length cap] 42 (0, 0)) :: B ++ F) ?_ (fun w hw => hw.sub (List.sublist_cons_self _ _))
    exact GQ.done1 rfl rfl ⟨by rw [hadd], _, by rw [hadd]; exact h', .refl _⟩
  repeat' first | refine Y.st ?_ | (refine nw ?_; intro _) | refine Y.kn ?_ | fail
  refine GC.loopE (ι := { k : Nat // k ≤ rs.length ∧ ∀ m, m < k → dull (rs.getD m zeroR) ≠ dull r }) (fun i => [(6, .int .i64 (i.1 : Int))]) [(0, _), (3, _)] (fun _ => (b3, Obj.cells (ruA r) 31 (0, 0)) :: (by_, Obj.cells #[.slice p rs.length cap] 42 (0, 0)) :: (B ++ F)) (fun i => rs.length - i.1) ⟨0, Nat.zero_le _, fun m h => by omega⟩ ⟨rfl, rfl, rfl, trivial⟩ (fun _ h => h) ?_
  rintro ⟨k, hk, hall⟩
  dsimp only [List.cons_append, List.nil_append] at hk hall ⊢
  by_cases hlt : k < rs.length
  · have hatF : Go.Tri.Lies W0 ((b3, Obj.cells (ruA r) 31 (0, 0)) :: (by_, Obj.cells #[.slice p rs.length cap] 42 (0, 0)) :: (B ++ F)) p (rs.flatMap ruC) := ((hat W0).app ((b3, Obj.cells (ruA r) 31 (0, 0)) :: (by_, Obj.cells #[.slice p rs.length cap] 42 (0, 0)) :: F)).perm (by exact permC)
    obtain ⟨b1, o1, rfl, hc1⟩ := lies_get hatF hlt
    have h1 := hc1 k hlt
    repeat' first | refine Y.st ?_ | (refine nw ?_; intro _) | refine Y.kn ?_ | fail
    refine G.rd (Rd.eqlRu { rs.getD k zeroR with allow := r.allow } r rfl rfl (getD_small hs hlt).1 hr.1) rfl rfl ?_
    by_cases he : ({ rs.getD k zeroR with allow := r.allow } : Ru) = r
    · have hmem : dull r ∈ rs.map dull := List.mem_map.2 ⟨_, getD_mem hlt, dull_same.1 he⟩
      have hadd : addL rs r = (rs, 7) := by rw [addL, if_neg (by simp [h0]), if_neg h200, if_pos hmem]
      repeat' first | refine Y.st ?_ | (refine nw ?_; intro _) | refine Y.kn ?_ | (refine sp ?_ ?_ <;> intro _) | fail
      refine GQ.heap (H' := (by_, Obj.cells #[.slice (some ⟨b1, o1, none⟩) rs.length cap] 42 (0, 0)) :: B ++ F) ?_ (fun w hw => hw.sub ((List.sublist_cons_self _ _).trans (List.sublist_cons_self _ _)))
      exact GQ.done1 rfl rfl ⟨by rw [hadd], _, by rw [hadd]; exact h', .refl _⟩
    · repeat' first | refine Y.st ?_ | (refine nw ?_; intro _) | refine Y.kn ?_ | (refine sp ?_ ?_ <;> intro _) | fail
      exact GQ.back ⟨k + 1, by omega, fun m hm => by
        rcases Nat.lt_or_ge m k with h | h
        · exact hall m h
        · obtain rfl : m = k := by omega
          exact fun h => he (dull_same.2 h)⟩ (by simp only; omega) ⟨rfl, rfl, rfl, trivial⟩ (fun w hw => hw.sub SubH.out)
  · obtain rfl : k = rs.length := by omega
    have hnm : dull r ∉ rs.map dull := by
      intro hm
      obtain ⟨x, hx, he⟩ := List.mem_map.1 hm
      obtain ⟨i, hi, rfl⟩ := mem_getD hx
      exact hall i hi he
    have hadd : addL rs r = (rs ++ [r], 0) := by rw [addL, if_neg (by simp [h0]), if_neg h200, if_neg hnm]
    have hlen' : (rs ++ [r]).length ≤ 200 := by have := add_len hlen r; rw [hadd] at this; exact this
    have hfine' : Fine (rs ++ [r]) := by have := add_fine hfine r; rw [hadd] at this; exact this
    have hs' : ∀ x ∈ rs ++ [r], Small x := by
      intro x hx
      rcases List.mem_append.1 hx with hx | hx
      · exact hs x hx
      · simp at hx; subst hx; exact hr
    have hfl := rules_len rs
    have hone : ∀ u ∈ ruC r, u.oneCell' = true := by have := rules_one [r]; simpa using this
    have h9 : ∀ v B9, Buf 31 5 v (0 + rs.length + 1) ([] ++ rs.flatMap ruC ++ ruC r) B9 → Buf 31 5 v (rs ++ [r]).length ((rs ++ [r]).flatMap ruC) B9 := fun v B9 h => by
      have e1 : 0 + rs.length + 1 = (rs ++ [r]).length := by simp
      have e2 : [] ++ rs.flatMap ruC ++ ruC r = (rs ++ [r]).flatMap ruC := by simp
      rw [← e1, ← e2]; exact h
    repeat' first | refine Y.st ?_ | (refine nw ?_; intro _) | refine Y.kn ?_ | fail
    refine GC.any [12] [(b3, Obj.cells (ruA r) 31 (0, 0)), (by_, Obj.cells #[.slice p rs.length cap] 42 (0, 0))] 13 rfl (by kernel_rfl) ?_
    refine GA.read 0 rfl (by kernel_rfl) (by kernel_rfl) (fun w hw => hw.sub SubH.out) (Rd.move rfl) rfl rfl ?_
    refine GA.read 2 rfl (by kernel_rfl) (by kernel_rfl) (fun w hw => hw.sub SubH.out) (Rd.move rfl) rfl rfl ?_
    refine GA.read 3 rfl (by kernel_rfl) (by kernel_rfl) (fun w hw => hw.sub SubH.out) (Rd.nilCheck rfl) rfl rfl ?_
    refine GA.read 4 rfl (by kernel_rfl) (by kernel_rfl) (fun w hw => hw.sub SubH.out) (Rd.fieldAddr rfl) rfl rfl ?_
    refine GA.read 5 rfl (by kernel_rfl) (by kernel_rfl) (fun w hw => hw.sub SubH.out) (Rd.load rfl (cellN rfl)) rfl rfl ?_
    refine GA.read 7 rfl (by kernel_rfl) (by kernel_rfl) (fun w hw => hw.sub SubH.out) (Rd.loadBlk (cs := ruC r) rfl rfl) rfl rfl ?_
    refine GA.two 1 8 (by kernel_rfl) rfl rfl rfl rfl rfl rfl (Eff.buildSlice (cells := #[]) rfl (by kernel_rfl) (by omega) (fun bA => ⟨fun _ w hw => hw.sub SubH.out, ?_⟩)) (Eff.buildSlice (cells := ruA r) rfl (by kernel_rfl) (by omega) (fun bB => ⟨fun _ w hw => hw.sub SubH.out, ?_⟩))
    · have qA : ((bA, Obj.cells #[] 31 (0, 0)) :: (b3, Obj.cells (ruA r) 31 (0, 0)) :: (by_, Obj.cells #[.slice p rs.length cap] 42 (0, 0)) :: (B ++ F)).Perm ([(bA, Obj.cells ([] ++ []).toArray 31 (0, 0))] ++ ((b3, Obj.cells (ruA r) 31 (0, 0)) :: (by_, Obj.cells #[.slice p rs.length cap] 42 (0, 0)) :: (B ++ F))) := by
        simp only [List.append_nil]
        exact permC
      have qS : ((bA, Obj.cells #[] 31 (0, 0)) :: (b3, Obj.cells (ruA r) 31 (0, 0)) :: (by_, Obj.cells #[.slice p rs.length cap] 42 (0, 0)) :: (B ++ F)).Perm (((bA, Obj.cells #[] 31 (0, 0)) :: (b3, Obj.cells (ruA r) 31 (0, 0)) :: (by_, Obj.cells #[.slice p rs.length cap] 42 (0, 0)) :: F) ++ B) := by exact permC
      refine GA.two 6 8 (by kernel_rfl) rfl rfl rfl rfl rfl rfl (Eff.app (ys := rs.flatMap ruC) (hB := Buf.row bA 0 0 [] [] rfl rfl (Nat.le_refl _) (by omega)) rfl rfl (hH := ⟨qA⟩) (by omega) hfl (fun w hw => (hat W0).ro.own ((bA, Obj.cells #[] 31 (0, 0)) :: (b3, Obj.cells (ruA r) 31 (0, 0)) :: (by_, Obj.cells #[.slice p rs.length cap] 42 (0, 0)) :: F) w (hw.perm qS)) (rules_one rs) (by omega) (by omega) (fun v6 B6 hB6 => ⟨fun _ w hw => hw.sub SubH.out, ?_⟩)) (Eff.buildSlice (cells := ruA r) rfl (by kernel_rfl) (by omega) (fun bB => ⟨fun _ w hw => hw.sub SubH.out, ?_⟩))
      · refine GA.toG [(8, .eff), (9, .eff), (10, .read), (11, .read), (12, .tail)] (by kernel_rfl) rfl ?_
        refine G.eeP rfl rfl rfl (Eff.buildSlice (cells := ruA r) rfl (by kernel_rfl) (by omega) (fun bB => ⟨fun w hw => hw.sub SubH.out, ?_⟩))
        have q9 : ((bB, Obj.cells (ruA r) 31 (0, 0)) :: (B6 ++ ((b3, Obj.cells (ruA r) 31 (0, 0)) :: (by_, Obj.cells #[.slice p rs.length cap] 42 (0, 0)) :: (B ++ F)))).Perm (B6 ++ ((bB, Obj.cells (ruA r) 31 (0, 0)) :: (b3, Obj.cells (ruA r) 31 (0, 0)) :: (by_, Obj.cells #[.slice p rs.length cap] 42 (0, 0)) :: (B ++ F))) := by exact permC
        refine G.eeP rfl rfl rfl (Eff.app (ys := ruC r) rfl hB6 rfl (hH := ⟨q9⟩) (by omega) rfl (at_here (cs := ruC r)) hone (by omega) (by omega) (fun v9 B9 hB9 => ⟨fun w hw => hw.sub SubH.out, ?_⟩))
        have hv9 : v9.oneCell' = true := by cases hB9 <;> rfl
        repeat' first | refine Y.st ?_ | (refine nw ?_; intro _) | refine Y.kn ?_ | fail
        refine G.ef rfl rfl rfl (Eff.store rfl rfl hv9 (by simp) (by simp [Fz]) ?_)
        refine G.heap (H' := B9 ++ ((bB, Obj.cells (ruA r) 31 (0, 0)) :: (b3, Obj.cells (ruA r) 31 (0, 0)) :: (by_, Obj.cells #[v9] 42 (0, 0)) :: (B ++ F))) ?_ (fun _ h => h)
        repeat' first | refine Y.st ?_ | (refine nw ?_; intro _) | refine Y.kn ?_ | fail
        have qE : (B9 ++ ((bB, Obj.cells (ruA r) 31 (0, 0)) :: (b3, Obj.cells (ruA r) 31 (0, 0)) :: (by_, Obj.cells #[v9] 42 (0, 0)) :: (B ++ F))).Perm (((bB, Obj.cells (ruA r) 31 (0, 0)) :: (b3, Obj.cells (ruA r) 31 (0, 0)) :: B) ++ ((by_, Obj.cells #[v9] 42 (0, 0)) :: B9 ++ F)) := by exact permC
        refine GQ.heap (H' := (by_, Obj.cells #[v9] 42 (0, 0)) :: B9 ++ F) ?_ (fun w hw => (hw.perm qE).sub (List.sublist_append_right _ _))
        exact GQ.done1 rfl rfl ⟨by rw [hadd], _, ⟨v9, B9, by rw [hadd]; exact h9 _ _ hB9, rfl, by rw [hadd]; exact hs', by rw [hadd]; exact hlen', by rw [hadd]; exact hfine'⟩, .refl _⟩
      · refine GA.toG [(6, .eff), (9, .eff), (10, .read), (11, .read), (12, .tail)] (by kernel_rfl) rfl ?_
        have qA : ((bB, Obj.cells (ruA r) 31 (0, 0)) :: (bA, Obj.cells #[] 31 (0, 0)) :: (b3, Obj.cells (ruA r) 31 (0, 0)) :: (by_, Obj.cells #[.slice p rs.length cap] 42 (0, 0)) :: (B ++ F)).Perm ([(bA, Obj.cells ([] ++ []).toArray 31 (0, 0))] ++ ((bB, Obj.cells (ruA r) 31 (0, 0)) :: (b3, Obj.cells (ruA r) 31 (0, 0)) :: (by_, Obj.cells #[.slice p rs.length cap] 42 (0, 0)) :: (B ++ F))) := by
          simp only [List.append_nil]
          exact permC
        have qS : ((bB, Obj.cells (ruA r) 31 (0, 0)) :: (bA, Obj.cells #[] 31 (0, 0)) :: (b3, Obj.cells (ruA r) 31 (0, 0)) :: (by_, Obj.cells #[.slice p rs.length cap] 42 (0, 0)) :: (B ++ F)).Perm (((bB, Obj.cells (ruA r) 31 (0, 0)) :: (bA, Obj.cells #[] 31 (0, 0)) :: (b3, Obj.cells (ruA r) 31 (0, 0)) :: (by_, Obj.cells #[.slice p rs.length cap] 42 (0, 0)) :: F) ++ B) := by exact permC
        refine G.eeP rfl rfl rfl (Eff.app (ys := rs.flatMap ruC) (hB := Buf.row bA 0 0 [] [] rfl rfl (Nat.le_refl _) (by omega)) rfl rfl (hH := ⟨qA⟩) (by omega) hfl (fun w hw => (hat W0).ro.own ((bB, Obj.cells (ruA r) 31 (0, 0)) :: (bA, Obj.cells #[] 31 (0, 0)) :: (b3, Obj.cells (ruA r) 31 (0, 0)) :: (by_, Obj.cells #[.slice p rs.length cap] 42 (0, 0)) :: F) w (hw.perm qS)) (rules_one rs) (by omega) (by omega) (fun v6 B6 hB6 => ⟨fun w hw => hw.sub SubH.out, ?_⟩))
        have q9 : (B6 ++ ((bB, Obj.cells (ruA r) 31 (0, 0)) :: (b3, Obj.cells (ruA r) 31 (0, 0)) :: (by_, Obj.cells #[.slice p rs.length cap] 42 (0, 0)) :: (B ++ F))).Perm (B6 ++ ((bB, Obj.cells (ruA r) 31 (0, 0)) :: (b3, Obj.cells (ruA r) 31 (0, 0)) :: (by_, Obj.cells #[.slice p rs.length cap] 42 (0, 0)) :: (B ++ F))) := .refl _
        refine G.eeP rfl rfl rfl (Eff.app (ys := ruC r) rfl hB6 rfl (hH := ⟨q9⟩) (by omega) rfl (at_here (cs := ruC r)) hone (by omega) (by omega) (fun v9 B9 hB9 => ⟨fun w hw => hw.sub SubH.out, ?_⟩))
        have hv9 : v9.oneCell' = true := by cases hB9 <;> rfl
        repeat' first | refine Y.st ?_ | (refine nw ?_; intro _) | refine Y.kn ?_ | fail
        refine G.ef rfl rfl rfl (Eff.store rfl rfl hv9 (by simp) (by simp [Fz]) ?_)
        refine G.heap (H' := B9 ++ ((bB, Obj.cells (ruA r) 31 (0, 0)) :: (b3, Obj.cells (ruA r) 31 (0, 0)) :: (by_, Obj.cells #[v9] 42 (0, 0)) :: (B ++ F))) ?_ (fun _ h => h)
        repeat' first | refine Y.st ?_ | (refine nw ?_; intro _) | refine Y.kn ?_ | fail
        have qE : (B9 ++ ((bB, Obj.cells (ruA r) 31 (0, 0)) :: (b3, Obj.cells (ruA r) 31 (0, 0)) :: (by_, Obj.cells #[v9] 42 (0, 0)) :: (B ++ F))).Perm (((bB, Obj.cells (ruA r) 31 (0, 0)) :: (b3, Obj.cells (ruA r) 31 (0, 0)) :: B) ++ ((by_, Obj.cells #[v9] 42 (0, 0)) :: B9 ++ F)) := by exact permC
        refine GQ.heap (H' := (by_, Obj.cells #[v9] 42 (0, 0)) :: B9 ++ F) ?_ (fun w hw => (hw.perm qE).sub (List.sublist_append_right _ _))
        exact GQ.done1 rfl rfl ⟨by rw [hadd], _, ⟨v9, B9, by rw [hadd]; exact h9 _ _ hB9, rfl, by rw [hadd]; exact hs', by rw [hadd]; exact hlen', by rw [hadd]; exact hfine'⟩, .refl _⟩
    · refine GA.toG [(1, .eff), (6, .eff), (9, .eff), (10, .read), (11, .read), (12, .tail)] (by kernel_rfl) rfl ?_
      refine G.eeP rfl rfl rfl (Eff.buildSlice (cells := #[]) rfl (by kernel_rfl) (by omega) (fun bA => ⟨fun w hw => hw.sub SubH.out, ?_⟩))
      have qA : ((bA, Obj.cells #[] 31 (0, 0)) :: (bB, Obj.cells (ruA r) 31 (0, 0)) :: (b3, Obj.cells (ruA r) 31 (0, 0)) :: (by_, Obj.cells #[.slice p rs.length cap] 42 (0, 0)) :: (B ++ F)).Perm ([(bA, Obj.cells ([] ++ []).toArray 31 (0, 0))] ++ ((bB, Obj.cells (ruA r) 31 (0, 0)) :: (b3, Obj.cells (ruA r) 31 (0, 0)) :: (by_, Obj.cells #[.slice p rs.length cap] 42 (0, 0)) :: (B ++ F))) := by
        simp only [List.append_nil]
        exact permC
      have qS : ((bA, Obj.cells #[] 31 (0, 0)) :: (bB, Obj.cells (ruA r) 31 (0, 0)) :: (b3, Obj.cells (ruA r) 31 (0, 0)) :: (by_, Obj.cells #[.slice p rs.length cap] 42 (0, 0)) :: (B ++ F)).Perm (((bA, Obj.cells #[] 31 (0, 0)) :: (bB, Obj.cells (ruA r) 31 (0, 0)) :: (b3, Obj.cells (ruA r) 31 (0, 0)) :: (by_, Obj.cells #[.slice p rs.length cap] 42 (0, 0)) :: F) ++ B) := by exact permC
      refine G.eeP rfl rfl rfl (Eff.app (ys := rs.flatMap ruC) (hB := Buf.row bA 0 0 [] [] rfl rfl (Nat.le_refl _) (by omega)) rfl rfl (hH := ⟨qA⟩) (by omega) hfl (fun w hw => (hat W0).ro.own ((bA, Obj.cells #[] 31 (0, 0)) :: (bB, Obj.cells (ruA r) 31 (0, 0)) :: (b3, Obj.cells (ruA r) 31 (0, 0)) :: (by_, Obj.cells #[.slice p rs.length cap] 42 (0, 0)) :: F) w (hw.perm qS)) (rules_one rs) (by omega) (by omega) (fun v6 B6 hB6 => ⟨fun w hw => hw.sub SubH.out, ?_⟩))
      have q9 : (B6 ++ ((bB, Obj.cells (ruA r) 31 (0, 0)) :: (b3, Obj.cells (ruA r) 31 (0, 0)) :: (by_, Obj.cells #[.slice p rs.length cap] 42 (0, 0)) :: (B ++ F))).Perm (B6 ++ ((bB, Obj.cells (ruA r) 31 (0, 0)) :: (b3, Obj.cells (ruA r) 31 (0, 0)) :: (by_, Obj.cells #[.slice p rs.length cap] 42 (0, 0)) :: (B ++ F))) := .refl _
      refine G.eeP rfl rfl rfl (Eff.app (ys := ruC r) rfl hB6 rfl (hH := ⟨q9⟩) (by omega) rfl (at_here (cs := ruC r)) hone (by omega) (by omega) (fun v9 B9 hB9 => ⟨fun w hw => hw.sub SubH.out, ?_⟩))
      have hv9 : v9.oneCell' = true := by cases hB9 <;> rfl
      repeat' first | refine Y.st ?_ | (refine nw ?_; intro _) | refine Y.kn ?_ | fail
      refine G.ef rfl rfl rfl (Eff.store rfl rfl hv9 (by simp) (by simp [Fz]) ?_)
      refine G.heap (H' := B9 ++ ((bB, Obj.cells (ruA r) 31 (0, 0)) :: (b3, Obj.cells (ruA r) 31 (0, 0)) :: (by_, Obj.cells #[v9] 42 (0, 0)) :: (B ++ F))) ?_ (fun _ h => h)
      repeat' first | refine Y.st ?_ | (refine nw ?_; intro _) | refine Y.kn ?_ | fail
      have qE : (B9 ++ ((bB, Obj.cells (ruA r) 31 (0, 0)) :: (b3, Obj.cells (ruA r) 31 (0, 0)) :: (by_, Obj.cells #[v9] 42 (0, 0)) :: (B ++ F))).Perm (((bB, Obj.cells (ruA r) 31 (0, 0)) :: (b3, Obj.cells (ruA r) 31 (0, 0)) :: B) ++ ((by_, Obj.cells #[v9] 42 (0, 0)) :: B9 ++ F)) := by exact permC
      refine GQ.heap (H' := (by_, Obj.cells #[v9] 42 (0, 0)) :: B9 ++ F) ?_ (fun w hw => (hw.perm qE).sub (List.sublist_append_right _ _))
      exact GQ.done1 rfl rfl ⟨by rw [hadd], _, ⟨v9, B9, by rw [hadd]; exact h9 _ _ hB9, rfl, by rw [hadd]; exact hs', by rw [hadd]; exact hlen', by rw [hadd]; exact hfine'⟩, .refl _⟩
end
end Go.Tri

namespace Go.Tri
open Go.Own Go.Proofs Go.RowKit Go.Lib Go.Asc Go.Adr Go.Nam Go.Rfn
attribute [local irreducible] GC GQ G Rd Eff T
set_option maxRecDepth 20000
set_option maxHeartbeats 4000000
attribute [local irreducible] named patL matchL visL fitsL rightL countsL lessL

theorem less_ref {rs : List Ru} (hf : Fine rs) {a k : Nat} (ha : a < rs.length) (hk : k < rs.length) : lessL (rs.getD a zeroR) (rs.getD k zeroR) =
    (decide ((rs.getD a zeroR).prio < (rs.getD k zeroR).prio) || (decide ((rs.getD a zeroR).prio = (rs.getD k zeroR).prio) && decide (wtOf (rs.getD a zeroR) < wtOf (rs.getD k zeroR)))) := by
  rw [lessL, wtR_of (fine_getD hf ha), wtR_of (fine_getD hf hk)]
  by_cases hp : (rs.getD a zeroR).prio = (rs.getD k zeroR).prio
  · rw [if_pos hp, hp]; simp
  · rw [if_neg hp, decide_eq_false hp]; simp
section
variable {prio wt : Nat → Int} {counts : Nat → Bool} {a k : Nat} {o : Option Nat}
theorem refStep_no (h : counts k = false) : refStep prio wt counts o k = o := by simp [refStep, h]
theorem refStep_first (h : counts k = true) : refStep prio wt counts none k = some k := by simp [refStep, h]
theorem refStep_more (h : counts k = true) (hl : (decide (prio a < prio k) || (decide (prio a = prio k) && decide (wt a < wt k))) = true) : refStep prio wt counts (some a) k = some k := by simp only [refStep, h, hl]; rfl
theorem refStep_less (h : counts k = true) (hl : (decide (prio a < prio k) || (decide (prio a = prio k) && decide (wt a < wt k))) = false) : refStep prio wt counts (some a) k = some a := by simp only [refStep, h, hl]; rfl
end
section
variable {W0 : World} {F : Heap}
theorem rfind_spec {rs : List Ru} {by_ : Nat} {TH : Heap} (h : RefQ rs by_ TH) (host : Lab) (hl : host.length ≤ 1000000) (port : Int) (v3 : Value) (alpn : List Lab) (hal : AlpnAt W0 F v3 alpn) :
    T Tryz.prog W0 27 #[.pointer (some ⟨by_, 0, none⟩), S host, .int .i64 port, v3] (TH ++ F) (fun v H' => v = resV (pickL rs (refB rs host port alpn)) ∧ H' = TH ++ F) := by
  obtain ⟨lv, B, hb, rfl, hs, hlen, hfine⟩ := h
  obtain ⟨p, cap, rfl, hc, hat⟩ := Buf.see hb
  refine T.intro (args := [_, _, _, _]) Tryz.func27 rfl Tryz.ntmps27 rfl ?_
  repeat' first | refine Y.st ?_ | (refine nw ?_; intro _) | refine Y.kn ?_ | fail
  rename_i b8 b11
  refine GC.loopE (ι := { i : Nat × Option Nat // i.1 ≤ rs.length ∧ i.2 = (List.range i.1).foldl (refStep (fun i => (rs.getD i zeroR).prio) (fun i => wtOf (rs.getD i zeroR)) (fun i => countsL (rs.getD i zeroR) host port alpn)) none ∧ ∀ b, i.2 = some b → b < rs.length })
    (fun i => [(12, .int .i64 ((pickL rs i.1.2).2.1 : Int)), (13, .bool (pickL rs i.1.2).2.2), (14, .int .i64 (i.1.1 : Int))]) [(0, _), (1, _), (2, _), (3, _), (8, _), (11, _)]
    (fun i => (b11, .cells (ruA (pickL rs i.1.2).1) 31 (0, 0)) :: (b8, .cells (ruA zeroR) 31 (0, 0)) :: (by_, .cells #[.slice p rs.length cap] 42 (0, 0)) :: (B ++ F)) (fun i => rs.length - i.1.1) ⟨(0, none), Nat.zero_le _, rfl, fun b h => by cases h⟩ ⟨rfl, rfl, rfl, rfl, rfl, rfl, rfl, rfl, rfl, trivial⟩ (fun _ h => h) ?_
  rintro ⟨⟨k, st⟩, hk, hst, hsl⟩
  dsimp only [List.cons_append, List.nil_append] at hk hst hsl ⊢
  by_cases hlt : k < rs.length
  · have hatF : Go.Tri.Lies W0 ((b11, .cells (ruA (pickL rs st).1) 31 (0, 0)) :: (b8, .cells (ruA zeroR) 31 (0, 0)) :: (by_, .cells #[.slice p rs.length cap] 42 (0, 0)) :: (B ++ F)) p (rs.flatMap ruC) := ((hat W0).app ((b11, .cells (ruA (pickL rs st).1) 31 (0, 0)) :: (b8, .cells (ruA zeroR) 31 (0, 0)) :: (by_, .cells #[.slice p rs.length cap] 42 (0, 0)) :: F)).perm (by exact permC)
    have hal0 : AlpnAt W0 ((b11, .cells (ruA (pickL rs st).1) 31 (0, 0)) :: (b8, .cells (ruA zeroR) 31 (0, 0)) :: (by_, .cells #[.slice p rs.length cap] 42 (0, 0)) :: (B ++ F)) v3 alpn := hal.imp (fun φ hφ => (((hφ.app B).cons _).cons _).cons _)
    obtain ⟨b1, o1, rfl, hc1⟩ := lies_get hatF hlt
    have h1 := hc1 k hlt
    have hsm := getD_small hs hlt
    have hpl := hsm.2.1
    repeat' first | refine Y.st ?_ | (refine nw ?_; intro _) | refine Y.kn ?_ | fail
    refine G.ef rfl rfl rfl (Eff.callF rfl ((rcounts_spec (rs.getD k zeroR) host port v3 alpn hal0 (by omega) (by omega)).mono ?_))
    rintro v H' ⟨rfl, rfl⟩
    have hnext : ∀ o, refStep (fun i => (rs.getD i zeroR).prio) (fun i => wtOf (rs.getD i zeroR)) (fun i => countsL (rs.getD i zeroR) host port alpn) st k = o → o = (List.range (k + 1)).foldl (refStep (fun i => (rs.getD i zeroR).prio) (fun i => wtOf (rs.getD i zeroR)) (fun i => countsL (rs.getD i zeroR) host port alpn)) none := fun o ho => by
      rw [List.range_succ, List.foldl_append, ← hst]; exact ho.symm
    cases hcn : countsL (rs.getD k zeroR) host port alpn with
    | false =>
      repeat' first | refine Y.st ?_ | (refine nw ?_; intro _) | refine Y.kn ?_ | fail
      refine GC.drawnH [(0, .read), (1, .read), (2, .read), (3, .read), (4, .read), (5, .read), (6, .read), (7, .read), (8, .read), (9, .read), (10, .read), (11, .read), (12, .read), (13, .tail), (14, .tail), (15, .tail)] (by kernel_rfl) (by kernel_rfl) rfl ?_
      repeat' first | refine Y.st ?_ | (refine nw ?_; intro _) | refine Y.kn ?_ | (refine sp ?_ ?_ <;> intro _) | fail
      exact GQ.back ⟨(k + 1, st), by omega, hnext _ (refStep_no hcn), hsl⟩ (by simp only; omega) ⟨rfl, rfl, rfl, rfl, rfl, rfl, rfl, rfl, rfl, trivial⟩ (fun _ h => h)
    | true =>
      cases st with
      | none =>
        repeat' first | refine Y.st ?_ | (refine nw ?_; intro _) | refine Y.kn ?_ | fail
        refine GC.drawnH [(0, .read), (1, .read), (2, .read), (3, .read), (4, .read), (5, .read), (6, .read), (7, .read), (8, .read), (9, .read), (10, .read), (11, .read), (12, .read), (13, .tail), (14, .tail), (15, .tail)] (by kernel_rfl) (by kernel_rfl) rfl ?_
        repeat' first | refine Y.st ?_ | (refine nw ?_; intro _) | refine Y.kn ?_ | (refine sp ?_ ?_ <;> intro _) | fail
        exact GQ.back ⟨(k + 1, some k), by omega, hnext _ (refStep_first hcn), fun b hb => by cases hb; exact hlt⟩ (by simp only; omega) ⟨rfl, rfl, rfl, rfl, rfl, rfl, rfl, rfl, rfl, trivial⟩ (fun _ h => h)
      | some a =>
        have hal9 := hsl a rfl
        have hsa := getD_small hs hal9
        have hsal := hsa.2.1
        cases hls : lessL (rs.getD a zeroR) (rs.getD k zeroR) with
        | true =>
          repeat' first | refine Y.st ?_ | (refine nw ?_; intro _) | refine Y.kn ?_ | fail
          refine GC.drawnH [(0, .read), (1, .read), (2, .read), (3, .read), (4, .read), (5, .read), (6, .read), (7, .read), (8, .read), (9, .read), (10, .read), (11, .read), (12, .read), (13, .tail), (14, .tail), (15, .tail)] (by kernel_rfl) (by kernel_rfl) rfl ?_
          repeat' first | refine Y.st ?_ | (refine nw ?_; intro _) | refine Y.kn ?_ | fail
          refine G.ef rfl rfl rfl (Eff.callF rfl ((less_spec (rs.getD a zeroR) (rs.getD k zeroR) (by omega) (by omega)).mono ?_))
          rintro v H' ⟨rfl, rfl⟩
          repeat' first | refine Y.st ?_ | (refine nw ?_; intro _) | refine Y.kn ?_ | (refine sp ?_ ?_ <;> intro _) | fail
          exact GQ.back ⟨(k + 1, some k), by omega, hnext _ (refStep_more hcn (by rw [← less_ref hfine hal9 hlt]; exact hls)), fun b hb => by cases hb; exact hlt⟩ (by simp only; omega) ⟨rfl, rfl, rfl, rfl, rfl, rfl, rfl, rfl, rfl, trivial⟩ (fun _ h => h)
        | false =>
          repeat' first | refine Y.st ?_ | (refine nw ?_; intro _) | refine Y.kn ?_ | fail
          refine GC.drawnH [(0, .read), (1, .read), (2, .read), (3, .read), (4, .read), (5, .read), (6, .read), (7, .read), (8, .read), (9, .read), (10, .read), (11, .read), (12, .read), (13, .tail), (14, .tail), (15, .tail)] (by kernel_rfl) (by kernel_rfl) rfl ?_
          repeat' first | refine Y.st ?_ | (refine nw ?_; intro _) | refine Y.kn ?_ | fail
          refine G.ef rfl rfl rfl (Eff.callF rfl ((less_spec (rs.getD a zeroR) (rs.getD k zeroR) (by omega) (by omega)).mono ?_))
          rintro v H' ⟨rfl, rfl⟩
          repeat' first | refine Y.st ?_ | (refine nw ?_; intro _) | refine Y.kn ?_ | (refine sp ?_ ?_ <;> intro _) | fail
          exact GQ.back ⟨(k + 1, some a), by omega, hnext _ (refStep_less hcn (by rw [← less_ref hfine hal9 hlt]; exact hls)), hsl⟩ (by simp only; omega) ⟨rfl, rfl, rfl, rfl, rfl, rfl, rfl, rfl, rfl, trivial⟩ (fun _ h => h)
  · obtain rfl : k = rs.length := by omega
    have hfin : st = refB rs host port alpn := hst
    rw [← hfin]
    repeat' first | refine Y.st ?_ | (refine nw ?_; intro _) | refine Y.kn ?_ | (refine sp ?_ ?_ <;> intro _) | fail
    refine GQ.res3h (v := ruV (pickL rs st).1) rfl (.aggA rfl rfl) (.tmp rfl) (.tmp rfl) ((by_, .cells #[.slice p rs.length cap] 42 (0, 0)) :: (B ++ F)) (fun w hw => hw.sub ((List.sublist_cons_self _ _).trans (List.sublist_cons_self _ _))) ⟨rfl, rfl⟩
end
end Go.Tri

namespace Go.Tri
open Go.Own Go.Proofs Go.RowKit Go.Lib Go.Asc Go.Adr Go.Nam Go.Rfn
attribute [local irreducible] GC GQ G Rd Eff T
set_option maxRecDepth 20000
set_option maxHeartbeats 4000000
attribute [local irreducible] named patL matchL visL fitsL rightL countsL lessL

def fewL (l : List Ru) : Bool := l.all (fun r => decide (r.pat.length ≤ 300) && decide (r.alpn.length ≤ 300)) && decide (l.length ≤ 220)
section
variable {W0 : World} {F : Heap}
theorem few_spec (v : Value) (l : List Ru) (hv : RulesAt W0 F v l) (hl : l.length ≤ 140737488351232) : T Tryz.prog W0 21 #[v] F (fun u H' => u = .bool (fewL l) ∧ H' = F) := by
  obtain ⟨p, c, rfl, hc, hat⟩ := hv
  refine T.intro (args := [_]) Tryz.func21 rfl Tryz.ntmps21 rfl ?_
  repeat' first | refine Y.st ?_ | (refine nw ?_; intro _) | refine Y.kn ?_ | fail
  refine GC.loopE (ι := { k : Nat // k ≤ l.length ∧ ∀ m, m < k → (l.getD m zeroR).pat.length ≤ 300 ∧ (l.getD m zeroR).alpn.length ≤ 300 }) (fun i => [(3, .int .i64 (i.1 : Int))]) [(0, _)] (fun _ => F) (fun i => l.length - i.1) ⟨0, Nat.zero_le _, fun m h => by omega⟩ ⟨rfl, rfl, trivial⟩ (fun _ h => h) ?_
  rintro ⟨k, hk, hall⟩
  dsimp only [List.cons_append, List.nil_append] at hk hall ⊢
  by_cases hlt : k < l.length
  · obtain ⟨b, o, rfl, hc1⟩ := lies_get hat hlt
    have h2 : ∀ w, Own W0 F w → w.cell? ⟨b, o + k * 5 + 2, none⟩ = some (S (l.getD k zeroR).pat) := fun w hw => hc1 k hlt w hw 2 _ rfl
    have h4 : ∀ w, Own W0 F w → w.cell? ⟨b, o + k * 5 + 4, none⟩ = some (S (l.getD k zeroR).alpn) := fun w hw => hc1 k hlt w hw 4 _ rfl
    by_cases hs : (l.getD k zeroR).pat.length ≤ 300 ∧ (l.getD k zeroR).alpn.length ≤ 300
    · repeat' first | refine Y.st ?_ | (refine nw ?_; intro _) | refine Y.kn ?_ | (refine sp ?_ ?_ <;> intro _) | fail
      all_goals first | (exfalso; omega) | skip
      exact GQ.back ⟨k + 1, by omega, fun m hm => by
        rcases Nat.lt_or_ge m k with h | h
        · exact hall m h
        · obtain rfl : m = k := by omega
          exact hs⟩ (by simp only; omega) ⟨rfl, rfl, trivial⟩ (fun _ h => h)
    · have hf : fewL l = false := by
        unfold fewL
        rw [List.all_eq_false.2 ⟨_, getD_mem hlt, by simp only [Bool.and_eq_true, decide_eq_true_eq]; exact hs⟩]; rfl
      repeat' first | refine Y.st ?_ | (refine nw ?_; intro _) | refine Y.kn ?_ | (refine sp ?_ ?_ <;> intro _) | fail
      all_goals first | (exfalso; omega) | exact GQ.pure1 rfl (.tmp rfl) (by rw [hf])
  · obtain rfl : k = l.length := by omega
    have hf : fewL l = decide (l.length ≤ 220) := by
      unfold fewL
      rw [List.all_eq_true.2 (fun r hr => by obtain ⟨i, hi, rfl⟩ := mem_getD hr; simp only [Bool.and_eq_true, decide_eq_true_eq]; exact hall i hi)]; simp
    rw [hf]
    by_cases h220 : l.length ≤ 220
    · repeat' first | refine Y.st ?_ | (refine nw ?_; intro _) | refine Y.kn ?_ | (refine sp ?_ ?_ <;> intro _) | fail
      exact GQ.pure1 rfl (.tmp rfl) (by simp [h220])
    · repeat' first | refine Y.st ?_ | (refine nw ?_; intro _) | refine Y.kn ?_ | (refine sp ?_ ?_ <;> intro _) | fail
      exact GQ.pure1 rfl (.tmp rfl) (by simp [h220])
instance {p : Option Addr} {n c : Nat} : PureF Tryz.prog W0 22 [.slice p n c] True (.bool (decide (n ≤ 20))) := ⟨fun _ F => by
  refine T.intro (args := [_]) Tryz.func22 rfl Tryz.ntmps22 rfl ?_
  by_cases h : n ≤ 20
  · repeat' first | refine Y.st ?_ | (refine nw ?_; intro _) | refine Y.kn ?_ | (refine sp ?_ ?_ <;> intro _) | fail
    exact GQ.pure1 rfl (.tmp rfl) (by simp [h])
  · repeat' first | refine Y.st ?_ | (refine nw ?_; intro _) | refine Y.kn ?_ | (refine sp ?_ ?_ <;> intro _) | fail
    exact GQ.pure1 rfl (.tmp rfl) (by simp [h])⟩
theorem alpn_nil : AlpnAt W0 F (.slice none 0 0) [] := ⟨⟨none, 0, rfl, Nat.le_refl _, .inl rfl⟩, by simp⟩
def q5 : Ru := ⟨false, 0, [97], 65536, []⟩
def q6 : Ru := ⟨false, 0, [42, 46, 49, 46, 50, 46, 51, 46, 52], 0, []⟩
theorem tsmall_spec (hv : Vars W0) : T Tryz.prog W0 16 #[] F (fun v H' => v = .bool true ∧ H' = F) := by
  refine T.intro (args := []) Tryz.func16 rfl Tryz.ntmps16 rfl ?_
  repeat' first | refine Y.st ?_ | (refine nw ?_; intro _) | refine Y.kn ?_ | fail
  refine G.ef rfl rfl rfl (Eff.callF rfl (new_spec.mono ?_))
  rintro v H' ⟨bt, TH0, rfl, hT0, rfl⟩
  repeat' first | refine Y.st ?_ | (refine nw ?_; intro _) | refine Y.kn ?_ | fail
  refine G.rd (Rd.build (cells := ruA q0) rfl (by rfl)) rfl rfl ?_
  refine G.ef rfl rfl rfl (Eff.callF rfl ((add_spec hv hT0 q0 ⟨by decide, by decide, by decide, by decide⟩ (by decide)).mono ?_))
  rintro v H' ⟨rfl, TH1, hT1, hp1⟩
  rw [s0] at hT1
  rw [show (addL [] q0).2 = 0 by rw [s0]]
  refine G.heap ?_ (fun w hw => hw.perm hp1)
  repeat' first | refine Y.st ?_ | (refine nw ?_; intro _) | refine Y.kn ?_ | fail
  refine G.rd (Rd.build (cells := ruA q1) rfl (by rfl)) rfl rfl ?_
  refine G.ef rfl rfl rfl (Eff.callF rfl ((add_spec hv hT1 q1 ⟨by decide, by decide, by decide, by decide⟩ (by decide)).mono ?_))
  rintro v H' ⟨rfl, TH2, hT2, hp2⟩
  rw [s1] at hT2
  rw [show (addL [q0] q1).2 = 0 by rw [s1]]
  refine G.heap ?_ (fun w hw => hw.perm hp2)
  repeat' first | refine Y.st ?_ | (refine nw ?_; intro _) | refine Y.kn ?_ | fail
  refine G.rd (Rd.build (cells := ruA q2) rfl (by rfl)) rfl rfl ?_
  refine G.ef rfl rfl rfl (Eff.callF rfl ((add_spec hv hT2 q2 ⟨by decide, by decide, by decide, by decide⟩ (by decide)).mono ?_))
  rintro v H' ⟨rfl, TH3, hT3, hp3⟩
  rw [s2] at hT3
  rw [show (addL [q0, q1] q2).2 = 7 by rw [s2]]
  refine G.heap ?_ (fun w hw => hw.perm hp3)
  repeat' first | refine Y.st ?_ | (refine nw ?_; intro _) | refine Y.kn ?_ | fail
  refine G.rd (Rd.build (cells := ruA q3) rfl (by rfl)) rfl rfl ?_
  refine G.ef rfl rfl rfl (Eff.callF rfl ((add_spec hv hT3 q3 ⟨by decide, by decide, by decide, by decide⟩ (by decide)).mono ?_))
  rintro v H' ⟨rfl, TH4, hT4, hp4⟩
  rw [s3] at hT4
  rw [show (addL [q0, q1] q3).2 = 0 by rw [s3]]
  refine G.heap ?_ (fun w hw => hw.perm hp4)
  repeat' first | refine Y.st ?_ | (refine nw ?_; intro _) | refine Y.kn ?_ | fail
  refine G.rd (Rd.build (cells := ruA q4) rfl (by rfl)) rfl rfl ?_
  refine G.ef rfl rfl rfl (Eff.callF rfl ((add_spec hv hT4 q4 ⟨by decide, by decide, by decide, by decide⟩ (by decide)).mono ?_))
  rintro v H' ⟨rfl, TH5, hT5, hp5⟩
  rw [s4] at hT5
  rw [show (addL [q0, q1, q3] q4).2 = 9 by rw [s4]]
  refine G.heap ?_ (fun w hw => hw.perm hp5)
  repeat' first | refine Y.st ?_ | (refine nw ?_; intro _) | refine Y.kn ?_ | fail
  refine G.ef rfl rfl rfl (Eff.callF rfl ((Find_spec hv hT5 [120, 46, 97, 46, 98] (by decide) 443 _ [] alpn_nil).mono ?_))
  rintro v H' ⟨rfl, rfl⟩
  rw [g0, show resV (q1, 1, true) = .tuple #[ruV q1, .int .i64 1, .bool true] from rfl]
  repeat' first | refine Y.st ?_ | (refine nw ?_; intro _) | refine Y.kn ?_ | fail
  refine G.ef rfl rfl rfl (Eff.callP (first := #[]) (captured := #[]) rfl rfl (H' := TH5 ++ ((_, _) :: F)) (List.perm_middle.symm) ((Find_spec hv hT5 [97, 46, 98] (by decide) 443 _ [] alpn_nil).mono ?_))
  rintro v H' ⟨rfl, rfl⟩
  rw [g1, show resV (q0, 0, true) = .tuple #[ruV q0, .int .i64 0, .bool true] from rfl]
  repeat' first | refine Y.st ?_ | (refine nw ?_; intro _) | refine Y.kn ?_ | fail
  rename_i b7 b10
  refine G.ef rfl rfl rfl (Eff.buildSlice (cells := (strs [[120], [104, 50]]).toArray) rfl (by kernel_rfl) (by omega) (fun b48 => ?_))
  have qF : ((b48, Obj.cells (strs [[120], [104, 50]]).toArray 9 (0, 0)) :: (b10, Obj.cells (ruA q0) 31 (0, 0)) :: (TH5 ++ ((b7, Obj.cells (ruA q1) 31 (0, 0)) :: F))).Perm (TH5 ++ ((b48, Obj.cells (strs [[120], [104, 50]]).toArray 9 (0, 0)) :: (b10, Obj.cells (ruA q0) 31 (0, 0)) :: (b7, Obj.cells (ruA q1) 31 (0, 0)) :: F)) := by exact permC
  have hal : AlpnAt W0 ((b48, Obj.cells (strs [[120], [104, 50]]).toArray 9 (0, 0)) :: (b10, Obj.cells (ruA q0) 31 (0, 0)) :: (b7, Obj.cells (ruA q1) 31 (0, 0)) :: F) (.slice (some ⟨b48, 0, none⟩) 2 2) [[120], [104, 50]] :=
    ⟨⟨some ⟨b48, 0, none⟩, 2, rfl, by decide, .inr ⟨b48, 0, rfl, RO.cells (cs := strs [[120], [104, 50]]) (el := 9) (fr := (0, 0)) (fun j u hj => by simpa using hj)⟩⟩, by decide⟩
  refine G.ef rfl rfl rfl (Eff.callP (first := #[]) (captured := #[]) rfl rfl qF ((Find_spec hv hT5 [120, 46, 97, 46, 98] (by decide) 80 _ [[120], [104, 50]] hal).mono ?_))
  rintro v H' ⟨rfl, rfl⟩
  rw [g2, show resV (q3, 2, true) = .tuple #[ruV q3, .int .i64 2, .bool true] from rfl]
  have k0 := m0
  have k1 := m1
  have k2 := m2
  have e1 : q1.allow = true := rfl
  have e2 : q3.port = 80 := rfl
  repeat' first | refine Y.st ?_ | (refine nw ?_; intro _) | refine Y.kn ?_ | fail
  refine G.rd (Rd.build (cells := ruA q5) rfl (by rfl)) rfl rfl ?_
  have e3 : rightL q5 = 10 := r0
  repeat' first | refine Y.st ?_ | (refine nw ?_; intro _) | refine Y.kn ?_ | fail
  refine G.rd (Rd.build (cells := ruA q6) rfl (by rfl)) rfl rfl ?_
  have e4 : rightL q6 = 9 := r1
  repeat' first | refine Y.st ?_ | (refine nw ?_; intro _) | refine Y.kn ?_ | fail
  rename_i b13
  have qG : ((b13, Obj.cells (ruA q3) 31 (0, 0)) :: (TH5 ++ ((b48, Obj.cells (strs [[120], [104, 50]]).toArray 9 (0, 0)) :: (b10, Obj.cells (ruA q0) 31 (0, 0)) :: (b7, Obj.cells (ruA q1) 31 (0, 0)) :: F))).Perm (TH5 ++ ((b13, Obj.cells (ruA q3) 31 (0, 0)) :: (b48, Obj.cells (strs [[120], [104, 50]]).toArray 9 (0, 0)) :: (b10, Obj.cells (ruA q0) 31 (0, 0)) :: (b7, Obj.cells (ruA q1) 31 (0, 0)) :: F)) := by exact permC
  refine G.ef rfl rfl rfl (Eff.callP (first := #[]) (captured := #[]) rfl rfl qG ((ruless_spec hT5).mono ?_))
  rintro v H' ⟨B', hb, rfl⟩
  obtain ⟨q, qc, rfl, _, _⟩ := Buf.see hb
  repeat' first | refine Y.st ?_ | (refine nw ?_; intro _) | refine Y.kn ?_ | fail
  exact GQ.pure1 rfl (.tmp rfl) rfl
end
end Go.Tri

namespace Go.Tri
open Go.Own Go.Proofs Go.RowKit Go.Lib Go.Asc Go.Adr Go.Nam Go.Rfn
section
variable {W W0 : World}
instance [hv : Vars W0] : PureF Tryz.prog W0 16 [] True (.bool true) := ⟨fun _ _ => tsmall_spec hv⟩
theorem lies_rule {v : VT} (h : VT.Lies Tryz.prog W 31 v) : ∃ r : Ru, v.val = ruV r ∧ v.cells = ruC r ∧ Sized r := by
  obtain ⟨ps, rfl, h1⟩ := Go.Own.Lies.agg h
  obtain ⟨a1, r1, rfl, k1, h1⟩ := lies_one h1
  obtain ⟨a2, r2, rfl, k2, h1⟩ := lies_one h1
  obtain ⟨a3, r3, rfl, k3, h1⟩ := lies_one h1
  obtain ⟨a4, r4, rfl, k4, h1⟩ := lies_one h1
  obtain ⟨a5, r5, rfl, k5, h1⟩ := lies_one h1
  obtain rfl := lies_nil h1
  obtain ⟨b, rfl⟩ := Go.Own.Lies.bool k1
  obtain ⟨n, rfl, hn⟩ := Go.Own.Lies.int k2
  obtain ⟨p, rfl, hp⟩ := Go.Own.Lies.str k3
  obtain ⟨m, rfl, hm⟩ := Go.Own.Lies.int k4
  obtain ⟨q, rfl, hq⟩ := Go.Own.Lies.str k5
  exact ⟨⟨b, n, p, m, q⟩, by simp [VT.val, VT.cells, VT.cellsL], by simp [VT.cells, VT.cellsL], hn, hm, hp, hq⟩
theorem lies_rules : ∀ {es : List VT}, VT.LiesAll Tryz.prog W 31 es → ∃ l : List Ru, l.length = es.length ∧ VT.cellsL es = l.flatMap ruC ∧ ∀ r ∈ l, Sized r
  | [], _ => ⟨[], rfl, by simp [VT.cellsL], by simp⟩
  | x :: es, h => by
    simp only [VT.LiesAll] at h
    obtain ⟨r, _, h2, h3⟩ := lies_rule h.1
    obtain ⟨l, k1, k2, k3⟩ := lies_rules h.2
    refine ⟨r :: l, by simp [k1], ?_, ?_⟩
    · rw [VT.cellsL, h2, k2, List.flatMap_cons]
    · intro y hy
      rcases List.mem_cons.1 hy with rfl | hy
      · exact h3
      · exact k3 y hy
theorem lies_strs : ∀ {es : List VT}, VT.LiesAll Tryz.prog W 9 es → ∃ l : List Lab, l.length = es.length ∧ VT.cellsL es = strs l
  | [], _ => ⟨[], rfl, by simp [VT.cellsL, strs]⟩
  | x :: es, h => by
    simp only [VT.LiesAll] at h
    obtain ⟨s, rfl, _⟩ := Go.Own.Lies.str h.1
    obtain ⟨l, k1, k2⟩ := lies_strs h.2
    exact ⟨s :: l, by simp [k1], by rw [VT.cellsL, k2]; simp [VT.cells, strs]⟩
/-- A row of rules that came in. -/
theorem lies_rulesAt {v : VT} (h : VT.Lies Tryz.prog W 35 v) : ∃ (l : List Ru) (p : Option Addr) (c : Nat), (∀ r ∈ l, Sized r) ∧ l.length ≤ 140737488351232 ∧ v.val = .slice p l.length c ∧ l.length ≤ c ∧ ∀ F, Go.Tri.Lies W F p (l.flatMap ruC) := by
  obtain ⟨p, c, es, rfl, hp, hc, hc2, hat, hes⟩ := Go.Own.Lies.slice h
  obtain ⟨l, h1, h2, h3⟩ := lies_rules hes
  rw [show Tryz.prog.bytesOf 31 = 56 by kernel_rfl] at hc2
  rw [h2] at hat
  exact ⟨l, p, c, h3, by omega, by simp [VT.val, h1], by omega, fun F => lies_base hat⟩
/-! ### What a statement with few rules leans on -/
theorem few_true {l : List Ru} (h : fewL l = true) : l.length ≤ 220 ∧ ∀ r ∈ l, r.pat.length ≤ 300 ∧ r.alpn.length ≤ 300 := by
  unfold fewL at h
  rw [Bool.and_eq_true, decide_eq_true_eq] at h
  refine ⟨h.2, fun r hr => ?_⟩
  have := List.all_eq_true.1 h.1 r hr
  simpa using this
theorem addL_mem {rs : List Ru} {r x : Ru} (h : x ∈ (addL rs r).1) : x ∈ rs ∨ x = r := by
  unfold addL at h
  split at h
  · exact .inl h
  · split at h
    · exact .inl h
    · split at h
      · exact .inl h
      · rcases List.mem_append.1 h with h | h
        · exact .inl h
        · exact .inr (by simpa using h)
theorem addAll_mem {x : Ru} : ∀ {l rs : List Ru}, x ∈ addAll rs l → x ∈ rs ∨ x ∈ l
  | [], _, h => .inl h
  | r :: l, rs, h => by
    rcases addAll_mem (l := l) (rs := (addL rs r).1) h with h | h
    · rcases addL_mem h with h | h
      · exact .inl h
      · exact .inr (by simp [h])
    · exact .inr (by simp [h])
theorem take_succ_add (rs l : List Ru) {k : Nat} (h : k < l.length) : addAll rs (l.take (k + 1)) = (addL (addAll rs (l.take k)) (l.getD k zeroR)).1 := by
  rw [List.take_succ_eq_append_getElem h, addAll_snoc]
  rw [List.getD_eq_getElem?_getD, List.getElem?_eq_getElem h]; rfl
theorem lies_all {W : World} {p : Option Addr} {rs : List Ru} (hat : ∀ F, Go.Tri.Lies W F p (rs.flatMap ruC)) {k : Nat} (hk : k < rs.length) :
    ∃ b o, p = some ⟨b, o, none⟩ ∧ ∀ H m, m < rs.length → ∀ w, Own W H w → CellsAt w b (o + m * 5) (ruC (rs.getD m zeroR)) := by
  obtain ⟨b, o, h1, _⟩ := lies_get (hat []) hk
  refine ⟨b, o, h1, fun H m hm => ?_⟩
  obtain ⟨b', o', h1', h2⟩ := lies_get (hat H) hk
  rw [h1] at h1'
  cases h1'
  exact h2 m hm
def starR (r : Ru) : Ru := ⟨r.allow, r.prio, [42], 0, []⟩
theorem zero_small : Small zeroR := ⟨⟨by decide, by decide, by decide, by decide⟩, by decide, by decide⟩
theorem pick_small {rs : List Ru} (h : ∀ r ∈ rs, Sized r) {b : Option Nat} (hb : ∀ i, b = some i → i < rs.length) : Sized (pickL rs b).1 := by
  cases b with
  | none => exact zero_small.1
  | some i => exact h _ (getD_mem (hb i rfl))
/-- A row of texts that came in. -/
theorem lies_strsAt {v : VT} (h : VT.Lies Tryz.prog W 27 v) : ∃ (l : List Lab) (p : Option Addr) (c : Nat), v.val = .slice p l.length c ∧ l.length ≤ c ∧ l.length ≤ 140737488351232 ∧ ∀ F, Go.Tri.Lies W F p (strs l) := by
  obtain ⟨p, c, es, rfl, hp, hc, hc2, hat, hes⟩ := Go.Own.Lies.slice h
  obtain ⟨l, h1, h2⟩ := lies_strs hes
  rw [show Tryz.prog.bytesOf 9 = 16 by kernel_rfl] at hc2
  rw [h2] at hat
  exact ⟨l, p, c, by simp [VT.val, h1], by omega, by omega, fun F => lies_base hat⟩
end
end Go.Tri
