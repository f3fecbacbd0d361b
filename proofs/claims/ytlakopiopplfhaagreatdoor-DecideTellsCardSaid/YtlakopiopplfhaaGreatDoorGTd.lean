/-
  THE DOCUMENT'S TRIE: patterns, rules, which counts.
  THE DOCUMENT'S TRIE: Add, Find, Same.
-/
import Derived.Test.YtlakopiopplfhaaGreatDoorGTc
import Derived.Test.YtlakopiopplfhaaGreatDoorGRe
import Derived.Test.YtlakopiopplfhaaGreatDoorGOwn
namespace Go.Tri
open Go.Own Go.Proofs Go.RowKit Go.Lib Go.Asc Go.Adr Go.Nam Go.Rfn
attribute [local irreducible] GC GQ G Rd Eff T
set_option maxRecDepth 20000
set_option maxHeartbeats 4000000
attribute [local irreducible] named patL matchL visL fitsL rightL countsL

section
variable {W0 : World} {F : Heap}
theorem rnamed_spec (s : List UInt8) (hl : s.length ≤ 8796093022207) : T Tryz.prog W0 170 #[S s] F (fun v H' => v = .bool (named s) ∧ H' = F) := by
  refine T.intro (args := [_]) Tryz.func170 rfl Tryz.ntmps170 rfl ?_
  rw [← named_eq]
  repeat' first | refine Y.st ?_ | (refine nw ?_; intro _) | refine Y.kn ?_ | (refine sp ?_ ?_ <;> intro _) | fail
  all_goals exact GQ.pure1 rfl (.tmp rfl) (by first | (rw [decide_eq_true ‹((normalL s).2 : Int) = 0›]; rfl) | (rw [decide_eq_false ‹¬ ((normalL s).2 : Int) = 0›]; rfl))
instance {s : List UInt8} : PureF Tryz.prog W0 170 [S s] (s.length ≤ 8796093022207) (.bool (named s)) := ⟨fun h _ => rnamed_spec s h⟩
def cutV (p : List UInt8) : Value := .tuple #[.int .i64 ((cutL p).1 : Int), S (cutL p).2]
theorem cut_spec (p : List UInt8) (hl : p.length ≤ 8796093022207) : T Tryz.prog W0 129 #[S p] F (fun v H' => v = cutV p ∧ H' = F) := by
  have hd : (p.drop 2).length ≤ 8796093022207 := by rw [List.length_drop]; omega
  have hq : (u8s ((parseL (p.drop 2)).getD zero16)).length = 16 := by rw [u8s_length]; exact addr_len _
  refine T.intro (args := [_]) Tryz.func129 rfl Tryz.ntmps129 rfl ?_
  by_cases h0 : p = [42]
  · have hc : cutL p = (0, []) := by rw [cutL, if_pos h0]
    repeat' first | refine Y.st ?_ | (refine nw ?_; intro _) | refine Y.kn ?_ | (refine sp ?_ ?_ <;> intro _) | fail
    exact GQ.pure2 rfl (.tmp rfl) (.tmp rfl) (by rw [cutV, hc]; rfl)
  · by_cases h2 : 2 < p.length
    · by_cases h3 : p.take 2 = [42, 46]
      · cases hp : (parseL (p.drop 2)).isSome with
        | true =>
          have hc : cutL p = (3, []) := by rw [cutL, if_neg h0, if_pos ⟨h2, h3⟩, if_pos (.inl hp)]
          repeat' first | refine Y.st ?_ | (refine nw ?_; intro _) | refine Y.kn ?_ | (refine sp ?_ ?_ <;> intro _) | fail
          exact GQ.pure2 rfl (.tmp rfl) (.tmp rfl) (by rw [cutV, hc]; rfl)
        | false =>
          cases hn : named (p.drop 2) with
          | true =>
            have hc : cutL p = (1, p.drop 2) := by rw [cutL, if_neg h0, if_pos ⟨h2, h3⟩, if_neg (by simp [hp, hn])]
            repeat' first | refine Y.st ?_ | (refine nw ?_; intro _) | refine Y.kn ?_ | fail
            refine GC.drawnH [(0, .read), (1, .read), (2, .read), (3, .read)] (by kernel_rfl) (by kernel_rfl) rfl ?_
            repeat' first | refine Y.st ?_ | (refine nw ?_; intro _) | refine Y.kn ?_ | (refine sp ?_ ?_ <;> intro _) | fail
            exact GQ.pure2 rfl (.tmp rfl) (.tmp rfl) (by rw [cutV, hc]; rfl)
          | false =>
            have hc : cutL p = (3, []) := by rw [cutL, if_neg h0, if_pos ⟨h2, h3⟩, if_pos (.inr hn)]
            repeat' first | refine Y.st ?_ | (refine nw ?_; intro _) | refine Y.kn ?_ | (refine sp ?_ ?_ <;> intro _) | fail
            exact GQ.pure2 rfl (.tmp rfl) (.tmp rfl) (by rw [cutV, hc]; rfl)
      · cases hn : named p with
        | true =>
          have hc : cutL p = (2, p) := by rw [cutL, if_neg h0, if_neg (fun h => h3 h.2), if_neg (by simp [hn])]
          repeat' first | refine Y.st ?_ | (refine nw ?_; intro _) | refine Y.kn ?_ | (refine sp ?_ ?_ <;> intro _) | fail
          exact GQ.pure2 rfl (.tmp rfl) (.tmp rfl) (by rw [cutV, hc]; rfl)
        | false =>
          have hc : cutL p = (3, []) := by rw [cutL, if_neg h0, if_neg (fun h => h3 h.2), if_pos hn]
          repeat' first | refine Y.st ?_ | (refine nw ?_; intro _) | refine Y.kn ?_ | (refine sp ?_ ?_ <;> intro _) | fail
          exact GQ.pure2 rfl (.tmp rfl) (.tmp rfl) (by rw [cutV, hc]; rfl)
    · cases hn : named p with
      | true =>
        have hc : cutL p = (2, p) := by rw [cutL, if_neg h0, if_neg (fun h => h2 h.1), if_neg (by simp [hn])]
        repeat' first | refine Y.st ?_ | (refine nw ?_; intro _) | refine Y.kn ?_ | (refine sp ?_ ?_ <;> intro _) | fail
        exact GQ.pure2 rfl (.tmp rfl) (.tmp rfl) (by rw [cutV, hc]; rfl)
      | false =>
        have hc : cutL p = (3, []) := by rw [cutL, if_neg h0, if_neg (fun h => h2 h.1), if_pos hn]
        repeat' first | refine Y.st ?_ | (refine nw ?_; intro _) | refine Y.kn ?_ | (refine sp ?_ ?_ <;> intro _) | fail
        exact GQ.pure2 rfl (.tmp rfl) (.tmp rfl) (by rw [cutV, hc]; rfl)
instance {s : List UInt8} : PureF Tryz.prog W0 129 [S s] (s.length ≤ 8796093022207) (.tuple #[.int .i64 ((cutL s).1 : Int), S (cutL s).2]) := ⟨fun h _ => cut_spec s h⟩
theorem cutL_len (p : List UInt8) : (cutL p).2.length ≤ p.length := by
  have := rest_len p
  rcases cut_cases p with ⟨_, h⟩ | ⟨_, _, h⟩ | ⟨_, _, h⟩ | ⟨_, _, _, h⟩ <;> rw [h] <;> simp <;> omega
theorem rmatches_spec (p host : List UInt8) (hl : p.length ≤ 8796093022207) (hh : host.length ≤ 8796093022207) : T Tryz.prog W0 139 #[S p, S host] F (fun v H' => v = .bool (matchL p host) ∧ H' = F) := by
  have hcl := cutL_len p
  rw [← ref_match]
  refine T.intro (args := [_, _]) Tryz.func139 rfl Tryz.ntmps139 rfl ?_
  obtain ⟨k, hk⟩ : ∃ k, (cutL p).1 = k := ⟨_, rfl⟩
  rcases cut_cases p with ⟨_, h⟩ | ⟨_, _, h⟩ | ⟨_, _, h⟩ | ⟨_, _, _, h⟩
  · have h1 : (cutL p).1 = 0 := by rw [h]
    have hr : refMatch p host = true := by simp [refMatch, h1]
    repeat' first | refine Y.st ?_ | (refine nw ?_; intro _) | refine Y.kn ?_ | (refine sp ?_ ?_ <;> intro _) | fail
    exact GQ.pure1 rfl (.tmp rfl) (by rw [hr])
  · have h1 : (cutL p).1 = 3 := by rw [h]
    have hr : refMatch p host = false := by simp [refMatch, h1]
    repeat' first | refine Y.st ?_ | (refine nw ?_; intro _) | refine Y.kn ?_ | (refine sp ?_ ?_ <;> intro _) | fail
    exact GQ.pure1 rfl (.tmp rfl) (by rw [hr])
  · have h1 : (cutL p).1 = 1 := by rw [h]
    have hr : refMatch p host = decide ((cutL p).2.length < host.length ∧ host.drop (host.length - (cutL p).2.length) = (cutL p).2 ∧ host.getD (host.length - (cutL p).2.length - 1) 0 = 46) := by simp [refMatch, h1]
    by_cases hlt : (cutL p).2.length < host.length
    · haveI : LeN (cutL p).2.length host.length := ⟨by omega⟩
      haveI : LeN 1 (host.length - (cutL p).2.length) := ⟨by omega⟩
      have hm : host.length - (cutL p).2.length - 1 < host.length := by omega
      have hgd : host.getD (host.length - (cutL p).2.length - 1) 0 = host[host.length - (cutL p).2.length - 1] := by rw [List.getD_eq_getElem?_getD, List.getElem?_eq_getElem hm]; rfl
      rw [hgd] at hr
      by_cases hd : host.drop (host.length - (cutL p).2.length) = (cutL p).2
      · by_cases h46 : host[host.length - (cutL p).2.length - 1] = 46
        · have hv : ((host[host.length - (cutL p).2.length - 1]).toNat : Int) = 46 := by rw [h46]; rfl
          repeat' first | refine Y.st ?_ | (refine nw ?_; intro _) | refine Y.kn ?_ | (refine sp ?_ ?_ <;> intro _) | fail
          exact GQ.pure1 rfl (.tmp rfl) (by rw [hr, decide_eq_true ⟨hlt, hd, h46⟩])
        · have hv : ¬ ((host[host.length - (cutL p).2.length - 1]).toNat : Int) = 46 := fun h9 => h46 (UInt8.toNat_inj.1 (by have : (46 : UInt8).toNat = 46 := rfl; omega))
          repeat' first | refine Y.st ?_ | (refine nw ?_; intro _) | refine Y.kn ?_ | (refine sp ?_ ?_ <;> intro _) | fail
          exact GQ.pure1 rfl (.tmp rfl) (by rw [hr, decide_eq_false (fun h9 => h46 h9.2.2)])
      · repeat' first | refine Y.st ?_ | (refine nw ?_; intro _) | refine Y.kn ?_ | (refine sp ?_ ?_ <;> intro _) | fail
        exact GQ.pure1 rfl (.tmp rfl) (by rw [hr, decide_eq_false (fun h9 => hd h9.2.1)])
    · repeat' first | refine Y.st ?_ | (refine nw ?_; intro _) | refine Y.kn ?_ | (refine sp ?_ ?_ <;> intro _) | fail
      exact GQ.pure1 rfl (.tmp rfl) (by rw [hr, decide_eq_false (fun h9 => hlt h9.1)])
  · have h1 : (cutL p).1 = 2 := by rw [h]
    have hr : refMatch p host = decide (host = (cutL p).2) := by simp [refMatch, h1]
    repeat' first | refine Y.st ?_ | (refine nw ?_; intro _) | refine Y.kn ?_ | (refine sp ?_ ?_ <;> intro _) | fail
    exact GQ.pure1 rfl (.tmp rfl) (by rw [hr])
instance {p host : List UInt8} : PureF Tryz.prog W0 139 [S p, S host] (p.length ≤ 8796093022207 ∧ host.length ≤ 8796093022207) (.bool (matchL p host)) := ⟨fun h _ => rmatches_spec p host h.1 h.2⟩
def wtR (p : List UInt8) : Int := if (cutL p).1 = 0 then 0 else 2 * ((labelsL (cutL p).2).length : Int) + ((cutL p).1 : Int) - 1
theorem wtR_of {r : Ru} (h : patL r.pat = true) : wtR r.pat = wtOf r := by
  rcases cut_cases r.pat with ⟨h1, h2⟩ | ⟨_, h1, _⟩ | ⟨_, h1, h2⟩ | ⟨h0, _, h1, h2⟩
  · rw [wtR, h2, wtOf, if_pos h1]; rfl
  · rw [h] at h1; cases h1
  · have hne := (wild_nm h h1).2.2.2
    rw [wtR, h2, wt_wild hne h1, if_neg (by simp)]; simp
  · rw [wtR, h2, wt_flat h0 h1, if_neg (by simp)]; simp; omega
theorem weight_spec (p : List UInt8) (hl : p.length ≤ 8796093022206) : T Tryz.prog W0 140 #[S p] F (fun v H' => v = .int .i64 (wtR p) ∧ H' = F) := by
  have hcl := cutL_len p
  have hll := labels_len (cutL p).2
  have hk3 : (cutL p).1 ≤ 3 := by rcases cut_cases p with ⟨_, h⟩ | ⟨_, _, h⟩ | ⟨_, _, h⟩ | ⟨_, _, _, h⟩ <;> rw [h] <;> simp
  refine T.intro (args := [_]) Tryz.func140 rfl Tryz.ntmps140 rfl ?_
  by_cases h0 : (cutL p).1 = 0
  · repeat' first | refine Y.st ?_ | (refine nw ?_; intro _) | refine Y.kn ?_ | (refine sp ?_ ?_ <;> intro _) | fail
    exact GQ.pure1 rfl (.tmp rfl) (by rw [wtR, if_pos h0])
  · repeat' first | refine Y.st ?_ | (refine nw ?_; intro _) | refine Y.kn ?_ | fail
    refine G.ef rfl rfl rfl (Eff.callF rfl ((rLabels_spec (cutL p).2 (by omega)).mono ?_))
    rintro v H' ⟨B, hb, rfl⟩
    obtain ⟨q, qc, rfl, _, _⟩ := Buf.see hb
    repeat' first | refine Y.st ?_ | (refine nw ?_; intro _) | refine Y.kn ?_ | (refine sp ?_ ?_ <;> intro _) | fail
    refine GQ.pure1 (hs := SubH.app) rfl (.tmp rfl) ?_
    rw [wtR, if_neg h0]
instance {p : List UInt8} : PureF Tryz.prog W0 140 [S p] (p.length ≤ 8796093022206) (.int .i64 (wtR p)) := ⟨fun h _ => weight_spec p h⟩
theorem rvisible_spec (l : List UInt8) (hl : l.length ≤ 8796093022206) : T Tryz.prog W0 130 #[S l] F (fun v H' => v = .bool (visL l) ∧ H' = F) := by
  refine T.intro (args := [_]) Tryz.func130 rfl Tryz.ntmps130 rfl ?_
  repeat' first | refine Y.st ?_ | (refine nw ?_; intro _) | refine Y.kn ?_ | fail
  refine GC.loopE (ι := { k : Nat // k ≤ l.length ∧ ∀ b ∈ l.take k, 33 ≤ b.toNat ∧ b.toNat ≤ 126 }) (fun i => [(3, .int .i64 (i.1 : Int))]) [(0, _)] (fun _ => F) (fun i => l.length - i.1) ⟨0, Nat.zero_le _, by simp⟩ ⟨rfl, rfl, trivial⟩ (fun _ h => h) ?_
  rintro ⟨k, hk, hall⟩
  dsimp only [List.cons_append, List.nil_append] at hk hall ⊢
  by_cases hlt : k < l.length
  · by_cases hb : 33 ≤ (l[k]).toNat ∧ (l[k]).toNat ≤ 126
    · repeat' first | refine Y.st ?_ | (refine nw ?_; intro _) | refine Y.kn ?_ | (refine sp ?_ ?_ <;> intro _) | fail
      all_goals first | (exfalso; omega) | skip
      exact GQ.back ⟨k + 1, by omega, by
        intro b hb'
        rw [List.take_succ_eq_append_getElem hlt] at hb'
        rcases List.mem_append.1 hb' with h | h
        · exact hall b h
        · simp at h; subst h; exact hb⟩ (by simp only; omega) ⟨rfl, rfl, trivial⟩ (fun _ h => h)
    · have hv : visL l = false := by
        unfold visL
        rw [List.all_eq_false.2 ⟨l[k], List.getElem_mem hlt, by simp only [Bool.and_eq_true, decide_eq_true_eq]; exact hb⟩]; rfl
      repeat' first | refine Y.st ?_ | (refine nw ?_; intro _) | refine Y.kn ?_ | (refine sp ?_ ?_ <;> intro _) | fail
      all_goals first | (exfalso; omega) | exact GQ.pure1 rfl (.tmp rfl) (by rw [hv])
  · obtain rfl : k = l.length := by omega
    rw [List.take_length] at hall
    have hv : visL l = !decide (l = []) := by
      unfold visL
      rw [List.all_eq_true.2 (fun b hb => by simp [hall b hb])]; simp
    repeat' first | refine Y.st ?_ | (refine nw ?_; intro _) | refine Y.kn ?_ | (refine sp ?_ ?_ <;> intro _) | fail
    all_goals exact GQ.pure1 rfl (.tmp rfl) (by rw [hv])
instance {l : List UInt8} : PureF Tryz.prog W0 130 [S l] (l.length ≤ 8796093022206) (.bool (visL l)) := ⟨fun h _ => rvisible_spec l h⟩
theorem cut_three {p : Lab} : ((cutL p).1 = 3 ↔ patL p = false) := by
  rcases cut_cases p with ⟨h1, h⟩ | ⟨_, h1, h⟩ | ⟨h1, _, h⟩ | ⟨_, h1, _, h⟩ <;> rw [h]
  · rw [h1, pat_star]; simp
  · simp [h1]
  · simp [h1]
  · simp [h1]
theorem rright_spec (r : Ru) (hl : r.pat.length ≤ 8796093022206) (hl2 : r.alpn.length ≤ 8796093022206) : T Tryz.prog W0 97 #[ruV r] F (fun v H' => v = .int .i64 (rightL r) ∧ H' = F) := by
  refine T.intro (args := [_]) Tryz.func97 rfl Tryz.ntmps97 rfl ?_
  have hct := cut_three (p := r.pat)
  by_cases h1 : r.prio < -1000 ∨ 1000 < r.prio
  · have hr : rightL r = 1 := by rw [rightL, if_pos h1]
    repeat' first | refine Y.st ?_ | (refine nw ?_; intro _) | refine Y.kn ?_ | (refine sp ?_ ?_ <;> intro _) | fail
    all_goals first | (exfalso; omega) | exact GQ.pure1 rfl (.tmp rfl) (by rw [hr])
  · by_cases h2 : (cutL r.pat).1 = 3
    · have hr : rightL r = 9 := by rw [rightL, if_neg h1, if_pos (hct.1 h2)]
      repeat' first | refine Y.st ?_ | (refine nw ?_; intro _) | refine Y.kn ?_ | (refine sp ?_ ?_ <;> intro _) | fail
      all_goals first | (exfalso; omega) | exact GQ.pure1 rfl (.tmp rfl) (by rw [hr])
    · have h2' : ¬ patL r.pat = false := fun h => h2 (hct.2 h)
      by_cases h3 : r.port < 0 ∨ 65535 < r.port
      · have hr : rightL r = 10 := by rw [rightL, if_neg h1, if_neg h2', if_pos h3]
        repeat' first | refine Y.st ?_ | (refine nw ?_; intro _) | refine Y.kn ?_ | (refine sp ?_ ?_ <;> intro _) | fail
        all_goals first | (exfalso; omega) | exact GQ.pure1 rfl (.tmp rfl) (by rw [hr])
      · cases h5 : visL r.alpn with
        | false =>
          by_cases h6 : r.alpn = []
          · have hlen : r.alpn.length = 0 := by rw [h6]; rfl
            have hr : rightL r = 0 := by rw [rightL, if_neg h1, if_neg h2', if_neg h3, if_neg (by simp [h6])]
            repeat' first | refine Y.st ?_ | (refine nw ?_; intro _) | refine Y.kn ?_ | (refine sp ?_ ?_ <;> intro _) | fail
            all_goals first | (exfalso; omega) | (exfalso; contradiction) | exact GQ.pure1 rfl (.tmp rfl) (by rw [hr])
          · have hr : rightL r = 1 := by rw [rightL, if_neg h1, if_neg h2', if_neg h3, if_pos (.inl ⟨h6, h5⟩)]
            repeat' first | refine Y.st ?_ | (refine nw ?_; intro _) | refine Y.kn ?_ | (refine sp ?_ ?_ <;> intro _) | fail
            all_goals first | (exfalso; omega) | (exfalso; contradiction) | exact GQ.pure1 rfl (.tmp rfl) (by rw [hr])
        | true =>
          by_cases h4 : 255 < r.alpn.length
          · have hr : rightL r = 1 := by rw [rightL, if_neg h1, if_neg h2', if_neg h3, if_pos (.inr h4)]
            repeat' first | refine Y.st ?_ | (refine nw ?_; intro _) | refine Y.kn ?_ | (refine sp ?_ ?_ <;> intro _) | fail
            all_goals first | (exfalso; omega) | (exfalso; contradiction) | exact GQ.pure1 rfl (.tmp rfl) (by rw [hr])
          · have hr : rightL r = 0 := by rw [rightL, if_neg h1, if_neg h2', if_neg h3, if_neg (by rw [h5]; simp; omega)]
            repeat' first | refine Y.st ?_ | (refine nw ?_; intro _) | refine Y.kn ?_ | (refine sp ?_ ?_ <;> intro _) | fail
            all_goals first | (exfalso; omega) | (exfalso; contradiction) | exact GQ.pure1 rfl (.tmp rfl) (by rw [hr])
instance {r : Ru} : PureF Tryz.prog W0 97 [.agg #[.bool r.allow, .int .i64 r.prio, S r.pat, .int .i64 r.port, S r.alpn]] (r.pat.length ≤ 8796093022206 ∧ r.alpn.length ≤ 8796093022206) (.int .i64 (rightL r)) := ⟨fun h _ => rright_spec r h.1 h.2⟩
def lessL (a b : Ru) : Bool := if a.prio = b.prio then decide (wtR a.pat < wtR b.pat) else decide (a.prio < b.prio)
theorem less_spec (a b : Ru) (ha : a.pat.length ≤ 8796093022206) (hb : b.pat.length ≤ 8796093022206) : T Tryz.prog W0 106 #[ruV a, ruV b] F (fun v H' => v = .bool (lessL a b) ∧ H' = F) := by
  refine T.intro (args := [_, _]) Tryz.func106 rfl Tryz.ntmps106 rfl ?_
  by_cases hp : a.prio = b.prio
  · repeat' first | refine Y.st ?_ | (refine nw ?_; intro _) | refine Y.kn ?_ | fail
    refine GC.drawnH [(0, .read), (1, .read), (3, .read), (4, .read), (2, .eff), (5, .tail), (6, .tail), (7, .tail)] (by kernel_rfl) (by kernel_rfl) rfl ?_
    repeat' first | refine Y.st ?_ | (refine nw ?_; intro _) | refine Y.kn ?_ | (refine sp ?_ ?_ <;> intro _) | fail
    exact GQ.pure1 rfl (.tmp rfl) (by rw [lessL, if_pos hp])
  · repeat' first | refine Y.st ?_ | (refine nw ?_; intro _) | refine Y.kn ?_ | (refine sp ?_ ?_ <;> intro _) | fail
    exact GQ.pure1 rfl (.tmp rfl) (by rw [lessL, if_neg hp])
theorem rcounts_spec (r : Ru) (host : Lab) (port : Int) (v3 : Value) (alpn : List Lab) (hal : AlpnAt W0 F v3 alpn) (hl : r.pat.length ≤ 8796093022206) (hh : host.length ≤ 8796093022206) :
    T Tryz.prog W0 105 #[ruV r, S host, .int .i64 port, v3] F (fun v H' => v = .bool (countsL r host port alpn) ∧ H' = F) := by
  obtain ⟨⟨p, c, rfl, hc, hat⟩, hlen⟩ := hal
  refine T.intro (args := [_, _, _, _]) Tryz.func105 rfl Tryz.ntmps105 rfl ?_
  repeat' first | refine Y.st ?_ | (refine nw ?_; intro _) | refine Y.kn ?_ | fail
  rename_i b4
  have h00 : (decide (r.alpn = []) || (alpn.take 0).contains r.alpn) = decide (r.alpn = []) := by simp
  refine GC.loopE (ι := { k : Nat // k ≤ alpn.length }) (fun i => [(9, .bool (decide (r.alpn = []) || (alpn.take i.1).contains r.alpn)), (10, .int .i64 (i.1 : Int))]) [(1, _), (2, _), (3, _), (4, _)] (fun _ => (b4, .cells (ruA r) 48 (0, 0)) :: F) (fun i => alpn.length - i.1) ⟨0, Nat.zero_le _⟩ ⟨(by first | rfl | (rw [h00]; rfl)), (by first | rfl | (rw [h00]; rfl)), (by first | rfl | (rw [h00]; rfl)), (by first | rfl | (rw [h00]; rfl)), (by first | rfl | (rw [h00]; rfl)), (by first | rfl | (rw [h00]; rfl)), trivial⟩ (fun _ h => h) ?_
  rintro ⟨k, hk⟩
  dsimp only [List.cons_append, List.nil_append] at hk ⊢
  by_cases hlt : k < alpn.length
  · rcases hat with h0 | ⟨b, o, rfl, hat⟩
    · have := congrArg List.length h0; rw [strs_length] at this; simp at this; subst this; simp at hlt
    have hcell : ∀ w, Own W0 ((b4, .cells (ruA r) 48 (0, 0)) :: F) w → w.cell? ⟨b, o + k * 1, none⟩ = some (S alpn[k]) := fun w hw => by
      have := (hat.cons _).here hw k (S alpn[k]) (by simp [strs, hlt])
      rw [Nat.mul_one]; exact this
    have hnext : (decide (r.alpn = []) || (alpn.take (k + 1)).contains r.alpn) = ((decide (r.alpn = []) || (alpn.take k).contains r.alpn) || decide (alpn[k] = r.alpn)) := by
      rw [List.take_succ_eq_append_getElem hlt, Bool.eq_iff_iff]
      simp only [List.contains_eq_mem, List.mem_append, List.mem_singleton, Bool.or_eq_true, decide_eq_true_eq]
      constructor
      · rintro (h | h | h)
        · exact .inl (.inl h)
        · exact .inl (.inr h)
        · exact .inr h.symm
      · rintro ((h | h) | h)
        · exact .inl h
        · exact .inr (.inl h)
        · exact .inr (.inr h.symm)
    cases hb : (decide (r.alpn = []) || (alpn.take k).contains r.alpn) with
    | true =>
      repeat' first | refine Y.st ?_ | (refine nw ?_; intro _) | refine Y.kn ?_ | fail
      refine GC.drawnH [(0, .read), (1, .read), (2, .read), (3, .read), (4, .read), (5, .read), (6, .read), (7, .read), (8, .read), (9, .read), (10, .read)] (by kernel_rfl) (by kernel_rfl) rfl ?_
      repeat' first | refine Y.st ?_ | (refine nw ?_; intro _) | refine Y.kn ?_ | (refine sp ?_ ?_ <;> intro _) | fail
      exact GQ.back ⟨k + 1, by omega⟩ (by simp only; omega) ⟨by dsimp only; rw [hnext, hb]; rfl, rfl, rfl, rfl, rfl, rfl, trivial⟩ (fun _ h => h)
    | false =>
      repeat' first | refine Y.st ?_ | (refine nw ?_; intro _) | refine Y.kn ?_ | fail
      refine GC.drawnH [(0, .read), (1, .read), (2, .read), (3, .read), (4, .read), (5, .read), (6, .read), (7, .read), (8, .read), (9, .read), (10, .read)] (by kernel_rfl) (by kernel_rfl) rfl ?_
      repeat' first | refine Y.st ?_ | (refine nw ?_; intro _) | refine Y.kn ?_ | (refine sp ?_ ?_ <;> intro _) | fail
      exact GQ.back ⟨k + 1, by omega⟩ (by simp only; omega) ⟨by dsimp only; rw [hnext, hb]; rfl, rfl, rfl, rfl, rfl, rfl, trivial⟩ (fun _ h => h)
  · obtain rfl : k = alpn.length := by omega
    have hcl : countsL r host port alpn = (matchL r.pat host && (decide (r.alpn = []) || alpn.contains r.alpn) && (decide (r.port = 0) || decide (r.port = port))) := by
      unfold countsL fitsL
      cases matchL r.pat host <;> cases (decide (r.alpn = []) || alpn.contains r.alpn) <;> cases (decide (r.port = 0) || decide (r.port = port)) <;> rfl
    rw [List.take_length]
    rw [hcl]
    repeat' first | refine Y.st ?_ | (refine nw ?_; intro _) | refine Y.kn ?_ | (refine sp ?_ ?_ <;> intro _) | fail
    all_goals exact GQ.pure1 rfl (.tmp rfl) (by simp_all)
end
end Go.Tri

namespace Go.Tri
open Go.Own Go.Proofs Go.RowKit Go.Lib Go.Asc Go.Adr Go.Nam Go.Rfn
attribute [local irreducible] GC GQ G Rd Eff T
set_option maxRecDepth 20000
set_option maxHeartbeats 4000000
attribute [local irreducible] named patL matchL visL fitsL rightL countsL

section
variable {W0 : World} {F : Heap}
/-- The document's trie, among what is owned. -/
def RefQ (rs : List Ru) (by_ : Nat) (TH : Heap) : Prop := ∃ lv B, Buf 48 5 lv rs.length (rs.flatMap ruC) B ∧ TH = (by_, .cells #[lv] 104 (0, 0)) :: B ∧ (∀ r ∈ rs, Small r) ∧ rs.length ≤ 200 ∧ Fine rs
theorem dull_same {x r : Ru} : ({ x with allow := r.allow } : Ru) = r ↔ dull x = dull r := by
  obtain ⟨a1, a2, a3, a4, a5⟩ := x
  obtain ⟨b1, b2, b3, b4, b5⟩ := r
  simp [dull]
def RAddR (rs : List Ru) (r : Ru) (by_ : Nat) (F : Heap) : Value → Heap → Prop := fun v H' => v = .int .i64 (addL rs r).2 ∧ ∃ TH, RefQ (addL rs r).1 by_ TH ∧ H'.Perm (TH ++ F)
theorem radd_spec {rs : List Ru} {by_ : Nat} {TH : Heap} (h : RefQ rs by_ TH) (r : Ru) (hr : Small r) : T Tryz.prog W0 51 #[.pointer (some ⟨by_, 0, none⟩), ruV r] (TH ++ F) (RAddR rs r by_ F) := by
  have h' := h
  obtain ⟨lv, B, hb, rfl, hs, hlen, hfine⟩ := h
  obtain ⟨p, cap, rfl, hc, hat⟩ := Buf.see hb
  have hrl := hr.2.1
  have hrl2 := hr.2.2
  refine T.intro (args := [_, _]) Tryz.func51 rfl Tryz.ntmps51 rfl ?_
  repeat' first | refine Y.st ?_ | (refine nw ?_; intro _) | refine Y.kn ?_ | fail
  rename_i b3
  by_cases h0 : rightL r = 0
  case neg =>
    have hadd : addL rs r = (rs, rightL r) := by rw [addL, if_pos h0]
    repeat' first | refine Y.st ?_ | (refine nw ?_; intro _) | refine Y.kn ?_ | (refine sp ?_ ?_ <;> intro _) | fail
    refine GQ.heap (H' := (by_, .cells #[.slice p rs.length cap] 104 (0, 0)) :: B ++ F) ?_ (fun w hw => hw.sub (List.sublist_cons_self _ _))
    exact GQ.done1 rfl rfl ⟨by rw [hadd], _, by rw [hadd]; exact h', .refl _⟩
  by_cases h200 : rs.length = 200
  · have hadd : addL rs r = (rs, 2) := by rw [addL, if_neg (by simp [h0]), if_pos h200]
    repeat' first | refine Y.st ?_ | (refine nw ?_; intro _) | refine Y.kn ?_ | (refine sp ?_ ?_ <;> intro _) | fail
    refine GQ.heap (H' := (by_, .cells #[.slice p rs.length cap] 104 (0, 0)) :: B ++ F) ?_ (fun w hw => hw.sub (List.sublist_cons_self _ _))
    exact GQ.done1 rfl rfl ⟨by rw [hadd], _, by rw [hadd]; exact h', .refl _⟩
  repeat' first | refine Y.st ?_ | (refine nw ?_; intro _) | refine Y.kn ?_ | fail
  refine GC.loopE (ι := { k : Nat // k ≤ rs.length ∧ ∀ m, m < k → dull (rs.getD m zeroR) ≠ dull r }) (fun i => [(6, .int .i64 (i.1 : Int))]) [(0, _), (3, _)] (fun _ => (b3, Obj.cells (ruA r) 48 (0, 0)) :: (by_, Obj.cells #[.slice p rs.length cap] 104 (0, 0)) :: (B ++ F)) (fun i => rs.length - i.1) ⟨0, Nat.zero_le _, fun m h => by omega⟩ ⟨rfl, rfl, rfl, trivial⟩ (fun _ h => h) ?_
  rintro ⟨k, hk, hall⟩
  dsimp only [List.cons_append, List.nil_append] at hk hall ⊢
  by_cases hlt : k < rs.length
  · have hatF : Go.Tri.Lies W0 ((b3, Obj.cells (ruA r) 48 (0, 0)) :: (by_, Obj.cells #[.slice p rs.length cap] 104 (0, 0)) :: (B ++ F)) p (rs.flatMap ruC) := ((hat W0).app ((b3, Obj.cells (ruA r) 48 (0, 0)) :: (by_, Obj.cells #[.slice p rs.length cap] 104 (0, 0)) :: F)).perm (by exact permC)
    obtain ⟨b1, o1, rfl, hc1⟩ := lies_get hatF hlt
    have h1 := hc1 k hlt
    repeat' first | refine Y.st ?_ | (refine nw ?_; intro _) | refine Y.kn ?_ | fail
    refine G.rd (Rd.eqlRu { rs.getD k zeroR with allow := r.allow } r rfl rfl (getD_small hs hlt).1 hr.1) rfl rfl ?_
    by_cases he : ({ rs.getD k zeroR with allow := r.allow } : Ru) = r
    · have hmem : dull r ∈ rs.map dull := List.mem_map.2 ⟨_, getD_mem hlt, dull_same.1 he⟩
      have hadd : addL rs r = (rs, 7) := by rw [addL, if_neg (by simp [h0]), if_neg h200, if_pos hmem]
      repeat' first | refine Y.st ?_ | (refine nw ?_; intro _) | refine Y.kn ?_ | (refine sp ?_ ?_ <;> intro _) | fail
      refine GQ.heap (H' := (by_, Obj.cells #[.slice (some ⟨b1, o1, none⟩) rs.length cap] 104 (0, 0)) :: B ++ F) ?_ (fun w hw => hw.sub ((List.sublist_cons_self _ _).trans (List.sublist_cons_self _ _)))
      exact GQ.done1 rfl rfl ⟨by rw [hadd], _, by rw [hadd]; exact h', .refl _⟩
    · repeat' first | refine Y.st ?_ | (refine nw ?_; intro _) | refine Y.kn ?_ | (refine sp ?_ ?_ <;> intro _) | fail
      exact GQ.back ⟨k + 1, by omega, fun m hm => by
        rcases Nat.lt_or_ge m k with h | h
        · exact hall m h
        · obtain rfl : m = k := by omega
          exact fun h => he (dull_same.2 h)⟩ (by simp only; omega) ⟨rfl, rfl, rfl, trivial⟩ (fun w hw => hw.sub SubH.out)
  · obtain rfl : k = rs.length := by omega
    have hnm : dull r ∉ rs.map dull := by
      intro hm
      obtain ⟨x, hx, he⟩ := List.mem_map.1 hm
      obtain ⟨i, hi, rfl⟩ := mem_getD hx
      exact hall i hi he
    have hadd : addL rs r = (rs ++ [r], 0) := by rw [addL, if_neg (by simp [h0]), if_neg h200, if_neg hnm]
    have hlen' : (rs ++ [r]).length ≤ 200 := by have := add_len hlen r; rw [hadd] at this; exact this
    have hfine' : Fine (rs ++ [r]) := by have := add_fine hfine r; rw [hadd] at this; exact this
    have hs' : ∀ x ∈ rs ++ [r], Small x := by
      intro x hx
      rcases List.mem_append.1 hx with hx | hx
      · exact hs x hx
      · simp at hx; subst hx; exact hr
    have hfl := rules_len rs
    have hone : ∀ u ∈ ruC r, u.oneCell' = true := by have := rules_one [r]; simpa using this
    have h9 : ∀ v B9, Buf 48 5 v (0 + rs.length + 1) ([] ++ rs.flatMap ruC ++ ruC r) B9 → Buf 48 5 v (rs ++ [r]).length ((rs ++ [r]).flatMap ruC) B9 := fun v B9 h => by
      have e1 : 0 + rs.length + 1 = (rs ++ [r]).length := by simp
      have e2 : [] ++ rs.flatMap ruC ++ ruC r = (rs ++ [r]).flatMap ruC := by simp
      rw [← e1, ← e2]; exact h
    repeat' first | refine Y.st ?_ | (refine nw ?_; intro _) | refine Y.kn ?_ | fail
    refine GC.any [12] [(b3, Obj.cells (ruA r) 48 (0, 0)), (by_, Obj.cells #[.slice p rs.length cap] 104 (0, 0))] 13 rfl (by kernel_rfl) ?_
    refine GA.read 0 rfl (by kernel_rfl) (by kernel_rfl) (fun w hw => hw.sub SubH.out) (Rd.move rfl) rfl rfl ?_
    refine GA.read 2 rfl (by kernel_rfl) (by kernel_rfl) (fun w hw => hw.sub SubH.out) (Rd.move rfl) rfl rfl ?_
    refine GA.read 3 rfl (by kernel_rfl) (by kernel_rfl) (fun w hw => hw.sub SubH.out) (Rd.nilCheck rfl) rfl rfl ?_
    refine GA.read 4 rfl (by kernel_rfl) (by kernel_rfl) (fun w hw => hw.sub SubH.out) (Rd.fieldAddr rfl) rfl rfl ?_
    refine GA.read 5 rfl (by kernel_rfl) (by kernel_rfl) (fun w hw => hw.sub SubH.out) (Rd.load rfl (cellN rfl)) rfl rfl ?_
    refine GA.read 7 rfl (by kernel_rfl) (by kernel_rfl) (fun w hw => hw.sub SubH.out) (Rd.loadBlk (cs := ruC r) rfl rfl) rfl rfl ?_
    refine GA.two 1 8 (by kernel_rfl) rfl rfl rfl rfl rfl rfl (Eff.buildSlice (cells := #[]) rfl (by kernel_rfl) (by omega) (fun bA => ⟨fun _ w hw => hw.sub SubH.out, ?_⟩)) (Eff.buildSlice (cells := ruA r) rfl (by kernel_rfl) (by omega) (fun bB => ⟨fun _ w hw => hw.sub SubH.out, ?_⟩))
    · have qA : ((bA, Obj.cells #[] 48 (0, 0)) :: (b3, Obj.cells (ruA r) 48 (0, 0)) :: (by_, Obj.cells #[.slice p rs.length cap] 104 (0, 0)) :: (B ++ F)).Perm ([(bA, Obj.cells ([] ++ []).toArray 48 (0, 0))] ++ ((b3, Obj.cells (ruA r) 48 (0, 0)) :: (by_, Obj.cells #[.slice p rs.length cap] 104 (0, 0)) :: (B ++ F))) := by
        simp only [List.append_nil]
        exact permC
      have qS : ((bA, Obj.cells #[] 48 (0, 0)) :: (b3, Obj.cells (ruA r) 48 (0, 0)) :: (by_, Obj.cells #[.slice p rs.length cap] 104 (0, 0)) :: (B ++ F)).Perm (((bA, Obj.cells #[] 48 (0, 0)) :: (b3, Obj.cells (ruA r) 48 (0, 0)) :: (by_, Obj.cells #[.slice p rs.length cap] 104 (0, 0)) :: F) ++ B) := by exact permC
      refine GA.two 6 8 (by kernel_rfl) rfl rfl rfl rfl rfl rfl (Eff.app (ys := rs.flatMap ruC) (hB := Buf.row bA 0 0 [] [] rfl rfl (Nat.le_refl _) (by omega)) rfl rfl (hH := ⟨qA⟩) (by omega) hfl (fun w hw => (hat W0).ro.own ((bA, Obj.cells #[] 48 (0, 0)) :: (b3, Obj.cells (ruA r) 48 (0, 0)) :: (by_, Obj.cells #[.slice p rs.length cap] 104 (0, 0)) :: F) w (hw.perm qS)) (rules_one rs) (by omega) (by omega) (fun v6 B6 hB6 => ⟨fun _ w hw => hw.sub SubH.out, ?_⟩)) (Eff.buildSlice (cells := ruA r) rfl (by kernel_rfl) (by omega) (fun bB => ⟨fun _ w hw => hw.sub SubH.out, ?_⟩))
      · refine GA.toG [(8, .eff), (9, .eff), (10, .read), (11, .read), (12, .tail)] (by kernel_rfl) rfl ?_
        refine G.eeP rfl rfl rfl (Eff.buildSlice (cells := ruA r) rfl (by kernel_rfl) (by omega) (fun bB => ⟨fun w hw => hw.sub SubH.out, ?_⟩))
        have q9 : ((bB, Obj.cells (ruA r) 48 (0, 0)) :: (B6 ++ ((b3, Obj.cells (ruA r) 48 (0, 0)) :: (by_, Obj.cells #[.slice p rs.length cap] 104 (0, 0)) :: (B ++ F)))).Perm (B6 ++ ((bB, Obj.cells (ruA r) 48 (0, 0)) :: (b3, Obj.cells (ruA r) 48 (0, 0)) :: (by_, Obj.cells #[.slice p rs.length cap] 104 (0, 0)) :: (B ++ F))) := by exact permC
        refine G.eeP rfl rfl rfl (Eff.app (ys := ruC r) rfl hB6 rfl (hH := ⟨q9⟩) (by omega) rfl (at_here (cs := ruC r)) hone (by omega) (by omega) (fun v9 B9 hB9 => ⟨fun w hw => hw.sub SubH.out, ?_⟩))
        have hv9 : v9.oneCell' = true := by cases hB9 <;> rfl
        repeat' first | refine Y.st ?_ | (refine nw ?_; intro _) | refine Y.kn ?_ | fail
        refine G.ef rfl rfl rfl (Eff.store rfl rfl hv9 (by simp) (by simp [Fz]) ?_)
        refine G.heap (H' := B9 ++ ((bB, Obj.cells (ruA r) 48 (0, 0)) :: (b3, Obj.cells (ruA r) 48 (0, 0)) :: (by_, Obj.cells #[v9] 104 (0, 0)) :: (B ++ F))) ?_ (fun _ h => h)
        repeat' first | refine Y.st ?_ | (refine nw ?_; intro _) | refine Y.kn ?_ | fail
        have qE : (B9 ++ ((bB, Obj.cells (ruA r) 48 (0, 0)) :: (b3, Obj.cells (ruA r) 48 (0, 0)) :: (by_, Obj.cells #[v9] 104 (0, 0)) :: (B ++ F))).Perm (((bB, Obj.cells (ruA r) 48 (0, 0)) :: (b3, Obj.cells (ruA r) 48 (0, 0)) :: B) ++ ((by_, Obj.cells #[v9] 104 (0, 0)) :: B9 ++ F)) := by exact permC
        refine GQ.heap (H' := (by_, Obj.cells #[v9] 104 (0, 0)) :: B9 ++ F) ?_ (fun w hw => (hw.perm qE).sub (List.sublist_append_right _ _))
        exact GQ.done1 rfl rfl ⟨by rw [hadd], _, ⟨v9, B9, by rw [hadd]; exact h9 _ _ hB9, rfl, by rw [hadd]; exact hs', by rw [hadd]; exact hlen', by rw [hadd]; exact hfine'⟩, .refl _⟩
      · refine GA.toG [(6, .eff), (9, .eff), (10, .read), (11, .read), (12, .tail)] (by kernel_rfl) rfl ?_
        have qA : ((bB, Obj.cells (ruA r) 48 (0, 0)) :: (bA, Obj.cells #[] 48 (0, 0)) :: (b3, Obj.cells (ruA r) 48 (0, 0)) :: (by_, Obj.cells #[.slice p rs.length cap] 104 (0, 0)) :: (B ++ F)).Perm ([(bA, Obj.cells ([] ++ []).toArray 48 (0, 0))] ++ ((bB, Obj.cells (ruA r) 48 (0, 0)) :: (b3, Obj.cells (ruA r) 48 (0, 0)) :: (by_, Obj.cells #[.slice p rs.length cap] 104 (0, 0)) :: (B ++ F))) := by
          simp only [List.append_nil]
          exact permC
        have qS : ((bB, Obj.cells (ruA r) 48 (0, 0)) :: (bA, Obj.cells #[] 48 (0, 0)) :: (b3, Obj.cells (ruA r) 48 (0, 0)) :: (by_, Obj.cells #[.slice p rs.length cap] 104 (0, 0)) :: (B ++ F)).Perm (((bB, Obj.cells (ruA r) 48 (0, 0)) :: (bA, Obj.cells #[] 48 (0, 0)) :: (b3, Obj.cells (ruA r) 48 (0, 0)) :: (by_, Obj.cells #[.slice p rs.length cap] 104 (0, 0)) :: F) ++ B) := by exact permC
        refine G.eeP rfl rfl rfl (Eff.app (ys := rs.flatMap ruC) (hB := Buf.row bA 0 0 [] [] rfl rfl (Nat.le_refl _) (by omega)) rfl rfl (hH := ⟨qA⟩) (by omega) hfl (fun w hw => (hat W0).ro.own ((bB, Obj.cells (ruA r) 48 (0, 0)) :: (bA, Obj.cells #[] 48 (0, 0)) :: (b3, Obj.cells (ruA r) 48 (0, 0)) :: (by_, Obj.cells #[.slice p rs.length cap] 104 (0, 0)) :: F) w (hw.perm qS)) (rules_one rs) (by omega) (by omega) (fun v6 B6 hB6 => ⟨fun w hw => hw.sub SubH.out, ?_⟩))
        have q9 : (B6 ++ ((bB, Obj.cells (ruA r) 48 (0, 0)) :: (b3, Obj.cells (ruA r) 48 (0, 0)) :: (by_, Obj.cells #[.slice p rs.length cap] 104 (0, 0)) :: (B ++ F))).Perm (B6 ++ ((bB, Obj.cells (ruA r) 48 (0, 0)) :: (b3, Obj.cells (ruA r) 48 (0, 0)) :: (by_, Obj.cells #[.slice p rs.length cap] 104 (0, 0)) :: (B ++ F))) := .refl _
        refine G.eeP rfl rfl rfl (Eff.app (ys := ruC r) rfl hB6 rfl (hH := ⟨q9⟩) (by omega) rfl (at_here (cs := ruC r)) hone (by omega) (by omega) (fun v9 B9 hB9 => ⟨fun w hw => hw.sub SubH.out, ?_⟩))
        have hv9 : v9.oneCell' = true := by cases hB9 <;> rfl
        repeat' first | refine Y.st ?_ | (refine nw ?_; intro _) | refine Y.kn ?_ | fail
        refine G.ef rfl rfl rfl (Eff.store rfl rfl hv9 (by simp) (by simp [Fz]) ?_)
        refine G.heap (H' := B9 ++ ((bB, Obj.cells (ruA r) 48 (0, 0)) :: (b3, Obj.cells (ruA r) 48 (0, 0)) :: (by_, Obj.cells #[v9] 104 (0, 0)) :: (B ++ F))) ?_ (fun _ h => h)
        repeat' first | refine Y.st ?_ | (refine nw ?_; intro _) | refine Y.kn ?_ | fail
        have qE : (B9 ++ ((bB, Obj.cells (ruA r) 48 (0, 0)) :: (b3, Obj.cells (ruA r) 48 (0, 0)) :: (by_, Obj.cells #[v9] 104 (0, 0)) :: (B ++ F))).Perm (((bB, Obj.cells (ruA r) 48 (0, 0)) :: (b3, Obj.cells (ruA r) 48 (0, 0)) :: B) ++ ((by_, Obj.cells #[v9] 104 (0, 0)) :: B9 ++ F)) := by exact permC
        refine GQ.heap (H' := (by_, Obj.cells #[v9] 104 (0, 0)) :: B9 ++ F) ?_ (fun w hw => (hw.perm qE).sub (List.sublist_append_right _ _))
        exact GQ.done1 rfl rfl ⟨by rw [hadd], _, ⟨v9, B9, by rw [hadd]; exact h9 _ _ hB9, rfl, by rw [hadd]; exact hs', by rw [hadd]; exact hlen', by rw [hadd]; exact hfine'⟩, .refl _⟩
    · refine GA.toG [(1, .eff), (6, .eff), (9, .eff), (10, .read), (11, .read), (12, .tail)] (by kernel_rfl) rfl ?_
      refine G.eeP rfl rfl rfl (Eff.buildSlice (cells := #[]) rfl (by kernel_rfl) (by omega) (fun bA => ⟨fun w hw => hw.sub SubH.out, ?_⟩))
      have qA : ((bA, Obj.cells #[] 48 (0, 0)) :: (bB, Obj.cells (ruA r) 48 (0, 0)) :: (b3, Obj.cells (ruA r) 48 (0, 0)) :: (by_, Obj.cells #[.slice p rs.length cap] 104 (0, 0)) :: (B ++ F)).Perm ([(bA, Obj.cells ([] ++ []).toArray 48 (0, 0))] ++ ((bB, Obj.cells (ruA r) 48 (0, 0)) :: (b3, Obj.cells (ruA r) 48 (0, 0)) :: (by_, Obj.cells #[.slice p rs.length cap] 104 (0, 0)) :: (B ++ F))) := by
        simp only [List.append_nil]
        exact permC
      have qS : ((bA, Obj.cells #[] 48 (0, 0)) :: (bB, Obj.cells (ruA r) 48 (0, 0)) :: (b3, Obj.cells (ruA r) 48 (0, 0)) :: (by_, Obj.cells #[.slice p rs.length cap] 104 (0, 0)) :: (B ++ F)).Perm (((bA, Obj.cells #[] 48 (0, 0)) :: (bB, Obj.cells (ruA r) 48 (0, 0)) :: (b3, Obj.cells (ruA r) 48 (0, 0)) :: (by_, Obj.cells #[.slice p rs.length cap] 104 (0, 0)) :: F) ++ B) := by exact permC
      refine G.eeP rfl rfl rfl (Eff.app (ys := rs.flatMap ruC) (hB := Buf.row bA 0 0 [] [] rfl rfl (Nat.le_refl _) (by omega)) rfl rfl (hH := ⟨qA⟩) (by omega) hfl (fun w hw => (hat W0).ro.own ((bA, Obj.cells #[] 48 (0, 0)) :: (bB, Obj.cells (ruA r) 48 (0, 0)) :: (b3, Obj.cells (ruA r) 48 (0, 0)) :: (by_, Obj.cells #[.slice p rs.length cap] 104 (0, 0)) :: F) w (hw.perm qS)) (rules_one rs) (by omega) (by omega) (fun v6 B6 hB6 => ⟨fun w hw => hw.sub SubH.out, ?_⟩))
      have q9 : (B6 ++ ((bB, Obj.cells (ruA r) 48 (0, 0)) :: (b3, Obj.cells (ruA r) 48 (0, 0)) :: (by_, Obj.cells #[.slice p rs.length cap] 104 (0, 0)) :: (B ++ F))).Perm (B6 ++ ((bB, Obj.cells (ruA r) 48 (0, 0)) :: (b3, Obj.cells (ruA r) 48 (0, 0)) :: (by_, Obj.cells #[.slice p rs.length cap] 104 (0, 0)) :: (B ++ F))) := .refl _
      refine G.eeP rfl rfl rfl (Eff.app (ys := ruC r) rfl hB6 rfl (hH := ⟨q9⟩) (by omega) rfl (at_here (cs := ruC r)) hone (by omega) (by omega) (fun v9 B9 hB9 => ⟨fun w hw => hw.sub SubH.out, ?_⟩))
      have hv9 : v9.oneCell' = true := by cases hB9 <;> rfl
      repeat' first | refine Y.st ?_ | (refine nw ?_; intro _) | refine Y.kn ?_ | fail
      refine G.ef rfl rfl rfl (Eff.store rfl rfl hv9 (by simp) (by simp [Fz]) ?_)
      refine G.heap (H' := B9 ++ ((bB, Obj.cells (ruA r) 48 (0, 0)) :: (b3, Obj.cells (ruA r) 48 (0, 0)) :: (by_, Obj.cells #[v9] 104 (0, 0)) :: (B ++ F))) ?_ (fun _ h => h)
      repeat' first | refine Y.st ?_ | (refine nw ?_; intro _) | refine Y.kn ?_ | fail
      have qE : (B9 ++ ((bB, Obj.cells (ruA r) 48 (0, 0)) :: (b3, Obj.cells (ruA r) 48 (0, 0)) :: (by_, Obj.cells #[v9] 104 (0, 0)) :: (B ++ F))).Perm (((bB, Obj.cells (ruA r) 48 (0, 0)) :: (b3, Obj.cells (ruA r) 48 (0, 0)) :: B) ++ ((by_, Obj.cells #[v9] 104 (0, 0)) :: B9 ++ F)) := by exact permC
      refine GQ.heap (H' := (by_, Obj.cells #[v9] 104 (0, 0)) :: B9 ++ F) ?_ (fun w hw => (hw.perm qE).sub (List.sublist_append_right _ _))
      exact GQ.done1 rfl rfl ⟨by rw [hadd], _, ⟨v9, B9, by rw [hadd]; exact h9 _ _ hB9, rfl, by rw [hadd]; exact hs', by rw [hadd]; exact hlen', by rw [hadd]; exact hfine'⟩, .refl _⟩
end
end Go.Tri
