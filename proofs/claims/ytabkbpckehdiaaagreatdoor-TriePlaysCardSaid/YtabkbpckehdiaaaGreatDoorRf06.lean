/-
  THE DOCUMENT'S ANSWERS, addresses read: the whole.
-/
import Derived.Test.YtabkbpckehdiaaaGreatDoorRf04
namespace Go.Rfn
open Go.Own Go.Proofs Go.RowKit Go.Lib Go.Asc Go.Adr Go.Nam
attribute [local irreducible] GC GQ G Rd Eff T
set_option maxRecDepth 20000
set_option maxHeartbeats 4000000
/-- Two colons stand at i. -/
def Occ (l : List UInt8) (i : Nat) : Prop := l[i]? = some 58 ∧ l[i + 1]? = some 58
theorem head_get (l : List UInt8) : l.head? = l[0]? := by cases l <;> rfl
theorem dd_none {l : List UInt8} (h : ∀ i, ¬ Occ l i) : cutDD l = none := by
  induction l with
  | nil => rfl
  | cons b l ih =>
    simp only [cutDD]
    rw [if_neg (fun e => h 0 ⟨by simp [e.1], by simpa [← head_get] using e.2⟩), ih (fun i hi => h (i + 1) ⟨by simpa [Occ] using hi.1, by simpa [Occ] using hi.2⟩)]
    rfl
theorem dd_some : ∀ {l : List UInt8} {m : Nat}, Occ l m → (∀ i, i < m → ¬ Occ l i) → cutDD l = some (l.take m, l.drop (m + 2))
  | [], m, h, _ => by simp [Occ] at h
  | b :: l, 0, h, _ => by
    simp only [cutDD]
    have h1 : b = 58 := by simpa using h.1
    have h2 : l.head? = some 58 := by rw [head_get]; simpa using h.2
    rw [if_pos ⟨h1, h2⟩]
    simp
  | b :: l, m + 1, h, hno => by
    have h1 : Occ l m := ⟨by simpa using h.1, by simpa using h.2⟩
    have h2 : ∀ i, i < m → ¬ Occ l i := fun i hi ho => hno (i + 1) (by omega) ⟨by simpa using ho.1, by simpa using ho.2⟩
    simp only [cutDD]
    rw [if_neg (fun e => hno 0 (by omega) ⟨by simp [e.1], by simpa [← head_get] using e.2⟩), dd_some h1 h2]
    simp
theorem grp_empty (may : Bool) : ∀ {ps : List (List UInt8)}, [] ∈ ps → grp may ps = none
  | [], h => by cases h
  | x :: xs, h => by
    have h0 : hexR [] = none := by decide
    have h1 : dot [] = none := by decide
    rcases List.mem_cons.1 h with rfl | h
    · simp only [grp, h0, h1]
    · cases hx : hexR x with
      | some n => rw [grp_some hx, grp_empty may h]; rfl
      | none =>
        refine grp_bad hx ?_
        rintro ⟨_, _, rfl⟩
        cases h
theorem split_empty_head {y : List UInt8} (h : y[0]? = some 58) : [] ∈ splitB 58 y := by
  cases y with
  | nil => simp at h
  | cons a y => simp at h; subst h; rw [splitB_sep]; simp
theorem split_empty_mid : ∀ {y : List UInt8} {j : Nat}, Occ y j → [] ∈ splitB 58 y
  | [], j, h => by simp [Occ] at h
  | b :: y, 0, h => split_empty_head h.1
  | b :: y, j + 1, h => by
    have h1 : Occ y j := ⟨by simpa using h.1, by simpa using h.2⟩
    have ih := split_empty_mid h1
    by_cases hb : b = 58
    · subst hb; rw [splitB_sep]; simp
    · obtain ⟨p, ps, e1, e2⟩ := splitB_other hb y
      rw [e2]
      rw [e1] at ih
      rcases List.mem_cons.1 ih with he | he
      · -- the first part is empty: then y begins with a colon, at once with two at j = 0 or further on
        subst he
        cases j with
        | zero =>
          -- y = 58 :: 58 :: z: behind the first part there is another empty one, or the rest
          cases y with
          | nil => simp [Occ] at h1
          | cons a y =>
            cases y with
            | nil => simp [Occ] at h1
            | cons c y =>
              have ha : a = 58 := by simpa using h1.1
              have hc : c = 58 := by simpa using h1.2
              subst ha hc
              rw [splitB_sep, splitB_sep] at e1
              cases e1
              simp
        | succ j =>
          cases y with
          | nil => simp [Occ] at h1
          | cons a y =>
            have h2 : Occ y j := ⟨by simpa using h1.1, by simpa using h1.2⟩
            have ih2 := split_empty_mid h2
            by_cases ha : a = 58
            · subst ha
              rw [splitB_sep] at e1
              cases e1
              exact List.mem_cons_of_mem _ ih2
            · obtain ⟨q, qs, _, e4⟩ := splitB_other ha y
              rw [e4] at e1; cases e1
      · exact List.mem_cons_of_mem _ he
theorem second_none {l : List UInt8} {m i : Nat} (hm : Occ l m) (hi : Occ l i) (h : m < i) : readL true (l.drop (m + 2)) = none := by
  have hlen : i + 1 < l.length := (List.getElem?_eq_some_iff.1 hi.2).1
  have hne : l.drop (m + 2) ≠ [] := by
    intro e; have := congrArg List.length e; simp at this; omega
  rw [readL, if_neg hne]
  refine grp_empty true ?_
  by_cases h1 : i = m + 1
  · subst h1
    exact split_empty_head (by rw [List.getElem?_drop]; exact hi.2)
  · refine split_empty_mid (j := i - (m + 2)) ⟨?_, ?_⟩
    · rw [List.getElem?_drop, show m + 2 + (i - (m + 2)) = i by omega]; exact hi.1
    · rw [List.getElem?_drop, show m + 2 + (i - (m + 2) + 1) = i + 1 by omega]; exact hi.2
section
variable {W0 : World} {F : Heap}
theorem Of4_spec (b : List UInt8) (hb : b.length = 4) : T Tryz.prog W0 75 #[.agg (u8s b).toArray] F (fun v H' => v = .agg (u8s (aheadL ++ b)).toArray ∧ H' = F) := by
  match b, hb with
  | [b0, b1, b2, b3], _ =>
    refine T.intro (args := [_]) Tryz.func75 rfl Tryz.ntmps75 rfl ?_
    repeat' first | refine st ?_ | (refine nw ?_; intro _) | refine kn ?_ | (refine sp ?_ ?_ <;> intro _) | fail
    refine GC.heap (H' := (_, .cells (u8s (aheadL ++ ([b0, b1, b2, b3].take 0 ++ List.replicate (4 - 0) 0))).toArray 51 (0, 0)) :: (_, .cells (u8s zero16).toArray 51 (0, 0)) :: (_, .cells (u8s [b0, b1, b2, b3]).toArray 81 (0, 0)) :: F) ?_ (fun _ h => h)
    refine GC.loopE (ι := { k : Nat // k ≤ 4 }) (fun i => [(4, .int .i64 (i.1 : Int))]) [(1, _), (2, _), (3, _)] (fun i => (_, .cells (u8s (aheadL ++ ([b0, b1, b2, b3].take i.1 ++ List.replicate (4 - i.1) 0))).toArray 51 (0, 0)) :: (_, .cells (u8s zero16).toArray 51 (0, 0)) :: (_, .cells (u8s [b0, b1, b2, b3]).toArray 81 (0, 0)) :: F) (fun i => 4 - i.1) ⟨0, Nat.zero_le _⟩ ⟨rfl, rfl, rfl, rfl, trivial⟩ (fun _ h => h) ?_
    rintro ⟨k, hk⟩
    dsimp only [List.cons_append, List.nil_append] at hk ⊢
    have h12 : aheadL.length = 12 := rfl
    have h16 : (aheadL ++ ([b0, b1, b2, b3].take k ++ List.replicate (4 - k) 0)).length = 16 := by
      rw [List.length_append, List.length_append, List.length_take, List.length_replicate, h12]; simp; omega
    by_cases hlt : k < 4
    · have hl4 : [b0, b1, b2, b3].length = 4 := rfl
      have hlt2 : k < [b0, b1, b2, b3].length := hlt
      have hset : (aheadL ++ ([b0, b1, b2, b3].take k ++ List.replicate (4 - k) 0)).set (12 + k) [b0, b1, b2, b3][k] = aheadL ++ ([b0, b1, b2, b3].take (k + 1) ++ List.replicate (4 - (k + 1)) 0) := by
        match k, hlt with
        | 0, _ => rfl
        | 1, _ => rfl
        | 2, _ => rfl
        | 3, _ => rfl
      repeat' first | refine st ?_ | (refine nw ?_; intro _) | refine kn ?_ | (refine sp ?_ ?_ <;> intro _) | fail
      rw [hset]
      exact GQ.back ⟨k + 1, by omega⟩ (by simp only; omega) ⟨rfl, rfl, rfl, rfl, trivial⟩ (fun w hw => hw)
    · obtain rfl : k = 4 := by omega
      repeat' first | refine st ?_ | (refine nw ?_; intro _) | refine kn ?_ | (refine sp ?_ ?_ <;> intro _) | fail
      exact GQ.pure1 rfl (.agg rfl (by rw [u8s_length]; exact h16)) rfl
instance {b : List UInt8} : PureF Tryz.prog W0 75 [.agg (u8s b).toArray] (b.length = 4) (.agg (u8s (aheadL ++ b)).toArray) := ⟨fun h _ => Of4_spec b h⟩
def atI : Option Nat → Int
  | none => -1
  | some m => (m : Int)
def AtOk (l : List UInt8) (k : Nat) : Option Nat → Prop
  | none => ∀ i, i < k → ¬ Occ l i
  | some m => m < k ∧ Occ l m ∧ ∀ i, i < m → ¬ Occ l i
theorem occ_iff {l : List UInt8} {k : Nat} (h : k + 1 < l.length) : Occ l k ↔ ((l[k]).toNat = 58 ∧ (l[k + 1]).toNat = 58) := by
  unfold Occ
  rw [List.getElem?_eq_getElem (by omega), List.getElem?_eq_getElem h]
  simp only [Option.some.injEq]
  constructor
  · rintro ⟨h1, h2⟩; rw [h1, h2]; exact ⟨rfl, rfl⟩
  · rintro ⟨h1, h2⟩; exact ⟨UInt8.toNat_inj.1 h1, UInt8.toNat_inj.1 h2⟩
theorem z16 : (u8s zero16).length = 16 := rfl
theorem fail_spec {l : List UInt8} (hp : parseL l = none) : Value.tuple #[.agg (u8s zero16).toArray, .bool false] = parseV l := by rw [parseV, hp]; rfl
theorem Parse_spec (l : List UInt8) (hl : l.length ≤ 8796093022207) : T Tryz.prog W0 39 #[S l] F (fun v H' => v = parseV l ∧ H' = F) := by
  refine T.intro (args := [_]) Tryz.func39 rfl Tryz.ntmps39 rfl ?_
  repeat' first | refine st ?_ | (refine nw ?_; intro _) | refine kn ?_ | (refine sp ?_ ?_ <;> intro _) | fail
  rename_i b2 b4
  refine G.ef rfl rfl rfl (Eff.callF rfl ((dotted_spec l hl).mono ?_))
  rintro v H' ⟨B, hd, rfl⟩
  generalize hdo : dot l = od at hd
  cases hd with
  | some q v B h4 hb =>
    have hp : parseL l = some (aheadL ++ q) := by rw [parseL_dd, hdo]
    rcases Buf.parts hb with ⟨_, h0, _, _⟩ | ⟨b, cap, extra, rfl, rfl, hcap, hx, hmax⟩
    · omega
    match q, h4 with
    | [d0, d1, d2, d3], _ =>
      have hl4 : [d0, d1, d2, d3].length = 4 := rfl
      have h16 : (u8s (aheadL ++ [d0, d1, d2, d3])).length = 16 := rfl
      repeat' first | refine st ?_ | (refine nw ?_; intro _) | refine kn ?_ | (refine sp ?_ ?_ <;> intro _) | fail
      refine GC.drawnH [(0, .read), (1, .read), (2, .read), (3, .read), (4, .read), (5, .read), (6, .read), (7, .read), (8, .read), (9, .read), (10, .read), (11, .read), (12, .read), (13, .tail), (14, .tail), (15, .tail)] (by kernel_rfl) (by kernel_rfl) rfl ?_
      repeat' first | refine st ?_ | (refine nw ?_; intro _) | refine kn ?_ | (refine sp ?_ ?_ <;> intro _) | fail
      refine G.rd (Rd.build (cells := (u8s [d0, d1, d2, d3]).toArray) rfl rfl) rfl rfl ?_
      repeat' first | refine st ?_ | (refine nw ?_; intro _) | refine kn ?_ | (refine sp ?_ ?_ <;> intro _) | fail
      exact GQ.pure2 rfl (.agg rfl h16) (.tmp rfl) (by rw [parseV, hp]; rfl)
  | none =>
    repeat' first | refine st ?_ | (refine nw ?_; intro _) | refine kn ?_ | (refine sp ?_ ?_ <;> intro _) | fail
    refine GC.heap (H' := (b4, .cells (u8s zero16).toArray 51 (0, 0)) :: (b2, .cells (u8s zero16).toArray 51 (0, 0)) :: F) ?_ (fun _ h => h)
    refine GC.loopE (ι := { q : Nat × Option Nat // q.1 ≤ l.length ∧ AtOk l q.1 q.2 }) (fun i => [(7, .int .i64 (atI i.1.2)), (8, .int .i64 (i.1.1 : Int))]) [(0, _), (2, _), (4, _)] (fun i => (b4, .cells (u8s zero16).toArray 51 (0, 0)) :: (b2, .cells (u8s zero16).toArray 51 (0, 0)) :: F) (fun i => l.length - i.1.1) ⟨(0, none), Nat.zero_le _, fun i hi => by omega⟩ ⟨rfl, rfl, rfl, rfl, rfl, trivial⟩ (fun _ h => h) ?_
    rintro ⟨⟨k, o⟩, hk, hat⟩
    dsimp only [List.cons_append, List.nil_append] at hk hat ⊢
    by_cases hlt : k + 1 < l.length
    · have hocc := occ_iff hlt
      by_cases ho : Occ l k
      · obtain ⟨e1, e2⟩ := hocc.1 ho
        cases o with
        | none =>
          simp only [atI]
          repeat' first | refine st ?_ | (refine nw ?_; intro _) | refine kn ?_ | (refine sp ?_ ?_ <;> intro _) | fail
          exact GQ.back ⟨(k + 1, some k), by omega, by omega, ho, hat⟩ (by simp only; omega) ⟨rfl, rfl, rfl, rfl, rfl, trivial⟩ (fun w hw => hw)
        | some m =>
          obtain ⟨hm1, hm2, hm3⟩ := hat
          have hp : parseL l = none := by
            rw [parseL_dd, hdo, dd_some hm2 hm3]
            simp only [second_none hm2 ho hm1]
            cases readL false (l.take m) <;> rfl
          simp only [atI]
          repeat' first | refine st ?_ | (refine nw ?_; intro _) | refine kn ?_ | (refine sp ?_ ?_ <;> intro _) | fail
          exact GQ.pure2 rfl (.agg rfl z16) (.tmp rfl) (fail_spec hp)
      · have hno : ¬ ((l[k]).toNat = 58 ∧ (l[k + 1]).toNat = 58) := fun h => ho (hocc.2 h)
        have hat2 : AtOk l (k + 1) o := by
          cases o with
          | none =>
            intro i hi
            by_cases hik : i = k
            · subst hik; exact ho
            · exact hat i (by omega)
          | some m => exact ⟨by have := hat.1; omega, hat.2⟩
        repeat' first | refine st ?_ | (refine nw ?_; intro _) | refine kn ?_ | (refine sp ?_ ?_ <;> intro _) | fail
        all_goals first
          | (exfalso; omega)
          | exact GQ.back ⟨(k + 1, o), by omega, hat2⟩ (by simp only; omega) ⟨rfl, rfl, rfl, rfl, rfl, trivial⟩ (fun w hw => hw)
    · cases o with
      | none =>
        have hdd : cutDD l = none := dd_none fun i hi => by
          have hil := (List.getElem?_eq_some_iff.1 hi.2).1
          exact hat i (by omega) hi
        have hpe : parseL l = match readL true l with | some b => if b.length = 16 then some b else none | none => none := by rw [parseL_dd, hdo, hdd]; rfl
        simp only [atI]
        repeat' first | refine st ?_ | (refine nw ?_; intro _) | refine kn ?_ | (refine sp ?_ ?_ <;> intro _) | fail
        refine G.ef rfl rfl rfl (Eff.callF rfl ((groups_spec l true hl).mono ?_))
        rintro v H' ⟨B, hr, rfl⟩
        generalize hrd : readL true l = r at hr
        rw [hrd] at hpe
        cases hr with
        | none =>
          repeat' first | refine st ?_ | (refine nw ?_; intro _) | refine kn ?_ | (refine sp ?_ ?_ <;> intro _) | fail
          exact GQ.pure2 rfl (.agg rfl z16) (.tmp rfl) (fail_spec hpe)
        | some q vq B hbuf =>
          simp only at hpe
          obtain ⟨p1, cap1, rfl, hc1, hat1⟩ := atB (W0 := W0) hbuf
          by_cases h16 : q.length = 16
          · rw [if_pos h16] at hpe
            have h16' : (u8s q).length = 16 := by rw [u8s_length, h16]
            repeat' first | refine st ?_ | (refine nw ?_; intro _) | refine kn ?_ | (refine sp ?_ ?_ <;> intro _) | fail
            refine G.ef rfl rfl rfl (Eff.copy (src := u8s q) rfl rfl (by rw [u8s_length]) (fun w hw => hat1 [] _ w hw) (u8s_one _) (by decide) ?_)
            rw [over_c q h16]
            repeat' first | refine st ?_ | (refine nw ?_; intro _) | refine kn ?_ | (refine sp ?_ ?_ <;> intro _) | fail
            exact GQ.pure2 rfl (.agg rfl h16') (.tmp rfl) (by rw [parseV, hpe]; rfl)
          · rw [if_neg h16] at hpe
            repeat' first | refine st ?_ | (refine nw ?_; intro _) | refine kn ?_ | (refine sp ?_ ?_ <;> intro _) | fail
            exact GQ.pure2 rfl (.agg rfl z16) (.tmp rfl) (fail_spec hpe)
      | some m =>
        obtain ⟨hm1, hm2, hm3⟩ := hat
        have hml : m + 1 < l.length := (List.getElem?_eq_some_iff.1 hm2.2).1
        have hpe := parseL_dd l
        rw [hdo, dd_some hm2 hm3] at hpe
        simp only at hpe
        have hl1 : (l.take m).length ≤ 8796093022207 := by rw [List.length_take]; omega
        have hl2 : (l.drop (m + 2)).length ≤ 8796093022207 := by rw [List.length_drop]; omega
        simp only [atI]
        repeat' first | refine st ?_ | (refine nw ?_; intro _) | refine kn ?_ | (refine sp ?_ ?_ <;> intro _) | fail
        refine G.ef rfl rfl rfl (Eff.callF rfl ((groups_spec (l.take m) false hl1).mono ?_))
        rintro v H' ⟨Bx, hrx, rfl⟩
        generalize hrdx : readL false (l.take m) = rx at hrx
        rw [hrdx] at hpe
        generalize hrdy : readL true (l.drop (m + 2)) = ry at hpe
        cases hrx with
        | none =>
          simp only at hpe
          repeat' first | refine st ?_ | (refine nw ?_; intro _) | refine kn ?_ | (refine sp ?_ ?_ <;> intro _) | fail
          refine G.ef rfl rfl rfl (Eff.callF rfl ((groups_spec (l.drop (m + 2)) true hl2).mono ?_))
          rintro v H' ⟨By, hry, rfl⟩
          rw [hrdy] at hry
          cases hry <;>
          · repeat' first | refine st ?_ | (refine nw ?_; intro _) | refine kn ?_ | (refine sp ?_ ?_ <;> intro _) | fail
            exact GQ.pure2 rfl (.agg rfl z16) (.tmp rfl) (fail_spec hpe)
        | some x vx Bx hbx =>
          obtain ⟨px, capx, rfl, hcx, hatx⟩ := atB (W0 := W0) hbx
          repeat' first | refine st ?_ | (refine nw ?_; intro _) | refine kn ?_ | (refine sp ?_ ?_ <;> intro _) | fail
          refine G.ef rfl rfl rfl (Eff.callF rfl ((groups_spec (l.drop (m + 2)) true hl2).mono ?_))
          rintro v H' ⟨By, hry, rfl⟩
          rw [hrdy] at hry
          cases hry with
          | none =>
            simp only at hpe
            repeat' first | refine st ?_ | (refine nw ?_; intro _) | refine kn ?_ | (refine sp ?_ ?_ <;> intro _) | fail
            exact GQ.pure2 rfl (.agg rfl z16) (.tmp rfl) (fail_spec hpe)
          | some y vy By hby =>
            obtain ⟨py, capy, rfl, hcy, haty⟩ := atB (W0 := W0) hby
            simp only at hpe
            have hlx := readL_len hrdx
            have hly := readL_len hrdy
            by_cases hsum : x.length + y.length ≤ 14
            · rw [if_pos hsum] at hpe
              have h16b : (x ++ List.replicate (16 - x.length - y.length) 0 ++ y).length = 16 := by simp; omega
              have h16 : (u8s (x ++ List.replicate (16 - x.length - y.length) 0 ++ y)).length = 16 := by rw [u8s_length]; exact h16b
              repeat' first | refine st ?_ | (refine nw ?_; intro _) | refine kn ?_ | (refine sp ?_ ?_ <;> intro _) | fail
              refine G.ef rfl rfl rfl (Eff.copy (src := u8s x) rfl rfl (by rw [u8s_length]) (fun w hw => hatx By _ w hw) (u8s_one _) (by decide) ?_)
              repeat' first | refine st ?_ | (refine nw ?_; intro _) | refine kn ?_ | (refine sp ?_ ?_ <;> intro _) | fail
              by_cases hy0 : y = []
              · have hy1 : y.length = 0 := by rw [hy0]; rfl
                refine G.rd (Rd.slArrE rfl rfl (by omega)) rfl rfl ?_
                repeat' first | refine st ?_ | (refine nw ?_; intro _) | refine kn ?_ | (refine sp ?_ ?_ <;> intro _) | fail
                refine G.ef rfl rfl rfl (Eff.copy0 rfl rfl (.inl rfl) ?_)
                rw [over_e x (by omega)]
                have he : x ++ List.replicate (16 - x.length) 0 = x ++ List.replicate (16 - x.length - y.length) 0 ++ y := by rw [hy1, hy0]; simp
                rw [he]
                repeat' first | refine st ?_ | (refine nw ?_; intro _) | refine kn ?_ | (refine sp ?_ ?_ <;> intro _) | fail
                exact GQ.pure2 rfl (.agg rfl h16) (.tmp rfl) (by rw [parseV, hpe]; rfl)
              · have hy1 : 0 < y.length := List.length_pos_iff.2 hy0
                refine G.rd (Rd.slArrL (l := 16 - y.length) rfl rfl (by omega) (by omega)) rfl rfl ?_
                repeat' first | refine st ?_ | (refine nw ?_; intro _) | refine kn ?_ | (refine sp ?_ ?_ <;> intro _) | fail
                refine G.ef rfl rfl rfl (Eff.copy (src := u8s y) rfl rfl (by rw [u8s_length]) (fun w hw => haty [] _ w hw) (u8s_one _) (by simp only [over, List.length_append, List.length_take, List.length_drop, u8s_length]; show _ ≤ _; simp [zero16]; omega) ?_)
                rw [over_d x y hsum hy0]
                repeat' first | refine st ?_ | (refine nw ?_; intro _) | refine kn ?_ | (refine sp ?_ ?_ <;> intro _) | fail
                exact GQ.pure2 rfl (.agg rfl h16) (.tmp rfl) (by rw [parseV, hpe]; rfl)
            · rw [if_neg hsum] at hpe
              repeat' first | refine st ?_ | (refine nw ?_; intro _) | refine kn ?_ | (refine sp ?_ ?_ <;> intro _) | fail
              exact GQ.pure2 rfl (.agg rfl z16) (.tmp rfl) (fail_spec hpe)
instance {l : List UInt8} : PureF Tryz.prog W0 39 [S l] (l.length ≤ 8796093022207) (parseV l) := ⟨fun h _ => Parse_spec l h⟩
end
end Go.Rfn
