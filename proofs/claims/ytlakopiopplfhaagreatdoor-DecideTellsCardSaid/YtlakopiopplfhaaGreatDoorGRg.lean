/-
  THE DOCUMENT'S ANSWERS, addresses read: the whole.
  THE DOCUMENT'S ANSWERS, addresses printed.
  THE DOCUMENT'S ANSWERS, addresses printed: the whole.
-/
import Derived.Test.YtlakopiopplfhaaGreatDoorGRf
namespace Go.Rfn
open Go.Own Go.Proofs Go.RowKit Go.Lib Go.Asc Go.Adr Go.Nam
attribute [local irreducible] GC GQ G Rd Eff T
set_option maxRecDepth 20000
set_option maxHeartbeats 4000000
/-- Two colons stand at i. -/
def Occ (l : List UInt8) (i : Nat) : Prop := l[i]? = some 58 ∧ l[i + 1]? = some 58
theorem head_get (l : List UInt8) : l.head? = l[0]? := by cases l <;> rfl
theorem dd_none {l : List UInt8} (h : ∀ i, ¬ Occ l i) : cutDD l = none := by
  induction l with
  | nil => rfl
  | cons b l ih =>
    simp only [cutDD]
    rw [if_neg (fun e => h 0 ⟨by simp [e.1], by simpa [← head_get] using e.2⟩), ih (fun i hi => h (i + 1) ⟨by simpa [Occ] using hi.1, by simpa [Occ] using hi.2⟩)]
    rfl
theorem dd_some : ∀ {l : List UInt8} {m : Nat}, Occ l m → (∀ i, i < m → ¬ Occ l i) → cutDD l = some (l.take m, l.drop (m + 2))
  | [], m, h, _ => by simp [Occ] at h
  | b :: l, 0, h, _ => by
    simp only [cutDD]
    have h1 : b = 58 := by simpa using h.1
    have h2 : l.head? = some 58 := by rw [head_get]; simpa using h.2
    rw [if_pos ⟨h1, h2⟩]
    simp
  | b :: l, m + 1, h, hno => by
    have h1 : Occ l m := ⟨by simpa using h.1, by simpa using h.2⟩
    have h2 : ∀ i, i < m → ¬ Occ l i := fun i hi ho => hno (i + 1) (by omega) ⟨by simpa using ho.1, by simpa using ho.2⟩
    simp only [cutDD]
    rw [if_neg (fun e => hno 0 (by omega) ⟨by simp [e.1], by simpa [← head_get] using e.2⟩), dd_some h1 h2]
    simp
theorem grp_empty (may : Bool) : ∀ {ps : List (List UInt8)}, [] ∈ ps → grp may ps = none
  | [], h => by cases h
  | x :: xs, h => by
    have h0 : hexR [] = none := by decide
    have h1 : dot [] = none := by decide
    rcases List.mem_cons.1 h with rfl | h
    · simp only [grp, h0, h1]
    · cases hx : hexR x with
      | some n => rw [grp_some hx, grp_empty may h]; rfl
      | none =>
        refine grp_bad hx ?_
        rintro ⟨_, _, rfl⟩
        cases h
theorem split_empty_head {y : List UInt8} (h : y[0]? = some 58) : [] ∈ splitB 58 y := by
  cases y with
  | nil => simp at h
  | cons a y => simp at h; subst h; rw [splitB_sep]; simp
theorem split_empty_mid : ∀ {y : List UInt8} {j : Nat}, Occ y j → [] ∈ splitB 58 y
  | [], j, h => by simp [Occ] at h
  | b :: y, 0, h => split_empty_head h.1
  | b :: y, j + 1, h => by
    have h1 : Occ y j := ⟨by simpa using h.1, by simpa using h.2⟩
    have ih := split_empty_mid h1
    by_cases hb : b = 58
    · subst hb; rw [splitB_sep]; simp
    · obtain ⟨p, ps, e1, e2⟩ := splitB_other hb y
      rw [e2]
      rw [e1] at ih
      rcases List.mem_cons.1 ih with he | he
      · -- the first part is empty: then y begins with a colon, at once with two at j = 0 or further on
        subst he
        cases j with
        | zero =>
          -- y = 58 :: 58 :: z: behind the first part there is another empty one, or the rest
          cases y with
          | nil => simp [Occ] at h1
          | cons a y =>
            cases y with
            | nil => simp [Occ] at h1
            | cons c y =>
              have ha : a = 58 := by simpa using h1.1
              have hc : c = 58 := by simpa using h1.2
              subst ha hc
              rw [splitB_sep, splitB_sep] at e1
              cases e1
              simp
        | succ j =>
          cases y with
          | nil => simp [Occ] at h1
          | cons a y =>
            have h2 : Occ y j := ⟨by simpa using h1.1, by simpa using h1.2⟩
            have ih2 := split_empty_mid h2
            by_cases ha : a = 58
            · subst ha
              rw [splitB_sep] at e1
              cases e1
              exact List.mem_cons_of_mem _ ih2
            · obtain ⟨q, qs, _, e4⟩ := splitB_other ha y
              rw [e4] at e1; cases e1
      · exact List.mem_cons_of_mem _ he
theorem second_none {l : List UInt8} {m i : Nat} (_ : Occ l m) (hi : Occ l i) (h : m < i) : readL true (l.drop (m + 2)) = none := by
  have hlen : i + 1 < l.length := (List.getElem?_eq_some_iff.1 hi.2).1
  have hne : l.drop (m + 2) ≠ [] := by
    intro e; have := congrArg List.length e; simp at this; omega
  rw [readL, if_neg hne]
  refine grp_empty true ?_
  by_cases h1 : i = m + 1
  · subst h1
    exact split_empty_head (by rw [List.getElem?_drop]; exact hi.2)
  · refine split_empty_mid (j := i - (m + 2)) ⟨?_, ?_⟩
    · rw [List.getElem?_drop, show m + 2 + (i - (m + 2)) = i by omega]; exact hi.1
    · rw [List.getElem?_drop, show m + 2 + (i - (m + 2) + 1) = i + 1 by omega]; exact hi.2
section
variable {W0 : World} {F : Heap}
theorem Of4_spec (b : List UInt8) (hb : b.length = 4) : T Tryz.prog W0 199 #[.agg (u8s b).toArray] F (fun v H' => v = .agg (u8s (aheadL ++ b)).toArray ∧ H' = F) := by
  match b, hb with
  | [b0, b1, b2, b3], _ =>
    refine T.intro (args := [_]) Tryz.func199 rfl Tryz.ntmps199 rfl ?_
    repeat' first | refine st ?_ | (refine nw ?_; intro _) | refine kn ?_ | (refine sp ?_ ?_ <;> intro _) | fail
    refine GC.heap (H' := (_, .cells (u8s (aheadL ++ ([b0, b1, b2, b3].take 0 ++ List.replicate (4 - 0) 0))).toArray 34 (0, 0)) :: (_, .cells (u8s zero16).toArray 34 (0, 0)) :: (_, .cells (u8s [b0, b1, b2, b3]).toArray 92 (0, 0)) :: F) ?_ (fun _ h => h)
    refine GC.loopE (ι := { k : Nat // k ≤ 4 }) (fun i => [(4, .int .i64 (i.1 : Int))]) [(1, _), (2, _), (3, _)] (fun i => (_, .cells (u8s (aheadL ++ ([b0, b1, b2, b3].take i.1 ++ List.replicate (4 - i.1) 0))).toArray 34 (0, 0)) :: (_, .cells (u8s zero16).toArray 34 (0, 0)) :: (_, .cells (u8s [b0, b1, b2, b3]).toArray 92 (0, 0)) :: F) (fun i => 4 - i.1) ⟨0, Nat.zero_le _⟩ ⟨rfl, rfl, rfl, rfl, trivial⟩ (fun _ h => h) ?_
    rintro ⟨k, hk⟩
    dsimp only [List.cons_append, List.nil_append] at hk ⊢
    have h12 : aheadL.length = 12 := rfl
    have h16 : (aheadL ++ ([b0, b1, b2, b3].take k ++ List.replicate (4 - k) 0)).length = 16 := by
      rw [List.length_append, List.length_append, List.length_take, List.length_replicate, h12]; simp; omega
    by_cases hlt : k < 4
    · have hl4 : [b0, b1, b2, b3].length = 4 := rfl
      have hlt2 : k < [b0, b1, b2, b3].length := hlt
      have hset : (aheadL ++ ([b0, b1, b2, b3].take k ++ List.replicate (4 - k) 0)).set (12 + k) [b0, b1, b2, b3][k] = aheadL ++ ([b0, b1, b2, b3].take (k + 1) ++ List.replicate (4 - (k + 1)) 0) := by
        match k, hlt with
        | 0, _ => rfl
        | 1, _ => rfl
        | 2, _ => rfl
        | 3, _ => rfl
      repeat' first | refine st ?_ | (refine nw ?_; intro _) | refine kn ?_ | (refine sp ?_ ?_ <;> intro _) | fail
      rw [hset]
      exact GQ.back ⟨k + 1, by omega⟩ (by simp only; omega) ⟨rfl, rfl, rfl, rfl, trivial⟩ (fun w hw => hw)
    · obtain rfl : k = 4 := by omega
      repeat' first | refine st ?_ | (refine nw ?_; intro _) | refine kn ?_ | (refine sp ?_ ?_ <;> intro _) | fail
      exact GQ.pure1 rfl (.agg rfl (by rw [u8s_length]; exact h16)) rfl
instance {b : List UInt8} : PureF Tryz.prog W0 199 [.agg (u8s b).toArray] (b.length = 4) (.agg (u8s (aheadL ++ b)).toArray) := ⟨fun h _ => Of4_spec b h⟩
def atI : Option Nat → Int
  | none => -1
  | some m => (m : Int)
def AtOk (l : List UInt8) (k : Nat) : Option Nat → Prop
  | none => ∀ i, i < k → ¬ Occ l i
  | some m => m < k ∧ Occ l m ∧ ∀ i, i < m → ¬ Occ l i
theorem occ_iff {l : List UInt8} {k : Nat} (h : k + 1 < l.length) : Occ l k ↔ ((l[k]).toNat = 58 ∧ (l[k + 1]).toNat = 58) := by
  unfold Occ
  rw [List.getElem?_eq_getElem (by omega), List.getElem?_eq_getElem h]
  simp only [Option.some.injEq]
  constructor
  · rintro ⟨h1, h2⟩; rw [h1, h2]; exact ⟨rfl, rfl⟩
  · rintro ⟨h1, h2⟩; exact ⟨UInt8.toNat_inj.1 h1, UInt8.toNat_inj.1 h2⟩
theorem z16 : (u8s zero16).length = 16 := rfl
theorem fail_spec {l : List UInt8} (hp : parseL l = none) : Value.tuple #[.agg (u8s zero16).toArray, .bool false] = parseV l := by rw [parseV, hp]; rfl
theorem Parse_spec (l : List UInt8) (hl : l.length ≤ 8796093022207) : T Tryz.prog W0 163 #[S l] F (fun v H' => v = parseV l ∧ H' = F) := by
  refine T.intro (args := [_]) Tryz.func163 rfl Tryz.ntmps163 rfl ?_
  repeat' first | refine st ?_ | (refine nw ?_; intro _) | refine kn ?_ | (refine sp ?_ ?_ <;> intro _) | fail
  rename_i b2 b4
  refine G.ef rfl rfl rfl (Eff.callF rfl ((dotted_spec l hl).mono ?_))
  rintro v H' ⟨B, hd, rfl⟩
  generalize hdo : dot l = od at hd
  cases hd with
  | some q v B h4 hb =>
    have hp : parseL l = some (aheadL ++ q) := by rw [parseL_dd, hdo]
    rcases Buf.parts hb with ⟨_, h0, _, _⟩ | ⟨b, cap, extra, rfl, rfl, hcap, hx, hmax⟩
    · omega
    match q, h4 with
    | [d0, d1, d2, d3], _ =>
      have hl4 : [d0, d1, d2, d3].length = 4 := rfl
      have h16 : (u8s (aheadL ++ [d0, d1, d2, d3])).length = 16 := rfl
      repeat' first | refine st ?_ | (refine nw ?_; intro _) | refine kn ?_ | (refine sp ?_ ?_ <;> intro _) | fail
      refine GC.drawnH [(0, .read), (1, .read), (2, .read), (3, .read), (4, .read), (5, .read), (6, .read), (7, .read), (8, .read), (9, .read), (10, .read), (11, .read), (12, .read), (13, .tail), (14, .tail), (15, .tail)] (by kernel_rfl) (by kernel_rfl) rfl ?_
      repeat' first | refine st ?_ | (refine nw ?_; intro _) | refine kn ?_ | (refine sp ?_ ?_ <;> intro _) | fail
      refine G.rd (Rd.build (cells := (u8s [d0, d1, d2, d3]).toArray) rfl rfl) rfl rfl ?_
      repeat' first | refine st ?_ | (refine nw ?_; intro _) | refine kn ?_ | (refine sp ?_ ?_ <;> intro _) | fail
      exact GQ.pure2 rfl (.agg rfl h16) (.tmp rfl) (by rw [parseV, hp]; rfl)
  | none =>
    repeat' first | refine st ?_ | (refine nw ?_; intro _) | refine kn ?_ | (refine sp ?_ ?_ <;> intro _) | fail
    refine GC.heap (H' := (b4, .cells (u8s zero16).toArray 34 (0, 0)) :: (b2, .cells (u8s zero16).toArray 34 (0, 0)) :: F) ?_ (fun _ h => h)
    refine GC.loopE (ι := { q : Nat × Option Nat // q.1 ≤ l.length ∧ AtOk l q.1 q.2 }) (fun i => [(7, .int .i64 (atI i.1.2)), (8, .int .i64 (i.1.1 : Int))]) [(0, _), (2, _), (4, _)] (fun i => (b4, .cells (u8s zero16).toArray 34 (0, 0)) :: (b2, .cells (u8s zero16).toArray 34 (0, 0)) :: F) (fun i => l.length - i.1.1) ⟨(0, none), Nat.zero_le _, fun i hi => by omega⟩ ⟨rfl, rfl, rfl, rfl, rfl, trivial⟩ (fun _ h => h) ?_
    rintro ⟨⟨k, o⟩, hk, hat⟩
    dsimp only [List.cons_append, List.nil_append] at hk hat ⊢
    by_cases hlt : k + 1 < l.length
    · have hocc := occ_iff hlt
      by_cases ho : Occ l k
      · obtain ⟨e1, e2⟩ := hocc.1 ho
        cases o with
        | none =>
          simp only [atI]
          repeat' first | refine st ?_ | (refine nw ?_; intro _) | refine kn ?_ | (refine sp ?_ ?_ <;> intro _) | fail
          exact GQ.back ⟨(k + 1, some k), by omega, by omega, ho, hat⟩ (by simp only; omega) ⟨rfl, rfl, rfl, rfl, rfl, trivial⟩ (fun w hw => hw)
        | some m =>
          obtain ⟨hm1, hm2, hm3⟩ := hat
          have hp : parseL l = none := by
            rw [parseL_dd, hdo, dd_some hm2 hm3]
            simp only [second_none hm2 ho hm1]
            cases readL false (l.take m) <;> rfl
          simp only [atI]
          repeat' first | refine st ?_ | (refine nw ?_; intro _) | refine kn ?_ | (refine sp ?_ ?_ <;> intro _) | fail
          exact GQ.pure2 rfl (.agg rfl z16) (.tmp rfl) (fail_spec hp)
      · have hno : ¬ ((l[k]).toNat = 58 ∧ (l[k + 1]).toNat = 58) := fun h => ho (hocc.2 h)
        have hat2 : AtOk l (k + 1) o := by
          cases o with
          | none =>
            intro i hi
            by_cases hik : i = k
            · subst hik; exact ho
            · exact hat i (by omega)
          | some m => exact ⟨by have := hat.1; omega, hat.2⟩
        repeat' first | refine st ?_ | (refine nw ?_; intro _) | refine kn ?_ | (refine sp ?_ ?_ <;> intro _) | fail
        all_goals first
          | (exfalso; omega)
          | exact GQ.back ⟨(k + 1, o), by omega, hat2⟩ (by simp only; omega) ⟨rfl, rfl, rfl, rfl, rfl, trivial⟩ (fun w hw => hw)
    · cases o with
      | none =>
        have hdd : cutDD l = none := dd_none fun i hi => by
          have hil := (List.getElem?_eq_some_iff.1 hi.2).1
          exact hat i (by omega) hi
        have hpe : parseL l = match readL true l with | some b => if b.length = 16 then some b else none | none => none := by rw [parseL_dd, hdo, hdd]; rfl
        simp only [atI]
        repeat' first | refine st ?_ | (refine nw ?_; intro _) | refine kn ?_ | (refine sp ?_ ?_ <;> intro _) | fail
        refine G.ef rfl rfl rfl (Eff.callF rfl ((groups_spec l true hl).mono ?_))
        rintro v H' ⟨B, hr, rfl⟩
        generalize hrd : readL true l = r at hr
        rw [hrd] at hpe
        cases hr with
        | none =>
          repeat' first | refine st ?_ | (refine nw ?_; intro _) | refine kn ?_ | (refine sp ?_ ?_ <;> intro _) | fail
          exact GQ.pure2 rfl (.agg rfl z16) (.tmp rfl) (fail_spec hpe)
        | some q vq B hbuf =>
          simp only at hpe
          obtain ⟨p1, cap1, rfl, hc1, hat1⟩ := atB (W0 := W0) hbuf
          by_cases h16 : q.length = 16
          · rw [if_pos h16] at hpe
            have h16' : (u8s q).length = 16 := by rw [u8s_length, h16]
            repeat' first | refine st ?_ | (refine nw ?_; intro _) | refine kn ?_ | (refine sp ?_ ?_ <;> intro _) | fail
            refine G.ef rfl rfl rfl (Eff.copy (src := u8s q) rfl rfl (by rw [u8s_length]) (fun w hw => hat1 [] _ w hw) (u8s_one _) (by decide) ?_)
            rw [over_c q h16]
            repeat' first | refine st ?_ | (refine nw ?_; intro _) | refine kn ?_ | (refine sp ?_ ?_ <;> intro _) | fail
            exact GQ.pure2 rfl (.agg rfl h16') (.tmp rfl) (by rw [parseV, hpe]; rfl)
          · rw [if_neg h16] at hpe
            repeat' first | refine st ?_ | (refine nw ?_; intro _) | refine kn ?_ | (refine sp ?_ ?_ <;> intro _) | fail
            exact GQ.pure2 rfl (.agg rfl z16) (.tmp rfl) (fail_spec hpe)
      | some m =>
        obtain ⟨hm1, hm2, hm3⟩ := hat
        have hml : m + 1 < l.length := (List.getElem?_eq_some_iff.1 hm2.2).1
        have hpe := parseL_dd l
        rw [hdo, dd_some hm2 hm3] at hpe
        simp only at hpe
        have hl1 : (l.take m).length ≤ 8796093022207 := by rw [List.length_take]; omega
        have hl2 : (l.drop (m + 2)).length ≤ 8796093022207 := by rw [List.length_drop]; omega
        simp only [atI]
        repeat' first | refine st ?_ | (refine nw ?_; intro _) | refine kn ?_ | (refine sp ?_ ?_ <;> intro _) | fail
        refine G.ef rfl rfl rfl (Eff.callF rfl ((groups_spec (l.take m) false hl1).mono ?_))
        rintro v H' ⟨Bx, hrx, rfl⟩
        generalize hrdx : readL false (l.take m) = rx at hrx
        rw [hrdx] at hpe
        generalize hrdy : readL true (l.drop (m + 2)) = ry at hpe
        cases hrx with
        | none =>
          simp only at hpe
          repeat' first | refine st ?_ | (refine nw ?_; intro _) | refine kn ?_ | (refine sp ?_ ?_ <;> intro _) | fail
          refine G.ef rfl rfl rfl (Eff.callF rfl ((groups_spec (l.drop (m + 2)) true hl2).mono ?_))
          rintro v H' ⟨By, hry, rfl⟩
          rw [hrdy] at hry
          cases hry <;>
          · repeat' first | refine st ?_ | (refine nw ?_; intro _) | refine kn ?_ | (refine sp ?_ ?_ <;> intro _) | fail
            exact GQ.pure2 rfl (.agg rfl z16) (.tmp rfl) (fail_spec hpe)
        | some x vx Bx hbx =>
          obtain ⟨px, capx, rfl, hcx, hatx⟩ := atB (W0 := W0) hbx
          repeat' first | refine st ?_ | (refine nw ?_; intro _) | refine kn ?_ | (refine sp ?_ ?_ <;> intro _) | fail
          refine G.ef rfl rfl rfl (Eff.callF rfl ((groups_spec (l.drop (m + 2)) true hl2).mono ?_))
          rintro v H' ⟨By, hry, rfl⟩
          rw [hrdy] at hry
          cases hry with
          | none =>
            simp only at hpe
            repeat' first | refine st ?_ | (refine nw ?_; intro _) | refine kn ?_ | (refine sp ?_ ?_ <;> intro _) | fail
            exact GQ.pure2 rfl (.agg rfl z16) (.tmp rfl) (fail_spec hpe)
          | some y vy By hby =>
            obtain ⟨py, capy, rfl, hcy, haty⟩ := atB (W0 := W0) hby
            simp only at hpe
            have hlx := readL_len hrdx
            have hly := readL_len hrdy
            by_cases hsum : x.length + y.length ≤ 14
            · rw [if_pos hsum] at hpe
              have h16b : (x ++ List.replicate (16 - x.length - y.length) 0 ++ y).length = 16 := by simp; omega
              have h16 : (u8s (x ++ List.replicate (16 - x.length - y.length) 0 ++ y)).length = 16 := by rw [u8s_length]; exact h16b
              repeat' first | refine st ?_ | (refine nw ?_; intro _) | refine kn ?_ | (refine sp ?_ ?_ <;> intro _) | fail
              refine G.ef rfl rfl rfl (Eff.copy (src := u8s x) rfl rfl (by rw [u8s_length]) (fun w hw => hatx By _ w hw) (u8s_one _) (by decide) ?_)
              repeat' first | refine st ?_ | (refine nw ?_; intro _) | refine kn ?_ | (refine sp ?_ ?_ <;> intro _) | fail
              by_cases hy0 : y = []
              · have hy1 : y.length = 0 := by rw [hy0]; rfl
                refine G.rd (Rd.slArrE rfl rfl (by omega)) rfl rfl ?_
                repeat' first | refine st ?_ | (refine nw ?_; intro _) | refine kn ?_ | (refine sp ?_ ?_ <;> intro _) | fail
                refine G.ef rfl rfl rfl (Eff.copy0 rfl rfl (.inl rfl) ?_)
                rw [over_e x (by omega)]
                have he : x ++ List.replicate (16 - x.length) 0 = x ++ List.replicate (16 - x.length - y.length) 0 ++ y := by rw [hy1, hy0]; simp
                rw [he]
                repeat' first | refine st ?_ | (refine nw ?_; intro _) | refine kn ?_ | (refine sp ?_ ?_ <;> intro _) | fail
                exact GQ.pure2 rfl (.agg rfl h16) (.tmp rfl) (by rw [parseV, hpe]; rfl)
              · have hy1 : 0 < y.length := List.length_pos_iff.2 hy0
                refine G.rd (Rd.slArrL (l := 16 - y.length) rfl rfl (by omega) (by omega)) rfl rfl ?_
                repeat' first | refine st ?_ | (refine nw ?_; intro _) | refine kn ?_ | (refine sp ?_ ?_ <;> intro _) | fail
                refine G.ef rfl rfl rfl (Eff.copy (src := u8s y) rfl rfl (by rw [u8s_length]) (fun w hw => haty [] _ w hw) (u8s_one _) (by simp only [over, List.length_append, List.length_take, List.length_drop, u8s_length]; show _ ≤ _; simp [zero16]; omega) ?_)
                rw [over_d x y hsum hy0]
                repeat' first | refine st ?_ | (refine nw ?_; intro _) | refine kn ?_ | (refine sp ?_ ?_ <;> intro _) | fail
                exact GQ.pure2 rfl (.agg rfl h16) (.tmp rfl) (by rw [parseV, hpe]; rfl)
            · rw [if_neg hsum] at hpe
              repeat' first | refine st ?_ | (refine nw ?_; intro _) | refine kn ?_ | (refine sp ?_ ?_ <;> intro _) | fail
              exact GQ.pure2 rfl (.agg rfl z16) (.tmp rfl) (fail_spec hpe)
instance {l : List UInt8} : PureF Tryz.prog W0 163 [S l] (l.length ≤ 8796093022207) (parseV l) := ⟨fun h _ => Parse_spec l h⟩
end
end Go.Rfn

namespace Go.Rfn
open Go.Own Go.Proofs Go.RowKit Go.Lib Go.Asc Go.Adr Go.Nam
attribute [local irreducible] GC GQ G Rd Eff T
set_option maxRecDepth 20000
set_option maxHeartbeats 4000000
section
variable {W0 : World} {F : Heap}
theorem hexT : ∀ n < 16, ((([48, 49, 50, 51, 52, 53, 54, 55, 56, 57, 97, 98, 99, 100, 101, 102] : List UInt8).drop n).take (n + 1 - n)) = [hexC n] := by decide
theorem hex_spec (n : Nat) (hn : n < 65536) : T Tryz.prog W0 204 #[.int .i64 (n : Int)] F (fun v H' => v = S (hexL n) ∧ H' = F) := by
  induction n using Nat.strongRecOn generalizing F with
  | _ n ih =>
    refine T.intro (args := [_]) Tryz.func204 rfl Tryz.ntmps204 rfl ?_
    by_cases h : n < 16
    · have hl16 : ([48, 49, 50, 51, 52, 53, 54, 55, 56, 57, 97, 98, 99, 100, 101, 102] : List UInt8).length = 16 := rfl
      rw [hexL_small h]
      repeat' first | refine st ?_ | (refine nw ?_; intro _) | refine kn ?_ | (refine sp ?_ ?_ <;> intro _) | fail
      exact GQ.pure1 rfl (.tmp rfl) (congrArg S (hexT n h))
    · have hl1 := hexL_len (n / 16) (by omega)
      have hl2 := hexL_len (n % 16) (by omega)
      repeat' first | refine st ?_ | (refine nw ?_; intro _) | refine kn ?_ | (refine sp ?_ ?_ <;> intro _) | fail
      refine G.ef rfl rfl rfl (Eff.callF rfl ((ih (n / 16) (by omega) (by omega)).mono ?_))
      rintro v H' ⟨rfl, rfl⟩
      repeat' first | refine st ?_ | (refine nw ?_; intro _) | refine kn ?_ | (refine sp ?_ ?_ <;> intro _) | fail
      refine G.ef rfl rfl rfl (Eff.callF rfl ((ih (n % 16) (by omega) (by omega)).mono ?_))
      rintro v H' ⟨rfl, rfl⟩
      repeat' first | refine st ?_ | (refine nw ?_; intro _) | refine kn ?_ | (refine sp ?_ ?_ <;> intro _) | fail
      exact GQ.pure1 rfl (.tmp rfl) (by rw [hexL_big (n := n) (by omega), hexL_small (n := n % 16) (by omega)])
instance {i : Int} {n : Nat} [hn : NatLit i n] : PureF Tryz.prog W0 204 [.int .i64 i] (n < 65536) (S (hexL n)) := ⟨fun h _ => by rw [hn.eq]; exact hex_spec n h⟩
/-- Two bytes as a number. -/
def grpN (a : List UInt8) (k : Nat) : Nat := (a.getD (2 * k) 0).toNat * 256 + (a.getD (2 * k + 1) 0).toNat
theorem grpN_lt (a : List UInt8) (k : Nat) : grpN a k < 65536 := by
  have h1 := (a.getD (2 * k) 0).toNat_lt
  have h2 := (a.getD (2 * k + 1) 0).toNat_lt
  unfold grpN; omega
theorem group_spec (a : List UInt8) (ha : a.length = 16) (k : Nat) (hk : k < 8) : T Tryz.prog W0 203 #[.agg (u8s a).toArray, .int .i64 (k : Int)] F (fun v H' => v = .int .i64 (grpN a k : Int) ∧ H' = F) := by
  refine T.intro (args := [_, _]) Tryz.func203 rfl Tryz.ntmps203 rfl ?_
  repeat' first | refine st ?_ | (refine nw ?_; intro _) | refine kn ?_ | (refine sp ?_ ?_ <;> intro _) | fail
  refine GC.drawnH [(0, .read), (1, .read), (2, .read), (3, .read), (4, .read), (5, .read), (6, .read), (7, .read), (8, .read), (9, .read), (10, .read), (11, .read), (12, .read), (13, .read)] (by kernel_rfl) (by kernel_rfl) rfl ?_
  have h1 : 2 * k < a.length := by omega
  have h2 : 2 * k + 1 < a.length := by omega
  have e1 : a.getD (2 * k) 0 = a[2 * k] := by rw [List.getD_eq_getElem?_getD, List.getElem?_eq_getElem h1]; rfl
  have e2 : a.getD (2 * k + 1) 0 = a[2 * k + 1] := by rw [List.getD_eq_getElem?_getD, List.getElem?_eq_getElem h2]; rfl
  have b1 := (a[2 * k]).toNat_lt
  have b2 := (a[2 * k + 1]).toNat_lt
  repeat' first | refine st ?_ | (refine nw ?_; intro _) | refine kn ?_ | (refine sp ?_ ?_ <;> intro _) | fail
  exact GQ.pure1 rfl (.tmp rfl) (by rw [grpN, e1, e2]; rfl)
instance {a : List UInt8} {i : Int} {k : Nat} [hn : NatLit i k] : PureF Tryz.prog W0 203 [.agg (u8s a).toArray, .int .i64 i] (a.length = 16 ∧ k < 8) (.int .i64 (grpN a k : Int)) := ⟨fun h _ => by rw [hn.eq]; exact group_spec a h.1 k h.2⟩
theorem Four_spec (a : List UInt8) (ha : a.length = 16) : T Tryz.prog W0 201 #[.agg (u8s a).toArray] F (fun v H' => v = .bool (a.take 12 == aheadL) ∧ H' = F) := by
  match a, ha with
  | [a0, a1, a2, a3, a4, a5, a6, a7, a8, a9, a10, a11, a12, a13, a14, a15], _ =>
    obtain ⟨a, ha⟩ : ∃ a, a = [a0, a1, a2, a3, a4, a5, a6, a7, a8, a9, a10, a11, a12, a13, a14, a15] := ⟨_, rfl⟩
    have hl : a.length = 16 := by rw [ha]; rfl
    have key : (a.take 12 == aheadL) = true ↔ (∀ i (h : i < 10), (a[i]).toNat = 0) ∧ (a[10]).toNat = 255 ∧ (a[11]).toNat = 255 := by
      have hz : ∀ c : UInt8, c = 0 ↔ c.toNat = 0 := fun c => ⟨fun h => by rw [h]; rfl, fun h => UInt8.toNat_inj.1 h⟩
      have hf : ∀ c : UInt8, c = 255 ↔ c.toNat = 255 := fun c => ⟨fun h => by rw [h]; rfl, fun h => UInt8.toNat_inj.1 h⟩
      have hall : (∀ i (h : i < 10), (a[i]).toNat = 0) ↔ (a0.toNat = 0 ∧ a1.toNat = 0 ∧ a2.toNat = 0 ∧ a3.toNat = 0 ∧ a4.toNat = 0 ∧ a5.toNat = 0 ∧ a6.toNat = 0 ∧ a7.toNat = 0 ∧ a8.toNat = 0 ∧ a9.toNat = 0) := by
        subst ha
        constructor
        · intro h; exact ⟨h 0 (by omega), h 1 (by omega), h 2 (by omega), h 3 (by omega), h 4 (by omega), h 5 (by omega), h 6 (by omega), h 7 (by omega), h 8 (by omega), h 9 (by omega)⟩
        · rintro ⟨h0, h1, h2, h3, h4, h5, h6, h7, h8, h9⟩ i hi
          match i, hi with
          | 0, _ => exact h0
          | 1, _ => exact h1
          | 2, _ => exact h2
          | 3, _ => exact h3
          | 4, _ => exact h4
          | 5, _ => exact h5
          | 6, _ => exact h6
          | 7, _ => exact h7
          | 8, _ => exact h8
          | 9, _ => exact h9
      rw [hall]
      subst ha
      simp only [List.take_succ_cons, List.take_zero, aheadL, beq_iff_eq, List.cons.injEq, and_true, hz, hf, List.getElem_cons_succ, List.getElem_cons_zero, and_assoc]
    rw [← ha]
    clear ha
    refine T.intro (args := [_]) Tryz.func201 rfl Tryz.ntmps201 rfl ?_
    repeat' first | refine st ?_ | (refine nw ?_; intro _) | refine kn ?_ | (refine sp ?_ ?_ <;> intro _) | fail
    rename_i b1
    refine GC.loopE (ι := { k : Nat // k ≤ 10 ∧ ∀ i (h : i < a.length), i < k → (a[i]).toNat = 0 }) (fun i => [(3, .int .i64 (i.1 : Int))]) [(1, _)] (fun i => (b1, .cells (u8s a).toArray 34 (0, 0)) :: F) (fun i => 10 - i.1) ⟨0, Nat.zero_le _, fun i _ hi => by omega⟩ ⟨rfl, rfl, trivial⟩ (fun _ h => h) ?_
    rintro ⟨k, hk, hz⟩
    dsimp only [List.cons_append, List.nil_append] at hk hz ⊢
    by_cases hlt : k < 10
    · have hkl : k < a.length := by omega
      by_cases h0 : (a[k]).toNat = 0
      · repeat' first | refine st ?_ | (refine nw ?_; intro _) | refine kn ?_ | (refine sp ?_ ?_ <;> intro _) | fail
        refine GQ.back ⟨k + 1, by omega, fun i h hi => ?_⟩ (by simp only; omega) ⟨rfl, rfl, trivial⟩ (fun w hw => hw)
        by_cases hik : i = k
        · subst hik; exact h0
        · exact hz i h (by omega)
      · have hf : (a.take 12 == aheadL) = false := by
          rw [Bool.eq_false_iff]; intro h; exact h0 ((key.1 h).1 k hlt)
        repeat' first | refine st ?_ | (refine nw ?_; intro _) | refine kn ?_ | (refine sp ?_ ?_ <;> intro _) | fail
        exact GQ.pure1 rfl (.tmp rfl) (by rw [hf])
    · obtain rfl : k = 10 := by omega
      have h10 : 10 < a.length := by omega
      have h11 : 11 < a.length := by omega
      have hz2 : ∀ i (h : i < 10), (a[i]).toNat = 0 := fun i h => hz i (by omega) h
      by_cases c1 : (a[10]).toNat = 255
      · by_cases c2 : (a[11]).toNat = 255
        · have hf : (a.take 12 == aheadL) = true := key.2 ⟨hz2, c1, c2⟩
          repeat' first | refine st ?_ | (refine nw ?_; intro _) | refine kn ?_ | (refine sp ?_ ?_ <;> intro _) | fail
          exact GQ.pure1 rfl (.tmp rfl) (by rw [hf])
        · have hf : (a.take 12 == aheadL) = false := by
            rw [Bool.eq_false_iff]; intro h; exact c2 (key.1 h).2.2
          repeat' first | refine st ?_ | (refine nw ?_; intro _) | refine kn ?_ | (refine sp ?_ ?_ <;> intro _) | fail
          exact GQ.pure1 rfl (.tmp rfl) (by rw [hf])
      · have hf : (a.take 12 == aheadL) = false := by
          rw [Bool.eq_false_iff]; intro h; exact c1 (key.1 h).2.1
        repeat' first | refine st ?_ | (refine nw ?_; intro _) | refine kn ?_ | (refine sp ?_ ?_ <;> intro _) | fail
        exact GQ.pure1 rfl (.tmp rfl) (by rw [hf])
instance {a : List UInt8} : PureF Tryz.prog W0 201 [.agg (u8s a).toArray] (a.length = 16) (.bool (a.take 12 == aheadL)) := ⟨fun h _ => Four_spec a h⟩
end
end Go.Rfn

namespace Go.Rfn
open Go.Own Go.Proofs Go.RowKit Go.Lib Go.Asc Go.Adr Go.Nam
attribute [local irreducible] GC GQ G Rd Eff T
set_option maxRecDepth 20000
set_option maxHeartbeats 4000000
def stepR (l : List Nat) (p : Nat × Nat) (k : Nat) : Nat × Nat := if zlead (l.drop k) > p.2 then (k, zlead (l.drop k)) else p
/-- The document's row of groups 0, after so many places. -/
def rowR (l : List Nat) (k : Nat) : Nat × Nat := (List.range k).foldl (stepR l) (0, 0)
theorem rowR_succ (l : List Nat) (k : Nat) : rowR l (k + 1) = stepR l (rowR l k) k := by simp [rowR, List.range_succ]
theorem row_same (l : List Nat) : ((rowR l l.length).2 < 2 ∧ rowL l = (8, 1)) ∨ (2 ≤ (rowR l l.length).2 ∧ rowL l = rowR l l.length) := by
  unfold rowR rowL
  generalize List.range l.length = ks
  suffices h : ∀ (ks : List Nat) (p q : Nat × Nat), ((q.2 < 2 ∧ p = (8, 1)) ∨ (2 ≤ q.2 ∧ p = q)) → (((ks.foldl (stepR l) q).2 < 2 ∧ ks.foldl (rowStep l) p = (8, 1)) ∨ (2 ≤ (ks.foldl (stepR l) q).2 ∧ ks.foldl (rowStep l) p = ks.foldl (stepR l) q)) from h ks (8, 1) (0, 0) (.inl ⟨by decide, rfl⟩)
  intro ks
  induction ks with
  | nil => intro p q h; exact h
  | cons k ks ih =>
    intro p q h
    rw [List.foldl_cons, List.foldl_cons]
    apply ih
    rcases h with ⟨h1, rfl⟩ | ⟨h1, rfl⟩
    · unfold stepR rowStep
      by_cases hz : 1 < zlead (l.drop k)
      · right
        rw [if_pos (show zlead (l.drop k) > q.2 by omega), if_pos (show zlead (l.drop k) > ((8, 1) : Nat × Nat).2 from hz)]
        exact ⟨hz, rfl⟩
      · left
        refine ⟨?_, if_neg hz⟩
        split
        · show zlead (l.drop k) < 2
          omega
        · exact h1
    · right
      unfold stepR rowStep
      split
      · exact ⟨by simp only; omega, rfl⟩
      · exact ⟨h1, rfl⟩
theorem rowR_le (l : List Nat) (k : Nat) : (rowR l k).1 ≤ k ∧ (rowR l k).2 ≤ l.length := by
  induction k with
  | zero => simp [rowR]
  | succ k ih =>
    rw [rowR_succ]
    unfold stepR
    split
    · have := zlead_le (l.drop k); rw [List.length_drop] at this; exact ⟨by simp only; omega, by simp only; omega⟩
    · omega
theorem textL_snoc (xs : List Nat) (n : Nat) : textL (xs ++ [n]) = if xs = [] then hexL n else textL xs ++ [58] ++ hexL n := by
  induction xs with
  | nil => simp [textL, join_one]
  | cons x xs ih =>
    rw [if_neg (by simp)]
    cases xs with
    | nil => simp [textL, join_one, join_two]
    | cons y xs =>
      rw [if_neg (by simp)] at ih
      unfold textL at ih ⊢
      simp only [List.cons_append, List.map_cons] at ih ⊢
      rw [join_two, join_two, ih]
      simp
/-- The text after k places. -/
def ptL (gs : List Nat) (f n k : Nat) : List UInt8 := if k ≤ f then textL (gs.take k) else textL (gs.take f) ++ [58, 58] ++ textL ((gs.drop (f + n)).take (k - (f + n)))
section
variable {gs : List Nat} {f n k : Nat}
theorem pt_le (h : k ≤ f) : ptL gs f n k = textL (gs.take k) := if_pos h
theorem pt_gt (h : f < k) : ptL gs f n k = textL (gs.take f) ++ [58, 58] ++ textL ((gs.drop (f + n)).take (k - (f + n))) := if_neg (by omega)
theorem pt_low (hk : k < gs.length) (h : k < f) : ptL gs f n (k + 1) = if k = 0 then hexL gs[k] else ptL gs f n k ++ [58] ++ hexL gs[k] := by
  rw [pt_le (by omega), pt_le (by omega), List.take_succ_eq_append_getElem hk, textL_snoc]
  by_cases h0 : k = 0
  · subst h0; simp
  · rw [if_neg h0, if_neg (by intro e; have := congrArg List.length e; rw [List.length_take, List.length_nil] at this; omega)]
theorem pt_at (hn : 1 ≤ n) : ptL gs k n (k + 1) = ptL gs k n k ++ [58, 58] := by
  rw [pt_gt (by omega), pt_le (Nat.le_refl k), show k + 1 - (k + n) = 0 by omega]
  simp [textL, join_nil]
theorem pt_mid (h1 : f < k) (h2 : k < f + n) : ptL gs f n (k + 1) = ptL gs f n k := by
  rw [pt_gt (by omega), pt_gt (by omega), show k + 1 - (f + n) = 0 by omega, show k - (f + n) = 0 by omega]
theorem pt_high (hk : k < gs.length) (h1 : f < k) (h2 : f + n ≤ k) : ptL gs f n (k + 1) = if k = f + n then ptL gs f n k ++ hexL gs[k] else ptL gs f n k ++ [58] ++ hexL gs[k] := by
  rw [pt_gt (by omega), pt_gt (by omega)]
  have hd : k - (f + n) < (gs.drop (f + n)).length := by rw [List.length_drop]; omega
  rw [show k + 1 - (f + n) = k - (f + n) + 1 by omega, List.take_succ_eq_append_getElem hd, textL_snoc]
  have hg : (gs.drop (f + n))[k - (f + n)] = gs[k] := by rw [List.getElem_drop]; congr 1; omega
  rw [hg]
  by_cases h0 : k = f + n
  · rw [if_pos h0, show k - (f + n) = 0 by omega]; simp [textL, join_nil]
  · rw [if_neg h0, if_neg (by intro e; have := congrArg List.length e; rw [List.length_take, List.length_drop, List.length_nil] at this; omega)]
    simp
end
theorem pt_end {gs : List Nat} {f n : Nat} (h8 : gs.length = 8) (hf : f = 8 ∨ (f < 8 ∧ f + n ≤ 8)) : ptL gs f n 8 = if f = 8 then textL gs else textL (gs.take f) ++ [58, 58] ++ textL (gs.drop (f + n)) := by
  by_cases h : f = 8
  · rw [if_pos h, pt_le (by omega), List.take_of_length_le (by omega)]
  · rw [if_neg h, pt_gt (by omega), List.take_of_length_le (l := gs.drop (f + n)) (by rw [List.length_drop]; omega)]
theorem pt_len {gs : List Nat} (f n k : Nat) (h8 : gs.length = 8) (hlt : ∀ m ∈ gs, m < 65536) : (ptL gs f n k).length ≤ 90 := by
  have hj : ∀ gs : List Nat, (∀ n ∈ gs, n < 65536) → (textL gs).length ≤ gs.length * 5 := fun gs h => by
    unfold textL
    have := join_len [58] 4 (gs.map hexL) (by
      intro x hx
      obtain ⟨m, hm, rfl⟩ := List.mem_map.1 hx
      exact hexL_len m (h m hm))
    simpa using this
  unfold ptL
  split
  · have := hj (gs.take k) (fun m hm => hlt m (List.mem_of_mem_take hm)); rw [List.length_take] at this; omega
  · have h1 := hj (gs.take f) (fun m hm => hlt m (List.mem_of_mem_take hm))
    have h2 := hj ((gs.drop (f + n)).take (k - (f + n))) (fun m hm => hlt m (List.mem_of_mem_drop (List.mem_of_mem_take hm)))
    rw [List.length_take] at h1
    rw [List.length_take, List.length_drop] at h2
    simp only [List.length_append, List.length_cons, List.length_nil]
    omega
theorem grp_get (a : List UInt8) (k : Nat) (hk : k < (groupsL a).length) : (groupsL a)[k] = grpN a k := by simp [groupsL, grpN]
section
variable {W0 : World} {F : Heap}
theorem Print_spec (a : List UInt8) (ha : a.length = 16) : T Tryz.prog W0 164 #[.agg (u8s a).toArray] F (fun v H' => v = S (printL a) ∧ H' = F) := by
  refine T.intro (args := [_]) Tryz.func164 rfl Tryz.ntmps164 rfl ?_
  have h8 := groupsL_len a
  have hlt := groupsL_lt a
  cases h4 : (a.take 12 == aheadL) with
  | true =>
    match a, ha with
    | [a0, a1, a2, a3, a4, a5, a6, a7, a8, a9, a10, a11, a12, a13, a14, a15], ha =>
      have hp : printL [a0, a1, a2, a3, a4, a5, a6, a7, a8, a9, a10, a11, a12, a13, a14, a15] = itoa (a12.toNat : Int) ++ [46] ++ itoa (a13.toNat : Int) ++ [46] ++ itoa (a14.toNat : Int) ++ [46] ++ itoa (a15.toNat : Int) := by
        rw [printL, if_pos (by simpa using h4)]
        simp [join_two, join_one]
      have hl16 : [a0, a1, a2, a3, a4, a5, a6, a7, a8, a9, a10, a11, a12, a13, a14, a15].length = 16 := rfl
      have b12 := a12.toNat_lt
      have b13 := a13.toNat_lt
      have b14 := a14.toNat_lt
      have b15 := a15.toNat_lt
      have i12 := itoa_len a12.toNat b12
      have i13 := itoa_len a13.toNat b13
      have i14 := itoa_len a14.toNat b14
      have i15 := itoa_len a15.toNat b15
      repeat' first | refine st ?_ | (refine nw ?_; intro _) | refine kn ?_ | (refine sp ?_ ?_ <;> intro _) | fail
      refine GC.drawnH [(0, .read), (1, .read), (2, .read), (5, .read), (6, .read), (7, .read), (11, .read), (12, .read), (13, .read), (17, .read), (18, .read), (19, .read), (3, .eff), (4, .read), (8, .eff), (9, .read), (10, .read), (14, .eff), (15, .read), (16, .read), (20, .eff), (21, .read), (22, .read)] (by kernel_rfl) (by kernel_rfl) rfl ?_
      repeat' first | refine st ?_ | (refine nw ?_; intro _) | refine kn ?_ | (refine sp ?_ ?_ <;> intro _) | fail
      exact GQ.pure1 rfl (.tmp rfl) (by rw [hp])
  | false =>
    have hz2 : ∀ k < 8, grpN a k < 65536 := fun k _ => grpN_lt a k
    obtain ⟨gs, hgs⟩ : ∃ gs, gs = groupsL a := ⟨_, rfl⟩
    rw [← hgs] at h8 hlt
    have hget : ∀ k (h : k < gs.length), gs[k] = grpN a k := fun k h => by subst hgs; exact grp_get a k h
    have hp : printL a = if (rowL gs).1 = 8 then textL gs else textL (gs.take (rowL gs).1) ++ [58, 58] ++ textL (gs.drop ((rowL gs).1 + (rowL gs).2)) := by
      rw [printL, if_neg (by intro e; rw [e] at h4; simp at h4), hgs]
    rw [hp]
    clear hp hgs
    repeat' first | refine st ?_ | (refine nw ?_; intro _) | refine kn ?_ | (refine sp ?_ ?_ <;> intro _) | fail
    rename_i b1
    refine GC.loopE (ι := { k : Nat // k ≤ 8 }) (fun i => [(3, .int .i64 ((rowR gs i.1).1 : Int)), (4, .int .i64 ((rowR gs i.1).2 : Int)), (5, .int .i64 (i.1 : Int))]) [(1, _)] (fun i => (b1, .cells (u8s a).toArray 34 (0, 0)) :: F) (fun i => 8 - i.1) ⟨0, Nat.zero_le _⟩ ⟨rfl, rfl, rfl, rfl, trivial⟩ (fun _ h => h) ?_
    rintro ⟨k, hk⟩
    dsimp only [List.cons_append, List.nil_append] at hk ⊢
    have hrl := rowR_le gs k
    by_cases hk8 : k < 8
    · repeat' first | refine st ?_ | (refine nw ?_; intro _) | refine kn ?_ | (refine sp ?_ ?_ <;> intro _) | fail
      refine GC.loopE (ι := { n : Nat // k + n ≤ 8 ∧ ∀ i (h : i < gs.length), k ≤ i → i < k + n → gs[i] = 0 }) (fun i => [(6, .int .i64 (i.1 : Int))]) [(1, _), (3, _), (4, _), (5, _)] (fun i => (b1, .cells (u8s a).toArray 34 (0, 0)) :: F) (fun i => 8 - i.1) ⟨0, by omega, fun i _ h1 h2 => by omega⟩ ⟨rfl, rfl, rfl, rfl, rfl, trivial⟩ (fun _ h => h) ?_
      rintro ⟨n, hn, hz⟩
      dsimp only [List.cons_append, List.nil_append] at hn hz ⊢
      have done : (∀ h : k + n < gs.length, gs[k + n] ≠ 0) → zlead (gs.drop k) = n := fun hend => zlead_eq gs (k + n) (by omega) hend n k rfl hz
      have hsucc := rowR_succ gs k
      by_cases hkn : k + n < 8
      · by_cases hg0 : grpN a (k + n) = 0
        · repeat' first | refine st ?_ | (refine nw ?_; intro _) | refine kn ?_ | (refine sp ?_ ?_ <;> intro _) | fail
          refine GQ.back ⟨n + 1, by omega, fun i h h1 h2 => ?_⟩ (by simp only; omega) ⟨rfl, rfl, rfl, rfl, rfl, trivial⟩ (fun w hw => hw)
          by_cases hik : i = k + n
          · subst hik; rw [hget _ h]; exact hg0
          · exact hz i h h1 (by omega)
        · have hzl := done (fun h => by rw [hget _ h]; exact hg0)
          unfold stepR at hsucc
          rw [hzl] at hsucc
          by_cases hgt : (rowR gs k).2 < n
          · rw [if_pos hgt] at hsucc
            repeat' first | refine st ?_ | (refine nw ?_; intro _) | refine kn ?_ | (refine sp ?_ ?_ <;> intro _) | fail
            exact GQ.back ⟨k + 1, by omega⟩ (by simp only; omega) ⟨(by first | rfl | (simp only [hsucc]; rfl)), (by first | rfl | (simp only [hsucc]; rfl)), (by first | rfl | (simp only [hsucc]; rfl)), (by first | rfl | (simp only [hsucc]; rfl)), trivial⟩ (fun w hw => hw)
          · rw [if_neg hgt] at hsucc
            repeat' first | refine st ?_ | (refine nw ?_; intro _) | refine kn ?_ | (refine sp ?_ ?_ <;> intro _) | fail
            exact GQ.back ⟨k + 1, by omega⟩ (by simp only; omega) ⟨(by first | rfl | (simp only [hsucc]; rfl)), (by first | rfl | (simp only [hsucc]; rfl)), (by first | rfl | (simp only [hsucc]; rfl)), (by first | rfl | (simp only [hsucc]; rfl)), trivial⟩ (fun w hw => hw)
      · have hzl := done (fun h => by omega)
        unfold stepR at hsucc
        rw [hzl] at hsucc
        by_cases hgt : (rowR gs k).2 < n
        · rw [if_pos hgt] at hsucc
          repeat' first | refine st ?_ | (refine nw ?_; intro _) | refine kn ?_ | (refine sp ?_ ?_ <;> intro _) | fail
          exact GQ.back ⟨k + 1, by omega⟩ (by simp only; omega) ⟨(by first | rfl | (simp only [hsucc]; rfl)), (by first | rfl | (simp only [hsucc]; rfl)), (by first | rfl | (simp only [hsucc]; rfl)), (by first | rfl | (simp only [hsucc]; rfl)), trivial⟩ (fun w hw => hw)
        · rw [if_neg hgt] at hsucc
          repeat' first | refine st ?_ | (refine nw ?_; intro _) | refine kn ?_ | (refine sp ?_ ?_ <;> intro _) | fail
          exact GQ.back ⟨k + 1, by omega⟩ (by simp only; omega) ⟨(by first | rfl | (simp only [hsucc]; rfl)), (by first | rfl | (simp only [hsucc]; rfl)), (by first | rfl | (simp only [hsucc]; rfl)), (by first | rfl | (simp only [hsucc]; rfl)), trivial⟩ (fun w hw => hw)
    obtain rfl : k = 8 := by omega
    have hrow := row_same gs
    rw [h8] at hrow
    have hb := rowL_bound gs h8
    obtain ⟨f, n, hf, hn, hfn, hfn2⟩ : ∃ f n : Nat, (if (rowR gs 8).2 < 2 then 8 else (rowR gs 8).1) = f ∧ (if (rowR gs 8).2 < 2 then 0 else (rowR gs 8).2) = n ∧ (f = 8 ∧ n = 0 ∨ f < 8 ∧ 2 ≤ n ∧ f + n ≤ 8) ∧ (if (rowL gs).1 = 8 then textL gs else textL (gs.take (rowL gs).1) ++ [58, 58] ++ textL (gs.drop ((rowL gs).1 + (rowL gs).2))) = ptL gs f n 8 := by
      refine ⟨_, _, rfl, rfl, ?_, ?_⟩
      · rcases hrow with ⟨h1, h2⟩ | ⟨h1, h2⟩
        · rw [if_pos h1, if_pos h1]; exact .inl ⟨rfl, rfl⟩
        · rw [if_neg (by omega), if_neg (by omega), ← h2]
          rw [← h2] at h1
          rcases hb with hb | hb
          · have := rowL_is gs
            rcases this with h3 | h3
            · rw [h3] at h1; simp at h1
            · have hd : gs.drop (rowL gs).1 = [] := List.drop_eq_nil_of_le (by omega)
              rw [hd] at h3; simp [zlead] at h3; omega
          · exact .inr ⟨hb.1, h1, hb.2⟩
      · rcases hrow with ⟨h1, h2⟩ | ⟨h1, h2⟩
        · rw [if_pos h1, if_pos h1, pt_end h8 (.inl rfl), h2]; rfl
        · rw [if_neg (c := (rowR gs 8).2 < 2) (by omega), if_neg (c := (rowR gs 8).2 < 2) (by omega), ← h2, pt_end h8 hb]
    rw [hfn2]
    clear hfn2 hrow hb hrl hk hk8
    have hmost : (rowR gs 8).2 ≤ 8 := by have := (rowR_le gs 8).2; omega
    by_cases hm : (rowR gs 8).2 < 2
    all_goals first | rw [if_pos hm] at hf hn | rw [if_neg hm] at hf hn
    all_goals
      repeat' first | refine st ?_ | (refine nw ?_; intro _) | refine kn ?_ | (refine sp ?_ ?_ <;> intro _) | fail
    all_goals
      refine GC.loopE (ι := { k : Nat // k ≤ 8 }) (fun i => [(3, .int .i64 (f : Int)), (4, .int .i64 (n : Int)), (7, S (ptL gs f n i.1)), (8, .int .i64 (i.1 : Int))]) [(1, _)] (fun i => (b1, .cells (u8s a).toArray 34 (0, 0)) :: F) (fun i => 8 - i.1) ⟨0, Nat.zero_le _⟩ ⟨(by first | rfl | (subst hf hn; rfl)), (by first | rfl | (subst hf hn; rfl)), (by first | rfl | (subst hf hn; rfl)), (by first | rfl | (subst hf hn; rfl)), (by first | rfl | (subst hf hn; rfl)), trivial⟩ (fun _ h => h) ?_
      clear hf hn hm
      rintro ⟨k, hk⟩
      dsimp only [List.cons_append, List.nil_append] at hk ⊢
      have hpl := pt_len f n k h8 hlt
      by_cases hk8 : k < 8
      · have hkg : k < gs.length := by omega
        have hxl := hexL_len (grpN a k) (grpN_lt a k)
        have hg := hget k hkg
        have hgl := grpN_lt a k
        by_cases c1 : k < f
        · have hs := pt_low (n := n) hkg c1
          rw [hg] at hs
          by_cases c2 : k = 0
          · rw [if_pos c2] at hs
            have hs2 : ptL gs f n k ++ hexL (grpN a k) = ptL gs f n (k + 1) := by
              rw [hs, pt_le (by omega), c2]; simp [textL, join_nil]
            repeat' first | refine st ?_ | (refine nw ?_; intro _) | refine kn ?_ | (refine sp ?_ ?_ <;> intro _) | fail
            exact GQ.back ⟨k + 1, by omega⟩ (by simp only; omega) ⟨(by first | rfl | (simp only [← hs2]; rfl)), (by first | rfl | (simp only [← hs2]; rfl)), (by first | rfl | (simp only [← hs2]; rfl)), (by first | rfl | (simp only [← hs2]; rfl)), (by first | rfl | (simp only [← hs2]; rfl)), trivial⟩ (fun w hw => hw)
          · rw [if_neg c2] at hs
            repeat' first | refine st ?_ | (refine nw ?_; intro _) | refine kn ?_ | (refine sp ?_ ?_ <;> intro _) | fail
            exact GQ.back ⟨k + 1, by omega⟩ (by simp only; omega) ⟨(by first | rfl | (simp only [hs]; rfl)), (by first | rfl | (simp only [hs]; rfl)), (by first | rfl | (simp only [hs]; rfl)), (by first | rfl | (simp only [hs]; rfl)), (by first | rfl | (simp only [hs]; rfl)), trivial⟩ (fun w hw => hw)
        by_cases c3 : k = f
        · subst c3
          have hs := pt_at (gs := gs) (k := k) (n := n) (by omega)
          repeat' first | refine st ?_ | (refine nw ?_; intro _) | refine kn ?_ | (refine sp ?_ ?_ <;> intro _) | fail
          exact GQ.back ⟨k + 1, by omega⟩ (by simp only; omega) ⟨(by first | rfl | (simp only [hs]; rfl)), (by first | rfl | (simp only [hs]; rfl)), (by first | rfl | (simp only [hs]; rfl)), (by first | rfl | (simp only [hs]; rfl)), (by first | rfl | (simp only [hs]; rfl)), trivial⟩ (fun w hw => hw)
        by_cases c4 : k < f + n
        · have hs := pt_mid (gs := gs) (show f < k by omega) c4
          repeat' first | refine st ?_ | (refine nw ?_; intro _) | refine kn ?_ | (refine sp ?_ ?_ <;> intro _) | fail
          exact GQ.back ⟨k + 1, by omega⟩ (by simp only; omega) ⟨(by first | rfl | (simp only [hs]; rfl)), (by first | rfl | (simp only [hs]; rfl)), (by first | rfl | (simp only [hs]; rfl)), (by first | rfl | (simp only [hs]; rfl)), (by first | rfl | (simp only [hs]; rfl)), trivial⟩ (fun w hw => hw)
        · have hs := pt_high (n := n) hkg (show f < k by omega) (by omega)
          rw [hg] at hs
          by_cases c2 : k = f + n
          · rw [if_pos c2] at hs
            repeat' first | refine st ?_ | (refine nw ?_; intro _) | refine kn ?_ | (refine sp ?_ ?_ <;> intro _) | fail
            exact GQ.back ⟨k + 1, by omega⟩ (by simp only; omega) ⟨(by first | rfl | (simp only [hs]; rfl)), (by first | rfl | (simp only [hs]; rfl)), (by first | rfl | (simp only [hs]; rfl)), (by first | rfl | (simp only [hs]; rfl)), (by first | rfl | (simp only [hs]; rfl)), trivial⟩ (fun w hw => hw)
          · rw [if_neg c2] at hs
            repeat' first | refine st ?_ | (refine nw ?_; intro _) | refine kn ?_ | (refine sp ?_ ?_ <;> intro _) | fail
            exact GQ.back ⟨k + 1, by omega⟩ (by simp only; omega) ⟨(by first | rfl | (simp only [hs]; rfl)), (by first | rfl | (simp only [hs]; rfl)), (by first | rfl | (simp only [hs]; rfl)), (by first | rfl | (simp only [hs]; rfl)), (by first | rfl | (simp only [hs]; rfl)), trivial⟩ (fun w hw => hw)
      · obtain rfl : k = 8 := by omega
        repeat' first | refine st ?_ | (refine nw ?_; intro _) | refine kn ?_ | (refine sp ?_ ?_ <;> intro _) | fail
        exact GQ.pure1 rfl (.tmp rfl) rfl
instance {a : List UInt8} : PureF Tryz.prog W0 164 [.agg (u8s a).toArray] (a.length = 16) (S (printL a)) := ⟨fun h _ => Print_spec a h⟩
end
end Go.Rfn
