/-
  NUMBERS IN BASE 16 AS TEXTS: strconv.FormatUint at base 16.
-/
import Derived.Test.YtlakopiopplfhaaGreatDoorLib2
namespace Go.Adr
open Go.Own Go.Proofs Go.RowKit Go.Lib Go.Asc
attribute [local irreducible] GC GQ G Rd Eff T
set_option maxRecDepth 20000
set_option maxHeartbeats 4000000

section
variable {W0 : World} {F : Heap}
theorem tz64_spec (hv : Vars W0) : T Tryz.prog W0 262 #[.int .u64 16] F (fun v H' => v = .int .i64 4 ∧ H' = F) := by
  refine T.intro (args := [_]) Tryz.func262 rfl Tryz.ntmps262 rfl ?_
  refine au ?_
  refine G.rd (Rd.neg (c := 18446744073709551600) rfl (by decide)) rfl rfl ?_
  refine G.rd (Rd.and (m := 16) (n := 18446744073709551600) (r := 16) rfl rfl rfl rfl (by decide) (by decide) (by decide) (by decide)) rfl rfl ?_
  refine G.rd (Rd.mul (c := 4573923408821661840) rfl rfl (by decide)) rfl rfl ?_
  refine G.rd (Rd.shr (n := 58) (c := 15) rfl rfl rfl (by decide) (by decide)) rfl rfl ?_
  refine G.rd (Rd.indexArr rfl rfl (by decide) (by decide)) rfl rfl ?_
  refine G.rd (Rd.load rfl (fun w hw => cell_kept hv.tz hw)) rfl rfl ?_
  refine G.rd (Rd.conv (c := 4) rfl (by decide)) rfl rfl ?_
  refine au ?_
  exact GQ.done1 rfl rfl ⟨rfl, rfl⟩
theorem tz_spec (hv : Vars W0) : T Tryz.prog W0 241 #[.int .u64 16] F (fun v H' => v = .int .i64 4 ∧ H' = F) := by
  refine T.intro (args := [_]) Tryz.func241 rfl Tryz.ntmps241 rfl ?_
  refine au ?_
  refine G.ef rfl rfl rfl (Eff.callF rfl ((tz64_spec hv).mono ?_))
  rintro v H' ⟨rfl, rfl⟩
  refine au ?_
  exact GQ.done1 rfl rfl ⟨rfl, rfl⟩
theorem pow2_spec : T Tryz.prog W0 240 #[.int .i64 16] F (fun v H' => v = .bool true ∧ H' = F) := by
  refine T.intro (args := [_]) Tryz.func240 rfl Tryz.ntmps240 rfl ?_
  refine au ?_
  refine G.rd (Rd.and (m := 16) (n := 15) (r := 0) rfl rfl rfl rfl (by decide) (by decide) (by decide) (by decide)) rfl rfl ?_
  refine au ?_
  exact GQ.done1 rfl rfl ⟨rfl, rfl⟩
theorem drop_set_here (cs : List UInt8) (i : Nat) (h : i < cs.length) (c : UInt8) : (cs.set i c).drop i = c :: cs.drop (i + 1) := by
  rw [List.drop_eq_getElem_cons (by simpa using h), List.getElem_set_self, List.drop_set_of_lt (by omega)]
theorem u64_in (n : Int) (h : 0 ≤ n ∧ n ≤ 18446744073709551615) : IntKind.u64.wrap n = n := by rw [IntKind.wrap_u64]; omega
theorem fbits_spec (hv : Vars W0) (n : Nat) (hn : n < 65536) : T Tryz.prog W0 216 #[.slice none 0 0, .int .u64 (n : Int), .int .i64 16, .bool false, .bool false] F (fun v H' => v = .tuple #[.slice none 0 0, S (hexL n)] ∧ H' = F) := by
  refine T.intro (args := [_, _, _, _, _]) Tryz.func216 rfl Tryz.ntmps216 rfl ?_
  refine au ?_
  refine G.ef rfl rfl rfl (Eff.alloc (fun b1 => ?_))
  refine G.heap (H' := (b1, .cells (u8s (List.replicate 65 0)).toArray 310 (0, 0)) :: F) ?_ (fun _ h => h)
  refine au ?_
  refine G.ef rfl rfl rfl (Eff.callF rfl (pow2_spec.mono ?_))
  rintro v H' ⟨rfl, rfl⟩
  refine au ?_
  refine G.rd (Rd.conv (c := 16) rfl (by decide)) rfl rfl ?_
  refine G.ef rfl rfl rfl (Eff.callF rfl ((tz_spec hv).mono ?_))
  rintro v H' ⟨rfl, rfl⟩
  refine G.rd (Rd.conv (c := 4) rfl (by decide)) rfl rfl ?_
  refine au ?_
  refine G.rd (Rd.conv (c := 16) rfl (by decide)) rfl rfl ?_
  refine au ?_
  refine G.rd (Rd.conv (c := 16) rfl (by decide)) rfl rfl ?_
  refine G.rd (Rd.sub (c := 15) rfl rfl (by decide)) rfl rfl ?_
  refine au ?_
  refine GC.loop (ι := { q : Nat × Nat × List UInt8 // q.1 ≤ 3 ∧ q.2.1 < 16 ^ (4 - q.1) ∧ q.2.2.length = 65 ∧ hexL n = hexL q.2.1 ++ q.2.2.drop (65 - q.1) }) (fun i => [(0, .slice none 0 0), (1, .int .u64 (i.1.2.1 : Int)), (3, .bool false), (4, .bool false), (10, .slice none 0 0), (12, .pointer (some ⟨b1, 0, none⟩)), (13, .int .i64 ((65 - i.1.1 : Nat) : Int)), (14, .int .u64 4), (15, .int .u64 16), (16, .int .u64 15)])
    (fun i => (b1, .cells (u8s i.1.2.2).toArray 310 (0, 0)) :: F) (fun i => i.1.2.1) ⟨(0, n, List.replicate 65 0), by omega, by simpa using hn, by simp, by simp⟩ ⟨rfl, rfl, rfl, rfl, rfl, rfl, rfl, rfl, rfl, rfl, trivial⟩ (fun _ h => h) ?_
  rintro ⟨⟨j, u, cs⟩, hj, hu, hcs, hq⟩
  dsimp only at hj hu hcs hq ⊢
  have hpow : 16 ^ (4 - j) ≤ 16 ^ 4 := Nat.pow_le_pow_right (by omega) (by omega)
  have hi : ((65 - j : Nat) : Int) - 1 = ((64 - j : Nat) : Int) := by omega
  have hdl : digs.length = 36 := rfl
  by_cases hlt : 16 ≤ u
  · have hj2 : j ≤ 2 := by
      rcases Nat.lt_or_ge j 3 with h | h
      · omega
      · have : j = 3 := by omega
        subst this
        omega
    refine au ?_
    rw [hi]
    refine G.rd (Rd.and (m := u) (n := 15) (r := u % 16) rfl rfl rfl rfl (by show _ < 2 ^ 64; omega) (by decide) (Nat.and_two_pow_sub_one_eq_mod u 4) (u64_in _ (by omega))) rfl rfl ?_
    refine G.rd (Rd.idxS (l := digs) rfl rfl (by omega) (by omega)) rfl rfl ?_
    refine G.rd (Rd.indexArr rfl rfl (by omega) (by omega)) rfl rfl ?_
    refine G.ef rfl rfl rfl (Eff.store rfl rfl rfl (by simp [u8s_length]; omega) (by simp [Fz]) ?_)
    refine au ?_
    refine G.rd (Rd.shr (n := 4) (c := ((u / 16 : Nat) : Int)) rfl rfl rfl (by decide) (by rw [Int.fdiv_eq_ediv_of_nonneg _ (by decide)]; rfl)) rfl rfl ?_
    refine au ?_
    refine GQ.back ⟨(j + 1, u / 16, cs.set (64 - j) (hexC (u % 16))), by omega, ?_, by rw [List.length_set]; exact hcs, ?_⟩ (by simp only; omega) ⟨rfl, rfl, rfl, rfl, rfl, rfl, ?_, rfl, rfl, rfl, trivial⟩ (fun w hw => ?_)
    · have : 16 ^ (4 - j) = 16 ^ (4 - (j + 1)) * 16 := by rw [← Nat.pow_succ]; congr 1; omega
      dsimp only
      omega
    · dsimp only
      rw [hq, hexL_big hlt, show 65 - (j + 1) = 64 - j by omega, drop_set_here cs (64 - j) (by omega), show 64 - j + 1 = 65 - j by omega]
      simp
    · show some _ = some (Value.int .i64 ((65 - (j + 1) : Nat) : Int))
      rw [show 65 - (j + 1) = 64 - j by omega]
    · rw [← set_u8s0 cs (64 - j) (by omega)]
      exact hw
  · refine au ?_
    rw [hi]
    refine G.rd (Rd.idxS (l := digs) rfl rfl (by omega) (by omega)) rfl rfl ?_
    refine G.rd (Rd.indexArr rfl rfl (by omega) (by omega)) rfl rfl ?_
    refine G.ef rfl rfl rfl (Eff.store rfl rfl rfl (by simp [u8s_length]; omega) (by simp [Fz]) ?_)
    refine G.heap (H' := (b1, .cells (u8s (cs.set (64 - j) (hexC u))).toArray 310 (0, 0)) :: F) ?_ (fun w hw => by rw [← set_u8s0 cs (64 - j) (by omega)]; exact hw)
    refine au ?_
    refine G.rd (Rd.slArrL (l := 64 - j) rfl rfl rfl (by omega)) rfl rfl ?_
    have hfin : hexL n = (cs.set (64 - j) (hexC u)).drop (64 - j) := by
      rw [hq, hexL_small (by omega), drop_set_here cs (64 - j) (by omega), show 64 - j + 1 = 65 - j by omega]; rfl
    refine G.rd (Rd.strB (l := hexL n) rfl (by rw [hfin]; simp [hcs]) fun w hw => .inr ⟨b1, 0 + (64 - j) * 1, rfl, cellsH (cs := (u8s (cs.set (64 - j) (hexC u))).toArray) (fun m u hm => ?_) w hw⟩) rfl rfl ?_
    · rw [hfin, ← u8s_drop, List.getElem?_drop] at hm
      simpa using hm
    refine au ?_
    refine GQ.heap (H' := F) ?_ (fun w hw => hw.sub SubH.out)
    exact GQ.done2 rfl rfl rfl ⟨rfl, rfl⟩
theorem ifmt_spec (hv : Vars W0) (n : Nat) (hn : n < 65536) : T Tryz.prog W0 219 #[.int .u64 (n : Int), .int .i64 16] F (fun v H' => v = S (hexL n) ∧ H' = F) := by
  refine T.intro (args := [_, _]) Tryz.func219 rfl Tryz.ntmps219 rfl ?_
  refine au ?_
  refine G.ef rfl rfl rfl (Eff.callF rfl ((fbits_spec hv n hn).mono ?_))
  rintro v H' ⟨rfl, rfl⟩
  refine au ?_
  exact GQ.done1 rfl rfl ⟨rfl, rfl⟩
theorem fmt_spec (hv : Vars W0) (n : Nat) (hn : n < 65536) : T Tryz.prog W0 183 #[.int .u64 (n : Int), .int .i64 16] F (fun v H' => v = S (hexL n) ∧ H' = F) := by
  refine T.intro (args := [_, _]) Tryz.func183 rfl Tryz.ntmps183 rfl ?_
  refine au ?_
  refine G.ef rfl rfl rfl (Eff.callF rfl ((ifmt_spec hv n hn).mono ?_))
  rintro v H' ⟨rfl, rfl⟩
  refine au ?_
  exact GQ.done1 rfl rfl ⟨rfl, rfl⟩
end
end Go.Adr
