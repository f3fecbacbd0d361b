/-
  ADDRESSES: an address of four bytes; strings.Cut out of the shelf's contract; the whole reading.
-/
import Derived.Test.YtlakopiopplfhaaGreatDoorAdr1
import Derived.Test.YtlakopiopplfhaaGreatDoorShelf
namespace Go.Adr
open Go.Own Go.Proofs Go.RowKit Go.Lib Go.Asc
attribute [local irreducible] GC GQ G Rd Eff T
set_option maxRecDepth 20000
set_option maxHeartbeats 4000000

/-- What the package variables hold. -/
class Vars (W0 : World) : Prop where
  max : ∃ m : Int, W0.cell? ⟨2, 0, none⟩ = some (.int .i64 m)
  ahead : CellsAt W0 0 0 (u8s aheadL)
  tz : W0.cell? ⟨6, 15, none⟩ = some (.int .u8 4)
  pow : TabIs Tryz.prog W0 "internal/strconv.uint64pow10" .u64 pow10Tab
  zero : W0.drawn = 0

section
variable {W0 : World} {F : Heap}
theorem cut_spec (hv : Vars W0) (l sep : List UInt8) (hl : l.length < 4294967281) : T Tryz.prog W0 160 #[S l, S sep] F
    (fun v H' => v = .tuple #[S (cut l sep).1, S (cut l sep).2.1, .bool (cut l sep).2.2] ∧ H' = F) := .of fun w hw => by
  obtain ⟨m, hm⟩ := hv.max
  have hm' := cell_kept hm hw
  refine (Tryz.strings_Cut ⟨l.toArray⟩ ⟨sep.toArray⟩ m w hl hm').mono ?_
  rintro e w' ⟨rfl, n, rfl⟩
  exact ⟨_, F, rfl, ⟨rfl, rfl⟩, hw.drawn _ (Nat.le_add_right _ _)⟩

theorem over_a : over (u8s (List.replicate 16 0)) 0 ((u8s aheadL).take 16) = u8s (aheadL ++ [0, 0, 0, 0]) := by
  rw [u8s_take, u8s_over]; rfl
theorem over_b (b : List UInt8) (hb : b.length = 4) : over (u8s (aheadL ++ [0, 0, 0, 0])) (0 + 12 * 1) ((u8s b).take (16 - 12)) = u8s (aheadL ++ b) := by
  rw [u8s_take, u8s_over, show b.take (16 - 12) = b from List.take_of_length_le (by omega), hb]
  simp [aheadL]
theorem of4_spec (hv : Vars W0) (b : List UInt8) (hb : b.length = 4) : T Tryz.prog W0 44 #[.agg (u8s b).toArray] F (fun v H' => v = .agg (u8s (aheadL ++ b)).toArray ∧ H' = F) := by
  refine T.intro (args := [_]) Tryz.func44 rfl Tryz.ntmps44 rfl ?_
  refine au ?_
  refine G.ef rfl rfl rfl (Eff.box rfl (fun b1 => ?_))
  refine G.heap (H' := (b1, .cells (u8s b).toArray 92 (0, 0)) :: F) ?_ (fun _ h => h)
  refine G.ef rfl rfl rfl (Eff.alloc (fun b2 => ?_))
  refine G.heap (H' := (b2, .cells (u8s (List.replicate 16 0)).toArray 34 (0, 0)) :: (b1, .cells (u8s b).toArray 92 (0, 0)) :: F) ?_ (fun _ h => h)
  refine au ?_
  refine G.ef rfl rfl rfl (Eff.alloc (fun b3 => ?_))
  refine G.heap (H' := (b3, .cells (u8s (List.replicate 16 0)).toArray 34 (0, 0)) :: (b2, .cells (u8s (List.replicate 16 0)).toArray 34 (0, 0)) :: (b1, .cells (u8s b).toArray 92 (0, 0)) :: F) ?_ (fun _ h => h)
  refine au ?_
  refine GC.drawn [(0, .read), (1, .read), (2, .tail)] ([]) (by kernel_rfl) (by kernel_rfl) rfl ?_
  refine G.rd (Rd.slArr rfl (by omega)) rfl rfl ?_
  refine G.rd (Rd.slArr rfl (by omega)) rfl rfl ?_
  refine G.ef rfl rfl rfl (Eff.copy (src := u8s aheadL) rfl rfl rfl (fun w hw => .inr ⟨_, _, rfl, fun j u hj => cell_kept (hv.ahead j u hj) hw⟩) (u8s_one _) (by decide) ?_)
  refine au ?_
  rw [over_a]
  refine GC.drawn [(0, .read), (1, .read), (2, .tail)] ([]) (by kernel_rfl) (by kernel_rfl) rfl ?_
  refine G.rd (Rd.slArrL (l := 12) rfl rfl rfl (by omega)) rfl rfl ?_
  refine G.rd (Rd.slArr rfl (by omega)) rfl rfl ?_
  refine G.ef rfl rfl rfl (Eff.copy (src := u8s b) rfl rfl (by rw [u8s_length, hb]) (fun w hw => atBlk w hw) (u8s_one _) (by decide) ?_)
  refine au ?_
  rw [over_b b hb]
  have h16 : (u8s (aheadL ++ b)).length = 16 := by rw [u8s_length, List.length_append, hb]; rfl
  refine G.rd (Rd.loadBlk rfl h16) rfl rfl ?_
  refine G.ef rfl rfl rfl (Eff.storeAll rfl rfl (u8s_one _) (by rw [h16, u8s_length]; rfl) h16 ?_)
  refine au ?_
  exact GQ.res1h rfl (.agg rfl h16) F (fun w hw => hw.sub SubH.out) ⟨rfl, rfl⟩

def parseV (l : List UInt8) : Value := .tuple #[.agg (u8s ((parseL l).getD zero16)).toArray, .bool (parseL l).isSome]
theorem over_c (b : List UInt8) (hb : b.length = 16) : over (u8s zero16) 0 ((u8s b).take 16) = u8s b := by
  rw [u8s_take, u8s_over, show b.take 16 = b from List.take_of_length_le (by omega), hb]
  simp [zero16]
theorem over_d (x y : List UInt8) (h : x.length + y.length ≤ 14) (_ : y ≠ []) : over (over (u8s zero16) 0 ((u8s x).take 16)) (0 + (16 - y.length) * 1) ((u8s y).take (16 - (16 - y.length))) = u8s (x ++ List.replicate (16 - x.length - y.length) 0 ++ y) := by
  have hz : zero16.length = 16 := rfl
  rw [u8s_take, u8s_take, u8s_over, u8s_over, show x.take 16 = x from List.take_of_length_le (by omega), show y.take (16 - (16 - y.length)) = y from List.take_of_length_le (by omega)]
  congr 1
  simp only [List.take_zero, List.nil_append, Nat.zero_add, Nat.mul_one]
  have h1 : (x ++ zero16.drop x.length).take (16 - y.length) = x ++ List.replicate (16 - x.length - y.length) 0 := by
    rw [List.take_append, show x.take (16 - y.length) = x from List.take_of_length_le (by omega)]
    simp only [zero16, List.drop_replicate, List.take_replicate]
    congr 2
    omega
  rw [h1, List.drop_of_length_le (by simp [zero16]; omega), List.append_nil]
theorem over_e (x : List UInt8) (h : x.length ≤ 14) : over (u8s zero16) 0 ((u8s x).take 16) = u8s (x ++ List.replicate (16 - x.length) 0) := by
  rw [u8s_take, u8s_over, show x.take 16 = x from List.take_of_length_le (by omega)]
  simp only [List.take_zero, List.nil_append, Nat.zero_add, zero16, List.drop_replicate]

theorem parse_spec (hv : Vars W0) (l : List UInt8) (hl : l.length < 4294967281) : T Tryz.prog W0 125 #[S l] F (fun v H' => v = parseV l ∧ H' = F) := by
  have hcl := cut_le l [58, 58]
  refine T.intro (args := [_]) Tryz.func125 rfl Tryz.ntmps125 rfl ?_
  refine au ?_
  refine G.ef rfl rfl rfl (Eff.alloc (fun b2 => ?_))
  refine G.heap (H' := (b2, .cells (u8s zero16).toArray 34 (0, 0)) :: F) ?_ (fun _ h => h)
  refine au ?_
  refine G.ef rfl rfl rfl (Eff.callF rfl ((dotted_spec l (by omega)).mono ?_))
  rintro v H' ⟨q4, hq4, rfl, hdot, rfl⟩
  refine au ?_
  refine G.ef rfl rfl rfl (Eff.alloc (fun b4 => ?_))
  refine G.heap (H' := (b4, .cells (u8s [0, 0, 0, 0]).toArray 92 (0, 0)) :: (b2, .cells (u8s zero16).toArray 34 (0, 0)) :: F) ?_ (fun _ h => h)
  refine G.ef rfl rfl rfl (Eff.storeAll rfl rfl (u8s_one q4) (by rw [u8s_length]; exact hq4) (by rw [u8s_length]; exact hq4) ?_)
  cases hd : dot l with
  | some d =>
    obtain rfl := hdot d hd
    have hp : parseL l = some (aheadL ++ q4) := by simp [parseL, hd]
    have h16 : (u8s (aheadL ++ q4)).length = 16 := by rw [u8s_length, List.length_append, hq4]; rfl
    simp only [Option.isSome_some]
    refine au ?_
    refine G.rd (Rd.loadBlk rfl (by rw [u8s_length]; exact hq4)) rfl rfl ?_
    refine G.ef rfl rfl rfl (Eff.callF rfl ((of4_spec hv q4 hq4).mono ?_))
    rintro v H' ⟨rfl, rfl⟩
    refine G.ef rfl rfl rfl (Eff.storeAll rfl rfl (u8s_one _) (by rw [h16, u8s_length]; rfl) h16 ?_)
    refine au ?_
    exact GQ.res2h rfl (.agg rfl h16) (.tmp rfl) F (fun w hw => hw.sub SubH.out) ⟨by rw [parseV, hp]; rfl, rfl⟩
  | none =>
    simp only [Option.isSome_none]
    refine au ?_
    refine G.ef rfl rfl rfl (Eff.alloc (fun b6 => ?_))
    refine G.heap (H' := (b6, .cells (u8s zero16).toArray 34 (0, 0)) :: (b2, .cells (u8s zero16).toArray 34 (0, 0)) :: F) ?_ (fun w hw => (hw.sub ((List.Sublist.refl (_ :: F)).cons _ |>.cons_cons _)))
    refine au ?_
    refine G.ef rfl rfl rfl (Eff.callF rfl ((cut_spec hv l [58, 58] hl).mono ?_))
    rintro v H' ⟨rfl, rfl⟩
    cases hc : (cut l [58, 58]).2.2 with
    | false =>
      refine au ?_
      refine G.ef rfl rfl rfl (Eff.callF rfl ((read_spec l true (by omega)).mono ?_))
      rintro v H' ⟨B, hr, rfl⟩
      generalize hrd : readL true l = r at hr
      cases hr with
      | none =>
        have hp : parseL l = none := by simp [parseL, hd, hc, hrd]
        refine au ?_
        refine G.rd (Rd.loadBlk rfl (by rfl)) rfl rfl ?_
        refine G.ef rfl rfl rfl (Eff.storeAll rfl rfl (u8s_one _) (by rfl) (by rfl) ?_)
        refine au ?_
        exact GQ.res2h rfl (.agg rfl (by rfl)) (.tmp rfl) F (fun w hw => hw.sub SubH.out) ⟨by rw [parseV, hp]; rfl, rfl⟩
      | some q vq B hbuf =>
        obtain ⟨_, p1, cap1, rfl, hc1, _, hat1⟩ := Buf.bytes hbuf
        by_cases h16 : q.length = 16
        · have hp : parseL l = some q := by simp [parseL, hd, hc, hrd, h16]
          have h16' : (u8s q).length = 16 := by rw [u8s_length, h16]
          refine au ?_
          refine G.rd (Rd.slArr rfl (by omega)) rfl rfl ?_
          refine au ?_
          refine G.ef rfl rfl rfl (Eff.copy (src := u8s q) rfl rfl (by rw [u8s_length]) (fun w hw => hat1 W0 w (hw.sub (List.sublist_append_left B _))) (u8s_one _) (by decide) ?_)
          rw [over_c q h16]
          refine au ?_
          refine G.rd (Rd.loadBlk rfl h16') rfl rfl ?_
          refine G.ef rfl rfl rfl (Eff.storeAll rfl rfl (u8s_one _) (by rw [h16', u8s_length]; rfl) h16' ?_)
          refine au ?_
          exact GQ.res2h rfl (.agg rfl h16') (.tmp rfl) F (fun w hw => hw.sub SubH.out) ⟨by rw [parseV, hp]; rfl, rfl⟩
        · have hp : parseL l = none := by simp [parseL, hd, hc, hrd, h16]
          refine au ?_
          refine G.rd (Rd.loadBlk rfl (by rfl)) rfl rfl ?_
          refine G.ef rfl rfl rfl (Eff.storeAll rfl rfl (u8s_one _) (by rfl) (by rfl) ?_)
          refine au ?_
          exact GQ.res2h rfl (.agg rfl (by rfl)) (.tmp rfl) F (fun w hw => hw.sub SubH.out) ⟨by rw [parseV, hp]; rfl, rfl⟩
    | true =>
      refine au ?_
      refine G.ef rfl rfl rfl (Eff.callF rfl ((read_spec (cut l [58, 58]).1 false (by omega)).mono ?_))
      rintro v H' ⟨Bx, hrx, rfl⟩
      generalize hrdx : readL false (cut l [58, 58]).1 = rx at hrx
      cases hrx with
      | none =>
        have hp : parseL l = none := by simp [parseL, hd, hc, hrdx]
        refine au ?_
        refine G.ef rfl rfl rfl (Eff.callF rfl ((read_spec (cut l [58, 58]).2.1 true (by omega)).mono ?_))
        rintro v H' ⟨By, hry, rfl⟩
        generalize hrdy : readL true (cut l [58, 58]).2.1 = ry at hry
        cases hry with
        | none =>
          refine au ?_
          refine G.rd (Rd.loadBlk rfl (by rfl)) rfl rfl ?_
          refine G.ef rfl rfl rfl (Eff.storeAll rfl rfl (u8s_one _) (by rfl) (by rfl) ?_)
          refine au ?_
          exact GQ.res2h rfl (.agg rfl (by rfl)) (.tmp rfl) F (fun w hw => hw.sub SubH.out) ⟨by rw [parseV, hp]; rfl, rfl⟩
        | some y vy By hby =>
          refine au ?_
          refine G.rd (Rd.loadBlk rfl (by rfl)) rfl rfl ?_
          refine G.ef rfl rfl rfl (Eff.storeAll rfl rfl (u8s_one _) (by rfl) (by rfl) ?_)
          refine au ?_
          exact GQ.res2h rfl (.agg rfl (by rfl)) (.tmp rfl) F (fun w hw => hw.sub SubH.out) ⟨by rw [parseV, hp]; rfl, rfl⟩
      | some x vx Bx hbx =>
        obtain ⟨_, px, capx, rfl, hcx, _, hatx⟩ := Buf.bytes hbx
        refine au ?_
        refine G.ef rfl rfl rfl (Eff.callF rfl ((read_spec (cut l [58, 58]).2.1 true (by omega)).mono ?_))
        rintro v H' ⟨By, hry, rfl⟩
        generalize hrdy : readL true (cut l [58, 58]).2.1 = ry at hry
        cases hry with
        | none =>
          have hp : parseL l = none := by simp [parseL, hd, hc, hrdx, hrdy]
          refine au ?_
          refine G.rd (Rd.loadBlk rfl (by rfl)) rfl rfl ?_
          refine G.ef rfl rfl rfl (Eff.storeAll rfl rfl (u8s_one _) (by rfl) (by rfl) ?_)
          refine au ?_
          exact GQ.res2h rfl (.agg rfl (by rfl)) (.tmp rfl) F (fun w hw => hw.sub SubH.out) ⟨by rw [parseV, hp]; rfl, rfl⟩
        | some y vy By hby =>
          obtain ⟨_, py, capy, rfl, hcy, _, haty⟩ := Buf.bytes hby
          have hlx := readL_len hrdx
          have hly := readL_len hrdy
          have hsx : ∀ w, Own W0 (By ++ (Bx ++ ((b6, Obj.cells (u8s zero16).toArray 34 (0, 0)) :: (b2, Obj.cells (u8s zero16).toArray 34 (0, 0)) :: F))) w → At w px (u8s x) := fun w hw => hatx W0 w (hw.sub ((List.sublist_append_left Bx _).trans (List.sublist_append_right By _)))
          by_cases hsum : x.length + y.length ≤ 14
          · have hp : parseL l = some (x ++ List.replicate (16 - x.length - y.length) 0 ++ y) := by simp [parseL, hd, hc, hrdx, hrdy, hsum]
            have h16 : (u8s (x ++ List.replicate (16 - x.length - y.length) 0 ++ y)).length = 16 := by rw [u8s_length]; simp; omega
            refine au ?_
            refine G.rd (Rd.slArr rfl (by omega)) rfl rfl ?_
            refine au ?_
            refine G.ef rfl rfl rfl (Eff.copy (src := u8s x) rfl rfl (by rw [u8s_length]) hsx (u8s_one _) (by decide) ?_)
            refine au ?_
            by_cases hy0 : y = []
            · have hy1 : y.length = 0 := by rw [hy0]; rfl
              refine G.rd (Rd.slArrE rfl rfl (by omega)) rfl rfl ?_
              refine au ?_
              refine G.ef rfl rfl rfl (Eff.copy0 rfl rfl (.inl rfl) ?_)
              rw [over_e x (by omega)]
              have he : x ++ List.replicate (16 - x.length) 0 = x ++ List.replicate (16 - x.length - y.length) 0 ++ y := by rw [hy1, hy0]; simp
              rw [he]
              refine au ?_
              refine G.rd (Rd.loadBlk rfl h16) rfl rfl ?_
              refine G.ef rfl rfl rfl (Eff.storeAll rfl rfl (u8s_one _) (by rw [h16, u8s_length]; rfl) h16 ?_)
              refine au ?_
              exact GQ.res2h rfl (.agg rfl h16) (.tmp rfl) F (fun w hw => hw.sub SubH.out) ⟨by rw [parseV, hp]; rfl, rfl⟩
            · have hy1 : 0 < y.length := List.length_pos_iff.2 hy0
              refine G.rd (Rd.slArrL (l := 16 - y.length) rfl rfl (by omega) (by omega)) rfl rfl ?_
              refine au ?_
              refine G.ef rfl rfl rfl (Eff.copy (src := u8s y) rfl rfl (by rw [u8s_length]) (fun w hw => haty W0 w (hw.sub (List.sublist_append_left By _))) (u8s_one _) (by simp only [over, List.length_append, List.length_take, List.length_drop, u8s_length]; show _ ≤ _; simp [zero16]; omega) ?_)
              rw [over_d x y hsum hy0]
              refine au ?_
              refine G.rd (Rd.loadBlk rfl h16) rfl rfl ?_
              refine G.ef rfl rfl rfl (Eff.storeAll rfl rfl (u8s_one _) (by rw [h16, u8s_length]; rfl) h16 ?_)
              refine au ?_
              exact GQ.res2h rfl (.agg rfl h16) (.tmp rfl) F (fun w hw => hw.sub SubH.out) ⟨by rw [parseV, hp]; rfl, rfl⟩
          · have hp : parseL l = none := by simp [parseL, hd, hc, hrdx, hrdy, hsum]
            refine au ?_
            refine G.rd (Rd.loadBlk rfl (by rfl)) rfl rfl ?_
            refine G.ef rfl rfl rfl (Eff.storeAll rfl rfl (u8s_one _) (by rfl) (by rfl) ?_)
            refine au ?_
            exact GQ.res2h rfl (.agg rfl (by rfl)) (.tmp rfl) F (fun w hw => hw.sub SubH.out) ⟨by rw [parseV, hp]; rfl, rfl⟩
end
end Go.Adr
