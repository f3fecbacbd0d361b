/-
  CidrBack: a range printed comes back; a text read is right and comes back: of any range and text: no condition.
-/
import Derived.Test.YtohblhfdgoigdaaGreatDoorRows
import Derived.Test.YtohblhfdgoigdaaGreatDoorTie
import Derived.Test.YtohblhfdgoigdaaGreatDoorCards
import Derived.Test.YtohblhfdgoigdaaGreatDoorNam5
import Derived.Test.YtohblhfdgoigdaaGreatDoorGCj
import Derived.Test.YtohblhfdgoigdaaGreatDoorWit
import Derived.SevenTiedPlain
namespace Go.Cid
open Go.Own Go.Proofs Go.RowKit Go.Lib Go.Asc Go.Adr Go.Nam Go.Tri
attribute [local irreducible] GC GQ G Rd Eff T
set_option maxRecDepth 20000
set_option maxHeartbeats 4000000
theorem siz_right' {c : Cd} (h : rightC c = true) (ha : c.addr.length = 16) : SizC c := by
  obtain ⟨h1, h2, _⟩ := right_iff.1 h
  exact ⟨ha, wf_small (by omega) (by omega)⟩
theorem printC_le4 {c : Cd} (h : SizC c) : (printC c).length ≤ 100 := by
  obtain ⟨w1, w2⟩ := wf_i64 h.2
  have h2 := print_len h.1
  have h3 : (itoa (bitsP c)).length ≤ 20 := by unfold bitsP; split <;> exact itoa_le (by omega) (by omega)
  rw [printC]
  simp only [List.length_append, List.length_cons, List.length_nil]
  omega
theorem cv_cases (s : List UInt8) : ∃ x ok, parseCV s = .tuple #[cdV x, .bool ok] ∧ SizC x ∧ ((ok = true ∧ parseC s = some x) ∨ (ok = false ∧ parseC s = none ∧ x = zeroC)) := by
  cases h : parseC s with
  | some c =>
    obtain ⟨h1, h2⟩ := parse_right h
    exact ⟨c, true, by rw [parseCV, h]; rfl, siz_right' h1 h2, .inl ⟨rfl, rfl⟩⟩
  | none => exact ⟨zeroC, false, by rw [parseCV, h]; rfl, ⟨by decide, wf_small (by decide) (by decide)⟩, .inr ⟨rfl, rfl, rfl⟩⟩
attribute [local irreducible] parseCV rightC ofL printC Lit.wf parseC
theorem CidrBack_core (W : World) (hv : Vars W) (c : Cd) (hc : SizC c) (s : List UInt8) (hl : s.length ≤ 140737488351232) : T Tryz.prog W 8 #[cdV c, S s] [] (fun v _ => v = .bool true) := by
  have hSc : SizC ⟨c.addr, c.bits⟩ := hc
  have hpl : (printC c).length < 4294967281 := by have := printC_le4 hc; omega
  have hlc := cdC_len hc.1
  have hZ : SizC zeroC := ⟨by decide, wf_small (by decide) (by decide)⟩
  refine T.intro (args := [_, _]) Tryz.func8 rfl Tryz.ntmps8 rfl ?_
  repeat' first | refine Y.st ?_ | (refine nw ?_; intro _) | refine Y.kn ?_ | fail
  refine G.ef rfl rfl rfl (Eff.callF rfl ((csmall_spec hv).mono ?_))
  rintro v H' ⟨rfl, rfl⟩
  by_cases h3 : 300 < s.length
  · repeat' first | refine Y.st ?_ | (refine nw ?_; intro _) | refine Y.kn ?_ | fail
    exact GQ.done1 rfl rfl rfl
  have hsl : s.length < 4294967281 := by omega
  obtain ⟨x, ok, hx, hxs, hxo⟩ := cv_cases (printC c)
  obtain ⟨y, is, hy, hys, hyo⟩ := cv_cases s
  have hyl : (printC y).length < 4294967281 := by have := printC_le4 hys; omega
  have hySc : SizC ⟨y.addr, y.bits⟩ := hys
  repeat' first | refine Y.st ?_ | (refine nw ?_; intro _) | refine Y.kn ?_ | fail
  rw [hx]
  repeat' first | refine Y.st ?_ | (refine nw ?_; intro _) | refine Y.kn ?_ | fail
  have hxl := cdC_len hxs.1
  have hyl2 := cdC_len hys.1
  refine G.ef rfl rfl rfl (Eff.storeAll (cs := cdC zeroC) (vs := cdC x) rfl rfl (cdC_one _) (by rw [hxl]; rfl) hxl ?_)
  cases hr : rightC c with
  | false =>
    repeat' first | refine Y.st ?_ | (refine nw ?_; intro _) | refine Y.kn ?_ | fail
    rw [hy]
    repeat' first | refine Y.st ?_ | (refine nw ?_; intro _) | refine Y.kn ?_ | fail
    refine G.ef rfl rfl rfl (Eff.storeAll (cs := cdC zeroC) (vs := cdC y) rfl rfl (cdC_one _) (by rw [hyl2]; rfl) hyl2 ?_)
    rcases hyo with ⟨rfl, hys0⟩ | ⟨rfl, _, rfl⟩
    · obtain ⟨hry, hya⟩ := parse_right hys0
      have hz : parseCV (printC y) = .tuple #[cdV y, .bool true] := by delta parseCV; rw [back hry hya]; rfl
      repeat' first | refine Y.st ?_ | (refine nw ?_; intro _) | refine Y.kn ?_ | fail
      rw [hz]
      repeat' first | refine Y.st ?_ | (refine nw ?_; intro _) | refine Y.kn ?_ | fail
      refine G.ef rfl rfl rfl (Eff.storeAll (cs := cdC zeroC) (vs := cdC y) rfl rfl (cdC_one _) (by rw [hyl2]; rfl) hyl2 ?_)
      repeat' first | refine Y.st ?_ | (refine nw ?_; intro _) | refine Y.kn ?_ | fail
      refine G.rd (Rd.eqlCd y y rfl rfl hys hys) rfl rfl ?_
      rw [decide_eq_true rfl]
      repeat' first | refine Y.st ?_ | (refine nw ?_; intro _) | refine Y.kn ?_ | fail
      exact GQ.done1 rfl rfl rfl
    · repeat' first | refine Y.st ?_ | (refine nw ?_; intro _) | refine Y.kn ?_ | fail
      refine G.rd (Rd.build (cells := (cdC zeroC).toArray) rfl (by kernel_rfl)) rfl rfl ?_
      refine G.rd (Rd.eqlCd zeroC zeroC rfl rfl hZ hZ) rfl rfl ?_
      rw [decide_eq_true rfl]
      repeat' first | refine Y.st ?_ | (refine nw ?_; intro _) | refine Y.kn ?_ | fail
      exact GQ.done1 rfl rfl rfl
  | true =>
    have hb := back hr hc.1
    rcases hxo with ⟨rfl, hx0⟩ | ⟨_, hx0, _⟩
    · rw [hb] at hx0
      obtain rfl := Option.some.inj hx0
      repeat' first | refine Y.st ?_ | (refine nw ?_; intro _) | refine Y.kn ?_ | fail
      refine G.rd (Rd.neqCd c c rfl rfl hc hc) rfl rfl ?_
      rw [decide_eq_true rfl]
      repeat' first | refine Y.st ?_ | (refine nw ?_; intro _) | refine Y.kn ?_ | fail
      rw [hy]
      repeat' first | refine Y.st ?_ | (refine nw ?_; intro _) | refine Y.kn ?_ | fail
      refine G.ef rfl rfl rfl (Eff.storeAll (cs := cdC zeroC) (vs := cdC y) rfl rfl (cdC_one _) (by rw [hyl2]; rfl) hyl2 ?_)
      rcases hyo with ⟨rfl, hys0⟩ | ⟨rfl, _, rfl⟩
      · obtain ⟨hry, hya⟩ := parse_right hys0
        have hz : parseCV (printC y) = .tuple #[cdV y, .bool true] := by delta parseCV; rw [back hry hya]; rfl
        repeat' first | refine Y.st ?_ | (refine nw ?_; intro _) | refine Y.kn ?_ | fail
        rw [hz]
        repeat' first | refine Y.st ?_ | (refine nw ?_; intro _) | refine Y.kn ?_ | fail
        refine G.ef rfl rfl rfl (Eff.storeAll (cs := cdC zeroC) (vs := cdC y) rfl rfl (cdC_one _) (by rw [hyl2]; rfl) hyl2 ?_)
        repeat' first | refine Y.st ?_ | (refine nw ?_; intro _) | refine Y.kn ?_ | fail
        refine G.rd (Rd.eqlCd y y rfl rfl hys hys) rfl rfl ?_
        rw [decide_eq_true rfl]
        repeat' first | refine Y.st ?_ | (refine nw ?_; intro _) | refine Y.kn ?_ | fail
        exact GQ.done1 rfl rfl rfl
      · repeat' first | refine Y.st ?_ | (refine nw ?_; intro _) | refine Y.kn ?_ | fail
        refine G.rd (Rd.build (cells := (cdC zeroC).toArray) rfl (by kernel_rfl)) rfl rfl ?_
        refine G.rd (Rd.eqlCd zeroC zeroC rfl rfl hZ hZ) rfl rfl ?_
        rw [decide_eq_true rfl]
        repeat' first | refine Y.st ?_ | (refine nw ?_; intro _) | refine Y.kn ?_ | fail
        exact GQ.done1 rfl rfl rfl
    · rw [hb] at hx0; cases hx0
theorem CidrBack_walk (W : World) (vts : List VT) (hv : Vars W) (h : VT.LiesEach Tryz.prog W [41, 9] vts) : T Tryz.prog W 8 (vts.map VT.val).toArray [] (fun v _ => v = .bool true) := by
  obtain ⟨v0, r, rfl, h0, h⟩ := lies_one h
  obtain ⟨v1, r, rfl, h1, h⟩ := lies_one h
  obtain rfl := lies_nil h
  obtain ⟨c, hc, e0, _⟩ := lies_cidr h0
  obtain ⟨s, rfl, hs⟩ := Go.Own.Lies.str h1
  simp only [List.map_cons, List.map_nil, e0]
  exact CidrBack_core W hv c hc s hs
end Go.Cid
namespace Go.Proofs.YtohblhfdgoigdaaGreatDoor.LCidrBack
open Go.Own
theorem own : ownKnob Tryz.prog.godebug = none := by kernel_rfl
theorem reads (os : Os) {H : Type} (enc : TypeId × Value → H) : ∃ x, DataW.whole enc Tryz.prog ((laidWorld os).forCall (fun _ _ => 0) ⟨#[], #[.agg #[.int .u8 0, .int .u8 0, .int .u8 0, .int .u8 0, .int .u8 0, .int .u8 0, .int .u8 0, .int .u8 0, .int .u8 0, .int .u8 0, .int .u8 0, .int .u8 0, .int .u8 0, .int .u8 0, .int .u8 0, .int .u8 0, .int .i64 0], .string ⟨#[]⟩], []⟩).memory Tryz.f8.params.toList Rows.cidrBackSpec.vars false #[.agg #[.int .u8 0, .int .u8 0, .int .u8 0, .int .u8 0, .int .u8 0, .int .u8 0, .int .u8 0, .int .u8 0, .int .u8 0, .int .u8 0, .int .u8 0, .int .u8 0, .int .u8 0, .int .u8 0, .int .u8 0, .int .u8 0, .int .i64 0], .string ⟨#[]⟩].toList 8 = some x :=
  Option.isSome_iff_exists.1 (by kernel_rfl)
set_option maxRecDepth 100000 in
theorem lifted (os : Os) (started : os.Started) (H : Type) (enc : TypeId × Value → H) (F : Stop.Interp) :
    ReturnsInHanded {} Tryz.checked os 8 .any ((OpenSpec.ofChange Rows.cidrBackSpec).preRow enc Tryz.prog Tryz.f8 Rows.cidrBackRow.domain false Rows.cidrBackRow.laid) (((OpenSpec.ofChange Rows.cidrBackSpec).at F).post enc Tryz.prog Tryz.f8 false true false false) := by
  obtain ⟨x, hx⟩ := reads os enc
  exact law_laid (C := Tryz.checked) (D := 20) (tb := 4) own started (by kernel_rfl) Tryz.func8 rfl rfl Tryz.underlying4 (by kernel_rfl) (by kernel_rfl) (by kernel_rfl)
    (fun K ds h => by match ds, h with | [_, _], _ => rfl)
    (witness_row_atRef (enc := enc) (C := Tryz.checked) false (laidWorld os) #[.agg #[.int .u8 0, .int .u8 0, .int .u8 0, .int .u8 0, .int .u8 0, .int .u8 0, .int .u8 0, .int .u8 0, .int .u8 0, .int .u8 0, .int .u8 0, .int .u8 0, .int .u8 0, .int .u8 0, .int .u8 0, .int .u8 0, .int .i64 0], .string ⟨#[]⟩] rfl (laid_shaped1 os _) (laid_shaped2 os _) (by kernel_rfl)
      (OpenSpec.preRow_of_cond 8 hx (by kernel_rfl) (fun k hk => by cases hk) (by kernel_rfl) (laid_met os _)))
    (fun W vts hsh hL h => Go.Cid.CidrBack_walk _ vts (Go.Nam.vars_of hsh hL) (by rw [Tryz.params8] at h; exact h))
theorem said : Rows.CidrBackSaid :=
  OpenClaim.holds_of_cond 8 Tryz.f8 rfl rfl rfl rfl rfl rfl rfl ⟨rfl, rfl, rfl, rfl, rfl⟩ rfl rfl rfl rfl rfl (by kernel_rfl) Tryz.func8 (by kernel_rfl)
    (of_decide_eq_true (by kernel_rfl)) (by unfold Func.isWrapper; first | (rw [if_pos (by decide +kernel)]; kernel_rfl) | (rw [if_neg (by decide +kernel)]; exact ⟨rfl, rfl⟩))
    (fun os started H enc _ F => by rw [OpenClaim.pre_eq_preRow]; exact lifted os started H enc F)
theorem plain (f : FuncId) (fn : Func) (hf : Tryz.pinned.checked.prog.funcNamed "hagioscope/hagioscopelaw04.CidrBack" = some f) (hfn : Tryz.pinned.checked.prog.funcs[f]? = some fn) :
    true = Tryz.pinned.checked.prog.looks [] ∧ ∀ (j : Nat) t, fn.params[j]? = some t → Tryz.pinned.checked.prog.wantsStandIn t = false := by
  obtain rfl : f = 8 := Option.some.inj ((show Tryz.prog.funcNamed "hagioscope/hagioscopelaw04.CidrBack" = some 8 by kernel_rfl).symm.trans hf) |>.symm
  obtain rfl : fn = Tryz.f8 := (Option.some.inj (Tryz.func8.symm.trans hfn)).symm
  refine ⟨by kernel_rfl, fun j t ht => ?_⟩
  have hall : Tryz.f8.params.toList.all (fun t => !Tryz.prog.wantsStandIn t) = true := by kernel_rfl
  have := List.all_eq_true.1 hall t (Array.mem_toList_iff.2 (Array.mem_of_getElem? ht))
  have h2 : Tryz.prog.wantsStandIn t = false := by simpa using this
  exact h2
end Go.Proofs.YtohblhfdgoigdaaGreatDoor.LCidrBack
namespace Go.Proofs.YtohblhfdgoigdaaGreatDoor
/-- The law CidrBack holds: its card. -/
theorem cidrBack_holds : Rows.CidrBackCardSaid :=
  Claim7.holds_tied_plain_at .later [] _ _ _ _ LCidrBack.said (fun _ h => by cases h) (by kernel_rfl) (fun _ h => by cases h) cidrBack_row_tie rfl ⟨rfl, rfl⟩ (by kernel_rfl) rfl LCidrBack.plain (by kernel_rfl)
#print axioms cidrBack_holds
end Go.Proofs.YtohblhfdgoigdaaGreatDoor
