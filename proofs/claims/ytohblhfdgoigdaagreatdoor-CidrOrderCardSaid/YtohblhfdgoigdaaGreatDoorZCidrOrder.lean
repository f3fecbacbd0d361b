/-
  CidrOrder: in which order ranges were added to a set does not matter; all of them are there, once, in order: of any ranges: no condition.
-/
import Derived.Test.YtohblhfdgoigdaaGreatDoorRows
import Derived.Test.YtohblhfdgoigdaaGreatDoorTie
import Derived.Test.YtohblhfdgoigdaaGreatDoorCards
import Derived.Test.YtohblhfdgoigdaaGreatDoorNam5
import Derived.Test.YtohblhfdgoigdaaGreatDoorGCj
import Derived.Test.YtohblhfdgoigdaaGreatDoorGCk
import Derived.Test.YtohblhfdgoigdaaGreatDoorWit
import Derived.SevenTiedPlain
namespace Go.Cid
open Go.Own Go.Proofs Go.RowKit Go.Lib Go.Asc Go.Adr Go.Nam Go.Tri
attribute [local irreducible] GC GQ G Rd Eff T
set_option maxRecDepth 20000
set_option maxHeartbeats 4000000
attribute [local irreducible] rightC hasC ofL Lit.wf addC findC addAll sortC lessC
theorem addAll_nil : addAll [] = [] := by delta addAll; rfl
theorem CidrOrder_core (W : World) (hv : Vars W) (l : List Cd) (hs : ∀ c ∈ l, SizC c) (p : Option Addr) (cap : Nat) (hat : ∀ F, Go.Tri.Lies W F p (l.flatMap cdC)) (hll : l.length ≤ 140737488351232) :
    T Tryz.prog W 11 #[.slice p l.length cap] [] (fun v _ => v = .bool true) := by
  refine T.intro (args := [_]) Tryz.func11 rfl Tryz.ntmps11 rfl ?_
  repeat' first | refine Y.st ?_ | (refine nw ?_; intro _) | refine Y.kn ?_ | fail
  refine G.ef rfl rfl rfl (Eff.callF rfl ((csmall_spec hv).mono ?_))
  rintro v H' ⟨rfl, rfl⟩
  repeat' first | refine Y.st ?_ | (refine nw ?_; intro _) | refine Y.kn ?_ | fail
  refine G.ef rfl rfl rfl (Eff.callF rfl (cnew_spec.mono ?_))
  rintro v H' ⟨bx, X0, rfl, hX0, rfl⟩
  repeat' first | refine Y.st ?_ | (refine nw ?_; intro _) | refine Y.kn ?_ | fail
  refine G.ef rfl rfl rfl (Eff.callF rfl (cnew_spec.mono ?_))
  rintro v H' ⟨by', Y0, rfl, hY0, rfl⟩
  by_cases h6 : 60 < l.length
  · repeat' first | refine Y.st ?_ | (refine nw ?_; intro _) | refine Y.kn ?_ | fail
    exact GQ.done1 rfl rfl rfl
  repeat' first | refine Y.st ?_ | (refine nw ?_; intro _) | refine Y.kn ?_ | fail
  refine GC.loopE (ι := { q : Nat × Heap × Heap // q.1 ≤ l.length ∧ SetQ (addAll (l.take q.1)) bx q.2.1 ∧ SetQ (addAll (l.reverse.take q.1)) by' q.2.2 }) (fun i => [(6, .int .i64 ((addAll (l.take i.1.1)).length : Int)), (7, .int .i64 (i.1.1 : Int))]) [(0, _), (3, _), (4, _), (5, _)] (fun q => q.1.2.2 ++ q.1.2.1) (fun q => l.length - q.1.1) ⟨(0, X0, Y0), Nat.zero_le _, by rw [List.take_zero, addAll_nil]; exact hX0, by rw [List.take_zero, addAll_nil]; exact hY0⟩ ⟨(by first | rfl | (simp only [List.take_zero, addAll_nil]; rfl)), (by first | rfl | (simp only [List.take_zero, addAll_nil]; rfl)), (by first | rfl | (simp only [List.take_zero, addAll_nil]; rfl)), (by first | rfl | (simp only [List.take_zero, addAll_nil]; rfl)), (by first | rfl | (simp only [List.take_zero, addAll_nil]; rfl)), (by first | rfl | (simp only [List.take_zero, addAll_nil]; rfl)), trivial⟩ (fun w h => by rw [List.append_nil] at h; exact h) ?_
  rintro ⟨⟨k, HX, HY⟩, hk, hX, hY⟩
  dsimp only at hk hX hY ⊢
  by_cases hlt : k < l.length
  · obtain ⟨b, o, rfl, a1⟩ := row_get (m := 17) (fun c hc => cdC_len (hs c hc).1) (by omega) (hat (HY ++ HX)) hlt
    have c1 := a1 k hlt
    have s1 := hs _ (List.getElem_mem hlt)
    have hlt2 : l.length - 1 - k < l.length := by omega
    haveI i1 : LeN 1 l.length := ⟨by omega⟩
    haveI i2 : LeN k (l.length - 1) := ⟨by omega⟩
    have s2 := hs _ (List.getElem_mem hlt2)
    have hlr : k < l.reverse.length := by rw [List.length_reverse]; exact hlt
    have hrv : l.reverse[k] = l[l.length - 1 - k] := List.getElem_reverse hlr
    have hst := addAll_step hlt
    have hsr := addAll_step hlr
    have hal := add_len (addAll (l.take k)) l[k]
    rw [← hst] at hal
    rw [hrv] at hsr
    have hle := addAll_le (l := l.take k)
    rw [List.length_take] at hle
    repeat' first | refine Y.st ?_ | (refine nw ?_; intro _) | refine Y.kn ?_ | fail
    refine G.rd (Rd.loadAggC rfl c1 (cdC_len s1.1)) rfl rfl ?_
    refine G.ef rfl rfl rfl (Eff.callP (first := #[]) (captured := #[]) rfl rfl (H' := HX ++ HY) List.perm_append_comm ((cadd_spec hX l[k] s1).mono ?_))
    rintro v H' ⟨rfl, HX2, hX2, rfl⟩
    rw [← hst] at hX2
    obtain ⟨b', o', e', a2⟩ := row_get (m := 17) (fun c hc => cdC_len (hs c hc).1) (by omega) (hat (HX2 ++ HY)) hlt
    cases e'
    have c2 := a2 (l.length - 1 - k) hlt2
    cases hb : (addC (addAll (l.take k)) l[k]).2 with
    | true =>
      rw [hb, if_pos rfl] at hal
      repeat' first | refine Y.st ?_ | (refine nw ?_; intro _) | refine Y.kn ?_ | fail
      refine G.rd (Rd.loadAggC rfl c2 (cdC_len s2.1)) rfl rfl ?_
      refine G.ef rfl rfl rfl (Eff.callP (first := #[]) (captured := #[]) rfl rfl (H' := HY ++ HX2) List.perm_append_comm ((cadd_spec hY _ s2).mono ?_))
      rintro v H' ⟨rfl, HY2, hY2, rfl⟩
      rw [← hsr] at hY2
      repeat' first | refine Y.st ?_ | (refine nw ?_; intro _) | refine Y.kn ?_ | fail
      exact GQ.back ⟨(k + 1, HX2, HY2), by omega, hX2, hY2⟩ (by simp only; omega) ⟨(by first | rfl | (simp only [hal]; rfl)), (by first | rfl | (simp only [hal]; rfl)), (by first | rfl | (simp only [hal]; rfl)), (by first | rfl | (simp only [hal]; rfl)), (by first | rfl | (simp only [hal]; rfl)), (by first | rfl | (simp only [hal]; rfl)), trivial⟩ (fun w hw => hw)
    | false =>
      rw [hb, if_neg (by simp)] at hal
      repeat' first | refine Y.st ?_ | (refine nw ?_; intro _) | refine Y.kn ?_ | fail
      refine G.rd (Rd.loadAggC rfl c2 (cdC_len s2.1)) rfl rfl ?_
      refine G.ef rfl rfl rfl (Eff.callP (first := #[]) (captured := #[]) rfl rfl (H' := HY ++ HX2) List.perm_append_comm ((cadd_spec hY _ s2).mono ?_))
      rintro v H' ⟨rfl, HY2, hY2, rfl⟩
      rw [← hsr] at hY2
      repeat' first | refine Y.st ?_ | (refine nw ?_; intro _) | refine Y.kn ?_ | fail
      exact GQ.back ⟨(k + 1, HX2, HY2), by omega, hX2, hY2⟩ (by simp only; omega) ⟨(by first | rfl | (simp only [hal]; rfl)), (by first | rfl | (simp only [hal]; rfl)), (by first | rfl | (simp only [hal]; rfl)), (by first | rfl | (simp only [hal]; rfl)), (by first | rfl | (simp only [hal]; rfl)), (by first | rfl | (simp only [hal]; rfl)), trivial⟩ (fun w hw => hw)
  obtain rfl : k = l.length := by omega
  rw [List.take_length] at hX ⊢
  rw [← List.length_reverse, List.take_length] at hY
  have hsz : ∀ c ∈ addAll l, SizC c := fun c hc => hs c (mem_addAll.1 hc).1
  have hle := addAll_le (l := l)
  repeat' first | refine Y.st ?_ | (refine nw ?_; intro _) | refine Y.kn ?_ | fail
  refine G.ef rfl rfl rfl (Eff.callP (first := #[]) (captured := #[]) rfl rfl (H' := HX ++ HY) List.perm_append_comm ((call_spec hX (by omega) hsz).mono ?_))
  rintro v H' ⟨B, hB, rfl⟩
  obtain ⟨p1, c1, rfl, hc1, hl1⟩ := Go.Tri.Buf.see hB
  have hl2 : Go.Tri.Lies W (B ++ (HX ++ HY)) p1 ((sortC (addAll l)).flatMap cdC) := (((hl1 W).app (HX ++ HY)).imp (fun _ hφ => hφ.perm List.perm_append_comm))
  have hsl : (sortC (addAll l)).length = (addAll l).length := by delta sortC; exact sortF_len _ _
  have hsm : ∀ c ∈ sortC (addAll l), SizC c ∧ rightC c = true := fun c hc => by
    delta sortC at hc
    have := mem_addAll.1 (sortF_mem.1 hc)
    exact ⟨hs c this.1, this.2⟩
  have hss : (sortC (addAll l)).Pairwise fun x y => cmpC x y < 0 := by delta sortC; exact sortF_strict tot_cmpC (nodup_addAll l)
  repeat' first | refine Y.st ?_ | (refine nw ?_; intro _) | refine Y.kn ?_ | fail
  refine GC.loopE (ι := { k : Nat // k ≤ (addAll l).length }) (fun i => [(9, .int .i64 (i.1 : Int))]) [(3, _), (5, _), (6, _), (8, _)] (fun _ => B ++ (HX ++ HY)) (fun i => (addAll l).length - i.1) ⟨0, Nat.zero_le _⟩ ⟨rfl, rfl, rfl, rfl, rfl, trivial⟩ (fun _ h => h) ?_
  rintro ⟨k, hk⟩
  dsimp only at hk ⊢
  by_cases hlt : k < (addAll l).length
  · have hk1 : k < (sortC (addAll l)).length := by omega
    obtain ⟨b, o, rfl, a1⟩ := row_get (m := 17) (fun c hc => cdC_len (hsm c hc).1.1) (by omega) hl2 hk1
    have c2 := a1 k hk1
    have s1 := (hsm _ (List.getElem_mem hk1)).1
    have r1 := (hsm _ (List.getElem_mem hk1)).2
    have s1' : SizC ⟨(sortC (addAll l))[k].addr, (sortC (addAll l))[k].bits⟩ := s1
    have r1' : rightC ⟨(sortC (addAll l))[k].addr, (sortC (addAll l))[k].bits⟩ = true := r1
    by_cases h0 : 0 < k
    · have hk0 : k - 1 < (sortC (addAll l)).length := by omega
      haveI i1 : LeN 1 k := ⟨h0⟩
      have c3 := a1 (k - 1) hk0
      have s2 := (hsm _ (List.getElem_mem hk0)).1
      have s2' : SizC ⟨(sortC (addAll l))[k - 1].addr, (sortC (addAll l))[k - 1].bits⟩ := s2
      have hlessd : lessC ⟨(sortC (addAll l))[k - 1].addr, (sortC (addAll l))[k - 1].bits⟩ ⟨(sortC (addAll l))[k].addr, (sortC (addAll l))[k].bits⟩ = true := by
        delta lessC
        exact decide_eq_true (List.pairwise_iff_getElem.1 hss (k - 1) k hk0 hk1 (by omega))
      repeat' first | refine Y.st ?_ | (refine nw ?_; intro _) | refine Y.kn ?_ | fail
      refine GC.drawnH [(0, .read), (1, .read), (2, .read), (3, .read), (4, .eff), (5, .read), (6, .read), (7, .read), (8, .read), (9, .read), (10, .read), (11, .read), (12, .read), (13, .read), (14, .read), (15, .read), (16, .read), (17, .read), (18, .read), (19, .tail), (20, .tail), (21, .tail), (22, .tail)] (by kernel_rfl) (by kernel_rfl) rfl ?_
      repeat' first | refine Y.st ?_ | (refine nw ?_; intro _) | refine Y.kn ?_ | fail
      refine G.rd (Rd.loadAggC rfl c2 (cdC_len s1.1)) rfl rfl ?_
      repeat' first | refine Y.st ?_ | (refine nw ?_; intro _) | refine Y.kn ?_ | fail
      refine G.rd (Rd.loadAggC rfl c3 (cdC_len s2.1)) rfl rfl ?_
      repeat' first | refine Y.st ?_ | (refine nw ?_; intro _) | refine Y.kn ?_ | fail
      refine G.rd (Rd.loadAggC rfl c2 (cdC_len s1.1)) rfl rfl ?_
      repeat' first | refine Y.st ?_ | (refine nw ?_; intro _) | refine Y.kn ?_ | fail
      exact GQ.back ⟨k + 1, by omega⟩ (by simp only; omega) ⟨rfl, rfl, rfl, rfl, rfl, trivial⟩ (fun w hw => hw)
    · obtain rfl : k = 0 := by omega
      repeat' first | refine Y.st ?_ | (refine nw ?_; intro _) | refine Y.kn ?_ | fail
      refine GC.drawnH [(0, .read), (1, .read), (2, .read), (3, .read), (4, .eff), (5, .read), (6, .read), (7, .read), (8, .read), (9, .read), (10, .read), (11, .read), (12, .read), (13, .read), (14, .read), (15, .read), (16, .read), (17, .read), (18, .read), (19, .tail), (20, .tail), (21, .tail), (22, .tail)] (by kernel_rfl) (by kernel_rfl) rfl ?_
      repeat' first | refine Y.st ?_ | (refine nw ?_; intro _) | refine Y.kn ?_ | fail
      refine G.rd (Rd.loadAggC rfl c2 (cdC_len s1.1)) rfl rfl ?_
      repeat' first | refine Y.st ?_ | (refine nw ?_; intro _) | refine Y.kn ?_ | fail
      exact GQ.back ⟨0 + 1, by omega⟩ (by simp only; omega) ⟨rfl, rfl, rfl, rfl, rfl, trivial⟩ (fun w hw => hw)
  obtain rfl : k = (addAll l).length := by omega
  have hszr : ∀ c ∈ addAll l.reverse, SizC c := fun c hc => hs c (by have := (mem_addAll.1 hc).1; exact List.mem_reverse.1 this)
  have hler := addAll_le (l := l.reverse)
  rw [List.length_reverse] at hler
  repeat' first | refine Y.st ?_ | (refine nw ?_; intro _) | refine Y.kn ?_ | fail
  refine G.ef rfl rfl rfl (Eff.callP (first := #[]) (captured := #[]) rfl rfl (H' := HY ++ (B ++ HX)) (by rw [← List.append_assoc]; exact List.perm_append_comm) ((call_spec hY (by omega) hszr).mono ?_))
  rintro v H' ⟨B2, hB2, rfl⟩
  obtain ⟨p2, c2, rfl, hc2, hl3⟩ := Go.Tri.Buf.see hB2
  have hslr : (sortC (addAll l.reverse)).length = (addAll l.reverse).length := by delta sortC; exact sortF_len _ _
  have hsmr : ∀ c ∈ sortC (addAll l.reverse), SizC c := fun c hc => by
    delta sortC at hc
    exact hszr c (sortF_mem.1 hc)
  have hl4 : Go.Tri.Lies W (B2 ++ (HY ++ (B ++ HX))) p1 ((sortC (addAll l)).flatMap cdC) := (((hl1 W).app (B2 ++ (HY ++ HX))).imp (fun _ hφ => hφ.perm (by
    refine List.Perm.trans ?_ (List.perm_append_comm (l₁ := B) (l₂ := B2 ++ (HY ++ HX))).symm.symm
    refine List.Perm.trans ?_ List.perm_append_comm
    simp only [List.append_assoc]
    refine (List.Perm.append_left B2 ?_)
    refine (List.Perm.append_left HY ?_)
    exact List.perm_append_comm)))
  have hl5 : Go.Tri.Lies W (B2 ++ (HY ++ (B ++ HX))) p2 ((sortC (addAll l.reverse)).flatMap cdC) := (((hl3 W).app (HY ++ (B ++ HX))).imp (fun _ hφ => hφ.perm List.perm_append_comm))
  have hS := same_spec (W0 := W) (F := B2 ++ (HY ++ (B ++ HX))) (c := c1) (d := c2) (fun c hc => (hsm c hc).1) hsmr hl4 hl5 (by omega) (by omega)
  rw [hsl, hslr] at hS
  refine G.ef rfl rfl rfl (Eff.callF rfl (hS.mono ?_))
  rintro v H' ⟨rfl, rfl⟩
  rw [decide_eq_true (show sortC (addAll l) = sortC (addAll l.reverse) from addAll_same (fun x => List.mem_reverse.symm))]
  repeat' first | refine Y.st ?_ | (refine nw ?_; intro _) | refine Y.kn ?_ | fail
  exact GQ.done1 rfl rfl rfl
theorem CidrOrder_walk (W : World) (vts : List VT) (hv : Vars W) (h : VT.LiesEach Tryz.prog W [50] vts) : T Tryz.prog W 11 (vts.map VT.val).toArray [] (fun v _ => v = .bool true) := by
  obtain ⟨v0, r, rfl, h0, h⟩ := lies_one h
  obtain rfl := lies_nil h
  obtain ⟨l, p, cap, hs, hll, e0, _, hat⟩ := lies_cidrsAt h0
  simp only [List.map_cons, List.map_nil, e0]
  exact CidrOrder_core W hv l hs p cap hat hll
end Go.Cid
namespace Go.Proofs.YtohblhfdgoigdaaGreatDoor.LCidrOrder
open Go.Own
theorem own : ownKnob Tryz.prog.godebug = none := by kernel_rfl
theorem reads (os : Os) {H : Type} (enc : TypeId × Value → H) : ∃ x, DataW.whole enc Tryz.prog ((laidWorld os).forCall (fun _ _ => 0) ⟨#[], #[.slice none 0 0], []⟩).memory Tryz.f11.params.toList Rows.cidrOrderSpec.vars false #[.slice none 0 0].toList 8 = some x :=
  Option.isSome_iff_exists.1 (by kernel_rfl)
set_option maxRecDepth 100000 in
theorem lifted (os : Os) (started : os.Started) (H : Type) (enc : TypeId × Value → H) (F : Stop.Interp) :
    ReturnsInHanded {} Tryz.checked os 11 .any ((OpenSpec.ofChange Rows.cidrOrderSpec).preRow enc Tryz.prog Tryz.f11 Rows.cidrOrderRow.domain false Rows.cidrOrderRow.laid) (((OpenSpec.ofChange Rows.cidrOrderSpec).at F).post enc Tryz.prog Tryz.f11 false true false false) := by
  obtain ⟨x, hx⟩ := reads os enc
  exact law_laid (C := Tryz.checked) (D := 20) (tb := 4) own started (by kernel_rfl) Tryz.func11 rfl rfl Tryz.underlying4 (by kernel_rfl) (by kernel_rfl) (by kernel_rfl)
    (fun K ds h => by match ds, h with | [_], _ => rfl)
    (witness_row_atRef (enc := enc) (C := Tryz.checked) false (laidWorld os) #[.slice none 0 0] rfl (laid_shaped1 os _) (laid_shaped2 os _) (by kernel_rfl)
      (OpenSpec.preRow_of_cond 8 hx (by kernel_rfl) (fun k hk => by cases hk) (by kernel_rfl) (laid_met os _)))
    (fun W vts hsh hL h => Go.Cid.CidrOrder_walk _ vts (Go.Nam.vars_of hsh hL) (by rw [Tryz.params11] at h; exact h))
theorem said : Rows.CidrOrderSaid :=
  OpenClaim.holds_of_cond 11 Tryz.f11 rfl rfl rfl rfl rfl rfl rfl ⟨rfl, rfl, rfl, rfl, rfl⟩ rfl rfl rfl rfl rfl (by kernel_rfl) Tryz.func11 (by kernel_rfl)
    (of_decide_eq_true (by kernel_rfl)) (by unfold Func.isWrapper; first | (rw [if_pos (by decide +kernel)]; kernel_rfl) | (rw [if_neg (by decide +kernel)]; exact ⟨rfl, rfl⟩))
    (fun os started H enc _ F => by rw [OpenClaim.pre_eq_preRow]; exact lifted os started H enc F)
theorem plain (f : FuncId) (fn : Func) (hf : Tryz.pinned.checked.prog.funcNamed "hagioscope/hagioscopelaw04.CidrOrder" = some f) (hfn : Tryz.pinned.checked.prog.funcs[f]? = some fn) :
    true = Tryz.pinned.checked.prog.looks [] ∧ ∀ (j : Nat) t, fn.params[j]? = some t → Tryz.pinned.checked.prog.wantsStandIn t = false := by
  obtain rfl : f = 11 := Option.some.inj ((show Tryz.prog.funcNamed "hagioscope/hagioscopelaw04.CidrOrder" = some 11 by kernel_rfl).symm.trans hf) |>.symm
  obtain rfl : fn = Tryz.f11 := (Option.some.inj (Tryz.func11.symm.trans hfn)).symm
  refine ⟨by kernel_rfl, fun j t ht => ?_⟩
  have hall : Tryz.f11.params.toList.all (fun t => !Tryz.prog.wantsStandIn t) = true := by kernel_rfl
  have := List.all_eq_true.1 hall t (Array.mem_toList_iff.2 (Array.mem_of_getElem? ht))
  have h2 : Tryz.prog.wantsStandIn t = false := by simpa using this
  exact h2
end Go.Proofs.YtohblhfdgoigdaaGreatDoor.LCidrOrder
namespace Go.Proofs.YtohblhfdgoigdaaGreatDoor
/-- The law CidrOrder holds: its card. -/
theorem cidrOrder_holds : Rows.CidrOrderCardSaid :=
  Claim7.holds_tied_plain_at .later [] _ _ _ _ LCidrOrder.said (fun _ h => by cases h) (by kernel_rfl) (fun _ h => by cases h) cidrOrder_row_tie rfl ⟨rfl, rfl⟩ (by kernel_rfl) rfl LCidrOrder.plain (by kernel_rfl)
#print axioms cidrOrder_holds
end Go.Proofs.YtohblhfdgoigdaaGreatDoor
