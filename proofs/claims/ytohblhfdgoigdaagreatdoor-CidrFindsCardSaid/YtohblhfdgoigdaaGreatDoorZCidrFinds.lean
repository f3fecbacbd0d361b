/-
  CidrFinds: what is found has the address, and none in the set that has it has more bits: of any ranges: no condition.
-/
import Derived.Test.YtohblhfdgoigdaaGreatDoorRows
import Derived.Test.YtohblhfdgoigdaaGreatDoorTie
import Derived.Test.YtohblhfdgoigdaaGreatDoorCards
import Derived.Test.YtohblhfdgoigdaaGreatDoorNam5
import Derived.Test.YtohblhfdgoigdaaGreatDoorGCj
import Derived.Test.YtohblhfdgoigdaaGreatDoorGCk
import Derived.Test.YtohblhfdgoigdaaGreatDoorWit
import Derived.SevenTiedPlain
namespace Go.Cid
open Go.Own Go.Proofs Go.RowKit Go.Lib Go.Asc Go.Adr Go.Nam Go.Tri
attribute [local irreducible] GC GQ G Rd Eff T
set_option maxRecDepth 20000
set_option maxHeartbeats 4000000
theorem take_mem_step {l : List Cd} {k : Nat} (hk : k < l.length) (c : Cd) : decide (c ∈ l.take (k + 1)) = (decide (c ∈ l.take k) || decide (l[k] = c)) := by
  rw [List.take_succ_eq_append_getElem hk]
  rw [Bool.eq_iff_iff]
  simp only [Bool.or_eq_true, decide_eq_true_eq, List.mem_append, List.mem_singleton]
  constructor
  · rintro (h | h)
    · exact .inl h
    · exact .inr h.symm
  · rintro (h | h)
    · exact .inl h
    · exact .inr h.symm
attribute [local irreducible] rightC hasC ofL Lit.wf addC findC addAll
theorem CidrFinds_core (W : World) (hv : Vars W) (l : List Cd) (hs : ∀ c ∈ l, SizC c) (p : Option Addr) (cap : Nat) (hat : ∀ F, Go.Tri.Lies W F p (l.flatMap cdC)) (hll : l.length ≤ 140737488351232) (a : List UInt8) (ha : a.length = 16) :
    T Tryz.prog W 9 #[.slice p l.length cap, .agg (u8s a).toArray] [] (fun v _ => v = .bool true) := by
  have hZ : SizC zeroC := ⟨by decide, wf_small (by decide) (by decide)⟩
  refine T.intro (args := [_, _]) Tryz.func9 rfl Tryz.ntmps9 rfl ?_
  repeat' first | refine Y.st ?_ | (refine nw ?_; intro _) | refine Y.kn ?_ | fail
  refine G.ef rfl rfl rfl (Eff.callF rfl ((csmall_spec hv).mono ?_))
  rintro v H' ⟨rfl, rfl⟩
  repeat' first | refine Y.st ?_ | (refine nw ?_; intro _) | refine Y.kn ?_ | fail
  rename_i b3
  refine G.ef rfl rfl rfl (Eff.callF rfl (cnew_spec.mono ?_))
  rintro v H' ⟨bs, H0, rfl, hS0, rfl⟩
  by_cases h6 : 60 < l.length
  · repeat' first | refine Y.st ?_ | (refine nw ?_; intro _) | refine Y.kn ?_ | fail
    exact GQ.done1 rfl rfl rfl
  repeat' first | refine Y.st ?_ | (refine nw ?_; intro _) | refine Y.kn ?_ | fail
  refine GC.loopE (ι := { q : Nat × Heap // q.1 ≤ l.length ∧ SetQ (addAll (l.take q.1)) bs q.2 }) (fun i => [(7, .int .i64 (i.1.1 : Int))]) [(0, _), (3, _), (5, _), (6, _)] (fun q => q.1.2 ++ [(b3, .cells (u8s a).toArray 39 (0, 0))]) (fun q => l.length - q.1.1) ⟨(0, H0), Nat.zero_le _, by rw [List.take_zero]; unfold addAll; exact hS0⟩ ⟨rfl, rfl, rfl, rfl, rfl, trivial⟩ (fun _ h => h) ?_
  rintro ⟨⟨k, H⟩, hk, hS⟩
  dsimp only at hk hS ⊢
  by_cases hlt : k < l.length
  · obtain ⟨b, o, rfl, a1⟩ := row_get (m := 17) (fun c hc => cdC_len (hs c hc).1) (by omega) (hat (H ++ [(b3, .cells (u8s a).toArray 39 (0, 0))])) hlt
    have c1 := a1 k hlt
    have s1 := hs _ (List.getElem_mem hlt)
    repeat' first | refine Y.st ?_ | (refine nw ?_; intro _) | refine Y.kn ?_ | fail
    refine G.rd (Rd.loadAggC rfl c1 (cdC_len s1.1)) rfl rfl ?_
    refine G.ef rfl rfl rfl (Eff.callF rfl ((cadd_spec hS l[k] s1).mono ?_))
    rintro v H' ⟨rfl, H2, hS2, rfl⟩
    repeat' first | refine Y.st ?_ | (refine nw ?_; intro _) | refine Y.kn ?_ | fail
    exact GQ.back ⟨(k + 1, H2), by omega, by rw [addAll_step hlt]; exact hS2⟩ (by simp only; omega) ⟨rfl, rfl, rfl, rfl, rfl, trivial⟩ (fun w hw => hw)
  obtain rfl : k = l.length := by omega
  rw [List.take_length] at hS
  repeat' first | refine Y.st ?_ | (refine nw ?_; intro _) | refine Y.kn ?_ | fail
  refine G.ef rfl rfl rfl (Eff.callF rfl ((cfind_spec hS a ha).mono ?_))
  rintro v H' ⟨rfl, rfl⟩
  obtain ⟨c, is, hc, hcs, hco⟩ : ∃ c is, foundV (findC (addAll l) a) = .tuple #[cdV c, .bool is] ∧ SizC c ∧ ((is = true ∧ findC (addAll l) a = some c) ∨ (is = false ∧ findC (addAll l) a = none ∧ c = zeroC)) := by
    cases h : findC (addAll l) a with
    | some c => exact ⟨c, true, rfl, hs c (find_mem h).1, .inl ⟨rfl, rfl⟩⟩
    | none => exact ⟨zeroC, false, rfl, hZ, .inr ⟨rfl, rfl, rfl⟩⟩
  rw [hc]
  have hlc := cdC_len hcs.1
  repeat' first | refine Y.st ?_ | (refine nw ?_; intro _) | refine Y.kn ?_ | fail
  refine G.ef rfl rfl rfl (Eff.storeAll (cs := cdC zeroC) (vs := cdC c) rfl rfl (cdC_one _) (by rw [hlc]; rfl) hlc ?_)
  repeat' first | refine Y.st ?_ | (refine nw ?_; intro _) | refine Y.kn ?_ | fail
  rename_i b8
  refine GC.loopE (ι := { k : Nat // k ≤ l.length }) (fun i => [(10, .bool (decide (c ∈ l.take i.1))), (11, .int .i64 (i.1 : Int))]) [(0, _), (3, _), (5, _), (8, _), (9, _)] (fun _ => (b8, .cells (cdC c).toArray 41 (0, 0)) :: (H ++ [(b3, .cells (u8s a).toArray 39 (0, 0))])) (fun i => l.length - i.1) ⟨0, Nat.zero_le _⟩ ⟨rfl, rfl, rfl, rfl, rfl, rfl, rfl, trivial⟩ (fun _ h => h) ?_
  rintro ⟨k, hk⟩
  dsimp only at hk ⊢
  by_cases hlt : k < l.length
  · obtain ⟨b, o, rfl, a1⟩ := row_get (m := 17) (fun c hc => cdC_len (hs c hc).1) (by omega) (hat ((b8, .cells (cdC c).toArray 41 (0, 0)) :: (H ++ [(b3, .cells (u8s a).toArray 39 (0, 0))]))) hlt
    have c1 := a1 k hlt
    have s1 := hs _ (List.getElem_mem hlt)
    have s1' : SizC ⟨l[k].addr, l[k].bits⟩ := s1
    have c16 : ∀ w, Own W ((b8, .cells (cdC c).toArray 41 (0, 0)) :: (H ++ [(b3, .cells (u8s a).toArray 39 (0, 0))])) w → w.cell? ⟨b, o + k * 17 + 16, none⟩ = some (.int .i64 l[k].bits) := fun w hw => c1 w hw 16 _ (by
      rw [List.getElem?_append_right (by rw [u8s_length, s1.1]; exact Nat.le_refl _), u8s_length, s1.1]; rfl)
    repeat' first | refine Y.st ?_ | (refine nw ?_; intro _) | refine Y.kn ?_ | fail
    cases hh : hasC ⟨l[k].addr, l[k].bits⟩ a with
    | false =>
      refine GC.drawnH [(0, .read), (1, .read), (2, .read), (3, .read), (4, .read), (5, .eff), (6, .read), (7, .read), (8, .read), (9, .read), (10, .read), (11, .read), (12, .read), (13, .read), (14, .read), (15, .read), (16, .read), (17, .read), (18, .read), (19, .read)] (by kernel_rfl) (by kernel_rfl) rfl ?_
      repeat' first | refine Y.st ?_ | (refine nw ?_; intro _) | refine Y.kn ?_ | fail
      refine G.rd (Rd.loadAggC rfl c1 (cdC_len s1.1)) rfl rfl ?_
      repeat' first | refine Y.st ?_ | (refine nw ?_; intro _) | refine Y.kn ?_ | fail
      cases hm : decide (c ∈ l.take k) with
      | true =>
        have hnext : decide (c ∈ l.take (k + 1)) = true := by rw [take_mem_step hlt, hm]; rfl
        refine GC.drawnH [(0, .read), (1, .read), (2, .read), (3, .read), (4, .read), (5, .read), (6, .read), (7, .read), (8, .read), (9, .read)] (by kernel_rfl) (by kernel_rfl) rfl ?_
        repeat' first | refine Y.st ?_ | (refine nw ?_; intro _) | refine Y.kn ?_ | fail
        exact GQ.back ⟨k + 1, by omega⟩ (by simp only; omega) ⟨(by first | rfl | (simp only [hnext]; rfl)), (by first | rfl | (simp only [hnext]; rfl)), (by first | rfl | (simp only [hnext]; rfl)), (by first | rfl | (simp only [hnext]; rfl)), (by first | rfl | (simp only [hnext]; rfl)), (by first | rfl | (simp only [hnext]; rfl)), (by first | rfl | (simp only [hnext]; rfl)), trivial⟩ (fun w hw => hw)
      | false =>
        have hnext : decide (c ∈ l.take (k + 1)) = decide (l[k] = c) := by rw [take_mem_step hlt, hm]; rfl
        refine GC.drawnH [(0, .read), (1, .read), (2, .read), (3, .read), (4, .read), (5, .read), (6, .read), (7, .read), (8, .read), (9, .read)] (by kernel_rfl) (by kernel_rfl) rfl ?_
        repeat' first | refine Y.st ?_ | (refine nw ?_; intro _) | refine Y.kn ?_ | fail
        refine G.rd (Rd.loadAggC rfl c1 (cdC_len s1.1)) rfl rfl ?_
        refine G.rd (Rd.loadAggC rfl (cellsH (fun j u hj => by simpa using hj)) hlc) rfl rfl ?_
        refine G.rd (Rd.eqlCd l[k] c rfl rfl s1 hcs) rfl rfl ?_
        repeat' first | refine Y.st ?_ | (refine nw ?_; intro _) | refine Y.kn ?_ | fail
        exact GQ.back ⟨k + 1, by omega⟩ (by simp only; omega) ⟨(by first | rfl | (simp only [hnext]; rfl)), (by first | rfl | (simp only [hnext]; rfl)), (by first | rfl | (simp only [hnext]; rfl)), (by first | rfl | (simp only [hnext]; rfl)), (by first | rfl | (simp only [hnext]; rfl)), (by first | rfl | (simp only [hnext]; rfl)), (by first | rfl | (simp only [hnext]; rfl)), trivial⟩ (fun w hw => hw)
    | true =>
      obtain ⟨c', hf, hle⟩ := find_best (List.getElem_mem hlt) hh
      obtain ⟨rfl, rfl⟩ : is = true ∧ c = c' := by
        rcases hco with ⟨h1, h2⟩ | ⟨_, h2, _⟩
        · rw [hf] at h2; exact ⟨h1, (Option.some.inj h2).symm⟩
        · rw [hf] at h2; cases h2
      refine GC.drawnH [(0, .read), (1, .read), (2, .read), (3, .read), (4, .read), (5, .eff), (6, .read), (7, .read), (8, .read), (9, .read), (10, .read), (11, .read), (12, .read), (13, .read), (14, .read), (15, .read), (16, .read), (17, .read), (18, .read), (19, .read)] (by kernel_rfl) (by kernel_rfl) rfl ?_
      repeat' first | refine Y.st ?_ | (refine nw ?_; intro _) | refine Y.kn ?_ | fail
      refine G.rd (Rd.loadAggC rfl c1 (cdC_len s1.1)) rfl rfl ?_
      repeat' first | refine Y.st ?_ | (refine nw ?_; intro _) | refine Y.kn ?_ | fail
      refine G.rd (Rd.cdBits rfl rfl hcs.1) rfl rfl ?_
      repeat' first | refine Y.st ?_ | (refine nw ?_; intro _) | refine Y.kn ?_ | fail
      cases hm : decide (c ∈ l.take k) with
      | true =>
        have hnext : decide (c ∈ l.take (k + 1)) = true := by rw [take_mem_step hlt, hm]; rfl
        refine GC.drawnH [(0, .read), (1, .read), (2, .read), (3, .read), (4, .read), (5, .read), (6, .read), (7, .read), (8, .read), (9, .read)] (by kernel_rfl) (by kernel_rfl) rfl ?_
        repeat' first | refine Y.st ?_ | (refine nw ?_; intro _) | refine Y.kn ?_ | fail
        exact GQ.back ⟨k + 1, by omega⟩ (by simp only; omega) ⟨(by first | rfl | (simp only [hnext]; rfl)), (by first | rfl | (simp only [hnext]; rfl)), (by first | rfl | (simp only [hnext]; rfl)), (by first | rfl | (simp only [hnext]; rfl)), (by first | rfl | (simp only [hnext]; rfl)), (by first | rfl | (simp only [hnext]; rfl)), (by first | rfl | (simp only [hnext]; rfl)), trivial⟩ (fun w hw => hw)
      | false =>
        have hnext : decide (c ∈ l.take (k + 1)) = decide (l[k] = c) := by rw [take_mem_step hlt, hm]; rfl
        refine GC.drawnH [(0, .read), (1, .read), (2, .read), (3, .read), (4, .read), (5, .read), (6, .read), (7, .read), (8, .read), (9, .read)] (by kernel_rfl) (by kernel_rfl) rfl ?_
        repeat' first | refine Y.st ?_ | (refine nw ?_; intro _) | refine Y.kn ?_ | fail
        refine G.rd (Rd.loadAggC rfl c1 (cdC_len s1.1)) rfl rfl ?_
        refine G.rd (Rd.loadAggC rfl (cellsH (fun j u hj => by simpa using hj)) hlc) rfl rfl ?_
        refine G.rd (Rd.eqlCd l[k] c rfl rfl s1 hcs) rfl rfl ?_
        repeat' first | refine Y.st ?_ | (refine nw ?_; intro _) | refine Y.kn ?_ | fail
        exact GQ.back ⟨k + 1, by omega⟩ (by simp only; omega) ⟨(by first | rfl | (simp only [hnext]; rfl)), (by first | rfl | (simp only [hnext]; rfl)), (by first | rfl | (simp only [hnext]; rfl)), (by first | rfl | (simp only [hnext]; rfl)), (by first | rfl | (simp only [hnext]; rfl)), (by first | rfl | (simp only [hnext]; rfl)), (by first | rfl | (simp only [hnext]; rfl)), trivial⟩ (fun w hw => hw)
  obtain rfl : k = l.length := by omega
  rw [List.take_length]
  repeat' first | refine Y.st ?_ | (refine nw ?_; intro _) | refine Y.kn ?_ | fail
  rcases hco with ⟨rfl, hf⟩ | ⟨rfl, hf, rfl⟩
  · obtain ⟨hm, hh⟩ := find_mem hf
    have hh' : hasC ⟨c.addr, c.bits⟩ a = true := hh
    have hcs' : SizC ⟨c.addr, c.bits⟩ := hcs
    rw [decide_eq_true hm]
    repeat' first | refine Y.st ?_ | (refine nw ?_; intro _) | refine Y.kn ?_ | fail
    exact GQ.done1 rfl rfl rfl
  · repeat' first | refine Y.st ?_ | (refine nw ?_; intro _) | refine Y.kn ?_ | fail
    refine G.rd (Rd.build (cells := (cdC zeroC).toArray) rfl (by kernel_rfl)) rfl rfl ?_
    refine G.rd (Rd.eqlCd zeroC zeroC rfl rfl hZ hZ) rfl rfl ?_
    rw [decide_eq_true rfl]
    repeat' first | refine Y.st ?_ | (refine nw ?_; intro _) | refine Y.kn ?_ | fail
    exact GQ.done1 rfl rfl rfl
theorem CidrFinds_walk (W : World) (vts : List VT) (hv : Vars W) (h : VT.LiesEach Tryz.prog W [50, 39] vts) : T Tryz.prog W 9 (vts.map VT.val).toArray [] (fun v _ => v = .bool true) := by
  obtain ⟨v0, r, rfl, h0, h⟩ := lies_one h
  obtain ⟨v1, r, rfl, h1, h⟩ := lies_one h
  obtain rfl := lies_nil h
  obtain ⟨l, p, cap, hs, hll, e0, _, hat⟩ := lies_cidrsAt h0
  obtain ⟨a, ha, e1, _⟩ := lies_addr h1
  simp only [List.map_cons, List.map_nil, e0, e1]
  exact CidrFinds_core W hv l hs p cap hat hll a ha
end Go.Cid
namespace Go.Proofs.YtohblhfdgoigdaaGreatDoor.LCidrFinds
open Go.Own
theorem own : ownKnob Tryz.prog.godebug = none := by kernel_rfl
theorem reads (os : Os) {H : Type} (enc : TypeId × Value → H) : ∃ x, DataW.whole enc Tryz.prog ((laidWorld os).forCall (fun _ _ => 0) ⟨#[], #[.slice none 0 0, .agg #[.int .u8 0, .int .u8 0, .int .u8 0, .int .u8 0, .int .u8 0, .int .u8 0, .int .u8 0, .int .u8 0, .int .u8 0, .int .u8 0, .int .u8 0, .int .u8 0, .int .u8 0, .int .u8 0, .int .u8 0, .int .u8 0]], []⟩).memory Tryz.f9.params.toList Rows.cidrFindsSpec.vars false #[.slice none 0 0, .agg #[.int .u8 0, .int .u8 0, .int .u8 0, .int .u8 0, .int .u8 0, .int .u8 0, .int .u8 0, .int .u8 0, .int .u8 0, .int .u8 0, .int .u8 0, .int .u8 0, .int .u8 0, .int .u8 0, .int .u8 0, .int .u8 0]].toList 8 = some x :=
  Option.isSome_iff_exists.1 (by kernel_rfl)
set_option maxRecDepth 100000 in
theorem lifted (os : Os) (started : os.Started) (H : Type) (enc : TypeId × Value → H) (F : Stop.Interp) :
    ReturnsInHanded {} Tryz.checked os 9 .any ((OpenSpec.ofChange Rows.cidrFindsSpec).preRow enc Tryz.prog Tryz.f9 Rows.cidrFindsRow.domain false Rows.cidrFindsRow.laid) (((OpenSpec.ofChange Rows.cidrFindsSpec).at F).post enc Tryz.prog Tryz.f9 false true false false) := by
  obtain ⟨x, hx⟩ := reads os enc
  exact law_laid (C := Tryz.checked) (D := 20) (tb := 4) own started (by kernel_rfl) Tryz.func9 rfl rfl Tryz.underlying4 (by kernel_rfl) (by kernel_rfl) (by kernel_rfl)
    (fun K ds h => by match ds, h with | [_, _], _ => rfl)
    (witness_row_atRef (enc := enc) (C := Tryz.checked) false (laidWorld os) #[.slice none 0 0, .agg #[.int .u8 0, .int .u8 0, .int .u8 0, .int .u8 0, .int .u8 0, .int .u8 0, .int .u8 0, .int .u8 0, .int .u8 0, .int .u8 0, .int .u8 0, .int .u8 0, .int .u8 0, .int .u8 0, .int .u8 0, .int .u8 0]] rfl (laid_shaped1 os _) (laid_shaped2 os _) (by kernel_rfl)
      (OpenSpec.preRow_of_cond 8 hx (by kernel_rfl) (fun k hk => by cases hk) (by kernel_rfl) (laid_met os _)))
    (fun W vts hsh hL h => Go.Cid.CidrFinds_walk _ vts (Go.Nam.vars_of hsh hL) (by rw [Tryz.params9] at h; exact h))
theorem said : Rows.CidrFindsSaid :=
  OpenClaim.holds_of_cond 9 Tryz.f9 rfl rfl rfl rfl rfl rfl rfl ⟨rfl, rfl, rfl, rfl, rfl⟩ rfl rfl rfl rfl rfl (by kernel_rfl) Tryz.func9 (by kernel_rfl)
    (of_decide_eq_true (by kernel_rfl)) (by unfold Func.isWrapper; first | (rw [if_pos (by decide +kernel)]; kernel_rfl) | (rw [if_neg (by decide +kernel)]; exact ⟨rfl, rfl⟩))
    (fun os started H enc _ F => by rw [OpenClaim.pre_eq_preRow]; exact lifted os started H enc F)
theorem plain (f : FuncId) (fn : Func) (hf : Tryz.pinned.checked.prog.funcNamed "hagioscope/hagioscopelaw04.CidrFinds" = some f) (hfn : Tryz.pinned.checked.prog.funcs[f]? = some fn) :
    true = Tryz.pinned.checked.prog.looks [] ∧ ∀ (j : Nat) t, fn.params[j]? = some t → Tryz.pinned.checked.prog.wantsStandIn t = false := by
  obtain rfl : f = 9 := Option.some.inj ((show Tryz.prog.funcNamed "hagioscope/hagioscopelaw04.CidrFinds" = some 9 by kernel_rfl).symm.trans hf) |>.symm
  obtain rfl : fn = Tryz.f9 := (Option.some.inj (Tryz.func9.symm.trans hfn)).symm
  refine ⟨by kernel_rfl, fun j t ht => ?_⟩
  have hall : Tryz.f9.params.toList.all (fun t => !Tryz.prog.wantsStandIn t) = true := by kernel_rfl
  have := List.all_eq_true.1 hall t (Array.mem_toList_iff.2 (Array.mem_of_getElem? ht))
  have h2 : Tryz.prog.wantsStandIn t = false := by simpa using this
  exact h2
end Go.Proofs.YtohblhfdgoigdaaGreatDoor.LCidrFinds
namespace Go.Proofs.YtohblhfdgoigdaaGreatDoor
/-- The law CidrFinds holds: its card. -/
theorem cidrFinds_holds : Rows.CidrFindsCardSaid :=
  Claim7.holds_tied_plain_at .later [] _ _ _ _ LCidrFinds.said (fun _ h => by cases h) (by kernel_rfl) (fun _ h => by cases h) cidrFinds_row_tie rfl ⟨rfl, rfl⟩ (by kernel_rfl) rfl LCidrFinds.plain (by kernel_rfl)
#print axioms cidrFinds_holds
end Go.Proofs.YtohblhfdgoigdaaGreatDoor
