/-
  THE LAW PinsCheck: what Check tells by what is live.
-/
import Derived.Test.YtajkpdhcefkopaaGreatDoorRows
import Derived.Test.YtajkpdhcefkopaaGreatDoorTie
import Derived.Test.YtajkpdhcefkopaaGreatDoorCards
import Derived.Test.YtajkpdhcefkopaaGreatDoorNam5
import Derived.Test.YtajkpdhcefkopaaGreatDoorGPn
import Derived.Test.YtajkpdhcefkopaaGreatDoorGBk
import Derived.Test.YtajkpdhcefkopaaGreatDoorWit
import Derived.SevenTiedPlain
namespace Go.Pin
open Go.Own Go.Proofs Go.RowKit Go.Lib Go.Asc Go.Adr Go.Nam Go.Tri Go.Cid Go.Pol
attribute [local irreducible] GC GQ G Rd Eff T
set_option maxRecDepth 20000
set_option maxHeartbeats 4000000
attribute [local irreducible] Lit.wf addT addAllT checkT liveL okP rightC ofL hasC
theorem PinsCheck_core (W : World) (hv : Vars W) (v : Value) (l : List Pn) (host : Lb) (a : List UInt8) (now : Int) (hp : ∀ F, PinsAt W F v l) (sp : ∀ y ∈ l, SizP y) (sn : ∀ y ∈ l, y.name.length ≤ 2000000) (hl : l.length ≤ 2000000) (ha : a.length = 16) :
    T Tryz.prog W 6 #[v, S host, .agg (u8s a).toArray, .int .i64 now] [] (fun v _ => v = .bool true) := by
  refine T.intro (args := [_, _, _, _]) Tryz.func6 rfl Tryz.ntmps6 rfl ?_
  repeat' first | refine Y.st ?_ | (refine nw ?_; intro _) | refine Y.kn ?_ | fail
  rename_i b8
  have hpn := hp ((b8, .cells (u8s a).toArray 24 (0, 0)) :: [])
  refine G.ef rfl rfl rfl (Eff.callF rfl ((psmall_spec hv).mono ?_))
  rintro u H' ⟨rfl, rfl⟩
  repeat' first | refine Y.st ?_ | (refine nw ?_; intro _) | refine Y.kn ?_ | fail
  refine G.ef rfl rfl rfl (Eff.callF rfl ((pfew_spec hpn sp hl).mono ?_))
  rintro u H' ⟨rfl, rfl⟩
  repeat' first | refine Y.st ?_ | (refine nw ?_; intro _) | refine Y.kn ?_ | fail
  refine G.ef rfl rfl rfl (Eff.callF rfl ((pnew_spec hv hpn sp sn hl).mono ?_))
  rintro u H' ⟨bt, TH, rfl, hT, rfl⟩
  have hkn := nodup_all l
  have hkr := right_keys (l := l)
  have hkz := siz_keys sp
  have hle := all_le l
  cases hf : fewP l with
  | false =>
    repeat' first | refine Y.st ?_ | (refine nw ?_; intro _) | refine Y.kn ?_ | fail
    exact GQ.done1 rfl rfl rfl
  | true =>
    obtain ⟨hf1, hf2⟩ := fewP_iff.1 hf
    by_cases hh : host.length ≤ 300
    case neg =>
      repeat' first | refine Y.st ?_ | (refine nw ?_; intro _) | refine Y.kn ?_ | fail
      exact GQ.done1 rfl rfl rfl
    have hll := live_len (addAllT l) host now
    have hlle := liveL_len (addAllT l) host now
    have hck := check_sort (addAllT l) host a now
    have hsz : ∀ c ∈ liveL (addAllT l) host now, SizC c := fun c hc => by
      obtain ⟨v, h1, _⟩ := mem_liveL.1 hc
      exact hkz _ h1
    repeat' first | refine Y.st ?_ | (refine nw ?_; intro _) | refine Y.kn ?_ | fail
    refine G.ef rfl rfl rfl (Eff.callF rfl ((plive_spec hT hkn hkr hkz (by omega) host now).mono ?_))
    rintro u H' ⟨B, hB, rfl⟩
    obtain ⟨p, c, rfl, hc, hl1⟩ := Go.Tri.Buf.see hB
    generalize hL : liveL (addAllT l) host now = ls at *
    have hat : Go.Tri.Lies W (B ++ (TH ++ [(b8, .cells (u8s a).toArray 24 (0, 0))])) p (ls.flatMap cdC) := (((hl1 W).app (TH ++ [(b8, .cells (u8s a).toArray 24 (0, 0))])).imp (fun _ hφ => hφ.perm List.perm_append_comm))
    repeat' first | refine Y.st ?_ | (refine nw ?_; intro _) | refine Y.kn ?_ | fail
    refine GC.loopE (ι := { k : Nat // k ≤ ls.length }) (fun i => [(13, .bool ((ls.take i.1).any (fun c => hasC c a))), (14, .int .i64 (i.1 : Int))]) [(1, _), (3, _), (6, _), (9, _), (11, _), (12, _)] (fun _ => B ++ (TH ++ [(b8, .cells (u8s a).toArray 24 (0, 0))])) (fun i => ls.length - i.1) ⟨0, Nat.zero_le _⟩ ⟨rfl, rfl, rfl, rfl, rfl, rfl, rfl, rfl, trivial⟩ (fun _ h => h) ?_
    rintro ⟨k, hk⟩
    dsimp only at hk ⊢
    by_cases hlt : k < ls.length
    · obtain ⟨b, o, rfl, a1⟩ := row_get (m := 17) (fun c hc => cdC_len (hsz c hc).1) (by omega) hat hlt
      have c1 := a1 k hlt
      have s1 := hsz _ (List.getElem_mem hlt)
      have hts : (ls.take (k + 1)).any (fun c => hasC c a) = ((ls.take k).any (fun c => hasC c a) || hasC ls[k] a) := by rw [List.take_succ_eq_append_getElem hlt, List.any_append]; simp
      cases hh : (ls.take k).any (fun c => hasC c a) with
      | true =>
        rw [hh, Bool.true_or] at hts
        repeat' first | refine Y.st ?_ | (refine nw ?_; intro _) | refine Y.kn ?_ | fail
        refine GC.drawnH [(0, .read), (1, .read), (2, .read), (3, .read), (4, .read), (5, .read), (6, .read), (7, .tail), (8, .tail), (9, .tail)] (by kernel_rfl) (by kernel_rfl) rfl ?_
        repeat' first | refine Y.st ?_ | (refine nw ?_; intro _) | refine Y.kn ?_ | fail
        exact GQ.back ⟨k + 1, by omega⟩ (by simp only; omega) ⟨(by first | rfl | (simp only [hts]; rfl)), (by first | rfl | (simp only [hts]; rfl)), (by first | rfl | (simp only [hts]; rfl)), (by first | rfl | (simp only [hts]; rfl)), (by first | rfl | (simp only [hts]; rfl)), (by first | rfl | (simp only [hts]; rfl)), (by first | rfl | (simp only [hts]; rfl)), (by first | rfl | (simp only [hts]; rfl)), trivial⟩ (fun w hw => hw)
      | false =>
        rw [hh, Bool.false_or] at hts
        repeat' first | refine Y.st ?_ | (refine nw ?_; intro _) | refine Y.kn ?_ | fail
        refine GC.drawnH [(0, .read), (1, .read), (2, .read), (3, .read), (4, .read), (5, .read), (6, .read), (7, .tail), (8, .tail), (9, .tail)] (by kernel_rfl) (by kernel_rfl) rfl ?_
        repeat' first | refine Y.st ?_ | (refine nw ?_; intro _) | refine Y.kn ?_ | fail
        refine G.rd (Rd.loadAggC rfl c1 (cdC_len s1.1)) rfl rfl ?_
        repeat' first | refine Y.st ?_ | (refine nw ?_; intro _) | refine Y.kn ?_ | fail
        exact GQ.back ⟨k + 1, by omega⟩ (by simp only; omega) ⟨(by first | rfl | (simp only [hts]; rfl)), (by first | rfl | (simp only [hts]; rfl)), (by first | rfl | (simp only [hts]; rfl)), (by first | rfl | (simp only [hts]; rfl)), (by first | rfl | (simp only [hts]; rfl)), (by first | rfl | (simp only [hts]; rfl)), (by first | rfl | (simp only [hts]; rfl)), (by first | rfl | (simp only [hts]; rfl)), trivial⟩ (fun w hw => hw)
    obtain rfl : k = ls.length := by omega
    rw [List.take_length]
    cases hany : ls.any (fun c => hasC c a) with
    | true =>
      have h0 : ls ≠ [] := by intro h; rw [h] at hany; simp at hany
      have hpos := List.length_pos_iff.2 h0
      rw [if_neg h0, hany, if_pos rfl] at hck
      repeat' first | refine Y.st ?_ | (refine nw ?_; intro _) | refine Y.kn ?_ | fail
      refine G.ef rfl rfl rfl (Eff.callP (first := #[]) (captured := #[]) rfl rfl (H' := TH ++ (B ++ [(b8, .cells (u8s a).toArray 24 (0, 0))])) (by exact permC) ((pcheck_spec hT hkn hkr hkz (by omega) host a ha now).mono ?_))
      rintro u H' ⟨rfl, rfl⟩
      rw [hck]
      repeat' first | refine Y.st ?_ | (refine nw ?_; intro _) | refine Y.kn ?_ | fail
      refine G.rd (Rd.eqlB rfl rfl) rfl rfl ?_
      repeat' first | refine Y.st ?_ | (refine nw ?_; intro _) | refine Y.kn ?_ | fail
      refine G.rd (Rd.eqlB rfl rfl) rfl rfl ?_
      repeat' first | refine Y.st ?_ | (refine nw ?_; intro _) | refine Y.kn ?_ | fail
      refine G.rd (Rd.eqlB rfl rfl) rfl rfl ?_
      repeat' first | refine Y.st ?_ | (refine nw ?_; intro _) | refine Y.kn ?_ | fail
      exact GQ.done1 rfl rfl rfl
    | false =>
      by_cases h0 : ls = []
      · have hz : ls.length = 0 := by rw [h0]; rfl
        rw [if_pos h0] at hck
        repeat' first | refine Y.st ?_ | (refine nw ?_; intro _) | refine Y.kn ?_ | fail
        refine G.ef rfl rfl rfl (Eff.callP (first := #[]) (captured := #[]) rfl rfl (H' := TH ++ (B ++ [(b8, .cells (u8s a).toArray 24 (0, 0))])) (by exact permC) ((pcheck_spec hT hkn hkr hkz (by omega) host a ha now).mono ?_))
        rintro u H' ⟨rfl, rfl⟩
        rw [hck]
        repeat' first | refine Y.st ?_ | (refine nw ?_; intro _) | refine Y.kn ?_ | fail
        refine G.rd (Rd.eqlB rfl rfl) rfl rfl ?_
        repeat' first | refine Y.st ?_ | (refine nw ?_; intro _) | refine Y.kn ?_ | fail
        refine G.rd (Rd.eqlB rfl rfl) rfl rfl ?_
        repeat' first | refine Y.st ?_ | (refine nw ?_; intro _) | refine Y.kn ?_ | fail
        refine G.rd (Rd.eqlB rfl rfl) rfl rfl ?_
        repeat' first | refine Y.st ?_ | (refine nw ?_; intro _) | refine Y.kn ?_ | fail
        exact GQ.done1 rfl rfl rfl
      · have hpos := List.length_pos_iff.2 h0
        rw [if_neg h0, hany, if_neg (by decide)] at hck
        repeat' first | refine Y.st ?_ | (refine nw ?_; intro _) | refine Y.kn ?_ | fail
        refine G.ef rfl rfl rfl (Eff.callP (first := #[]) (captured := #[]) rfl rfl (H' := TH ++ (B ++ [(b8, .cells (u8s a).toArray 24 (0, 0))])) (by exact permC) ((pcheck_spec hT hkn hkr hkz (by omega) host a ha now).mono ?_))
        rintro u H' ⟨rfl, rfl⟩
        rw [hck]
        repeat' first | refine Y.st ?_ | (refine nw ?_; intro _) | refine Y.kn ?_ | fail
        refine G.rd (Rd.eqlB rfl rfl) rfl rfl ?_
        repeat' first | refine Y.st ?_ | (refine nw ?_; intro _) | refine Y.kn ?_ | fail
        refine G.rd (Rd.eqlB rfl rfl) rfl rfl ?_
        repeat' first | refine Y.st ?_ | (refine nw ?_; intro _) | refine Y.kn ?_ | fail
        refine G.rd (Rd.eqlB rfl rfl) rfl rfl ?_
        repeat' first | refine Y.st ?_ | (refine nw ?_; intro _) | refine Y.kn ?_ | fail
        exact GQ.done1 rfl rfl rfl
theorem PinsCheck_walk (W : World) (vts : List VT) (hv : Vars W) (h : VT.LiesEach Tryz.prog W [22, 9, 24, 3] vts) (hb : VT.bulkL vts ≤ 1048576) : T Tryz.prog W 6 (vts.map VT.val).toArray [] (fun v _ => v = .bool true) := by
  obtain ⟨v0, r, rfl, h0, h⟩ := lies_one h
  obtain ⟨v1, r, rfl, h1, h⟩ := lies_one h
  obtain ⟨v2, r, rfl, h2, h⟩ := lies_one h
  obtain ⟨v3, r, rfl, h3, h⟩ := lies_one h
  obtain rfl := lies_nil h
  simp only [VT.bulkL] at hb
  obtain ⟨l, hp, sp, sn, hl⟩ := lies_pinsAt h0
  obtain ⟨s, rfl, _⟩ := Go.Own.Lies.str h1
  obtain ⟨a, ha, hav, _⟩ := lies_addr h2
  obtain ⟨n, rfl, _⟩ := Go.Own.Lies.int h3
  rw [show (([v0, .str s, v2, .int .i64 n] : List VT).map VT.val).toArray = #[v0.val, S s, .agg (u8s a).toArray, .int .i64 n] by simp only [List.map_cons, List.map_nil, hav]; rfl]
  exact PinsCheck_core W hv _ l s a n hp sp (fun y hy => by have := sn y hy; omega) (by omega) ha
end Go.Pin
namespace Go.Proofs.YtajkpdhcefkopaaGreatDoor.LPinsCheck
open Go.Own
theorem own : ownKnob Tryz.prog.godebug = none := by kernel_rfl
theorem reads (os : Os) {H : Type} (enc : TypeId × Value → H) : ∃ x, DataW.whole enc Tryz.prog ((laidWorld os).forCall (fun _ _ => 0) ⟨#[], #[.slice none 0 0, .string ⟨#[]⟩, Value.agg #[.int .u8 0, .int .u8 0, .int .u8 0, .int .u8 0, .int .u8 0, .int .u8 0, .int .u8 0, .int .u8 0, .int .u8 0, .int .u8 0, .int .u8 0, .int .u8 0, .int .u8 0, .int .u8 0, .int .u8 0, .int .u8 0], .int .i64 0], []⟩).memory Tryz.f6.params.toList Rows.pinsCheckSpec.vars false #[.slice none 0 0, .string ⟨#[]⟩, Value.agg #[.int .u8 0, .int .u8 0, .int .u8 0, .int .u8 0, .int .u8 0, .int .u8 0, .int .u8 0, .int .u8 0, .int .u8 0, .int .u8 0, .int .u8 0, .int .u8 0, .int .u8 0, .int .u8 0, .int .u8 0, .int .u8 0], .int .i64 0].toList 8 = some x ∧ Rows.uptoSmall H (x.1 ++ x.2.1) = true := by
  have h : ((DataW.whole enc Tryz.prog ((laidWorld os).forCall (fun _ _ => 0) ⟨#[], #[.slice none 0 0, .string ⟨#[]⟩, Value.agg #[.int .u8 0, .int .u8 0, .int .u8 0, .int .u8 0, .int .u8 0, .int .u8 0, .int .u8 0, .int .u8 0, .int .u8 0, .int .u8 0, .int .u8 0, .int .u8 0, .int .u8 0, .int .u8 0, .int .u8 0, .int .u8 0], .int .i64 0], []⟩).memory Tryz.f6.params.toList Rows.pinsCheckSpec.vars false #[.slice none 0 0, .string ⟨#[]⟩, Value.agg #[.int .u8 0, .int .u8 0, .int .u8 0, .int .u8 0, .int .u8 0, .int .u8 0, .int .u8 0, .int .u8 0, .int .u8 0, .int .u8 0, .int .u8 0, .int .u8 0, .int .u8 0, .int .u8 0, .int .u8 0, .int .u8 0], .int .i64 0].toList 8).map fun x => Rows.uptoSmall H (x.1 ++ x.2.1)) = some true := by kernel_rfl
  obtain ⟨x, hx, h2⟩ := Option.map_eq_some_iff.1 h
  exact ⟨x, hx, h2⟩
set_option maxRecDepth 100000 in
theorem lifted (os : Os) (started : os.Started) (H : Type) (enc : TypeId × Value → H) (F : Stop.Interp) :
    ReturnsInHanded {} Tryz.checked os 6 .any ((Rows.OpenSpec.upto Rows.pinsCheckSpec).preRow enc Tryz.prog Tryz.f6 Rows.pinsCheckUptoRow.domain false Rows.pinsCheckUptoRow.laid) (((Rows.OpenSpec.upto Rows.pinsCheckSpec).at F).post enc Tryz.prog Tryz.f6 false true false false) := by
  obtain ⟨x, hx, hx2⟩ := reads os enc
  exact law_upto (kc := Rows.uptoSmall) (N := 1048576) (Go.Own.countsU H) (fun ds h => of_decide_eq_true h) (C := Tryz.checked) (D := 20) (tb := 4) own started (by kernel_rfl) Tryz.func6 rfl rfl Tryz.underlying4 (by kernel_rfl) (by kernel_rfl) (by kernel_rfl)
    (fun K ds h => by match ds, h with | [_, _, _, _], _ => rfl)
    (witness_row_atRef (enc := enc) (C := Tryz.checked) false (laidWorld os) #[.slice none 0 0, .string ⟨#[]⟩, Value.agg #[.int .u8 0, .int .u8 0, .int .u8 0, .int .u8 0, .int .u8 0, .int .u8 0, .int .u8 0, .int .u8 0, .int .u8 0, .int .u8 0, .int .u8 0, .int .u8 0, .int .u8 0, .int .u8 0, .int .u8 0, .int .u8 0], .int .i64 0] rfl (laid_shaped1 os _) (laid_shaped2 os _) (by kernel_rfl)
      (OpenSpec.preRow_of_cond 8 hx (by kernel_rfl) (fun k hk => by cases hk; exact hx2) (by kernel_rfl) (laid_met os _)))
    (fun W vts hsh hL h hb => Go.Pin.PinsCheck_walk _ vts (Go.Nam.vars_of hsh hL) (by rw [Tryz.params6] at h; exact h) hb)
theorem j1 : Tryz.prog.inPlace 6 = Rows.pinsCheckUptoRow.inPlace := eq_of_beq (by kernel_rfl)
theorem j2 : Tryz.prog.unfollowed 6 = Rows.pinsCheckUptoRow.unfollowed := eq_of_beq (by kernel_rfl)
theorem j3 : Tryz.prog.recurses 6 = Rows.pinsCheckUptoRow.recurses := eq_of_beq (by kernel_rfl)
theorem j4 : Tryz.prog.varsNamed 6 = Rows.pinsCheckUptoRow.named := eq_of_beq (by kernel_rfl)
theorem joined : joinedFacts Tryz.prog 6 Tryz.f6 (Rows.OpenSpec.upto Rows.pinsCheckSpec).bare Rows.pinsCheckUptoRow = true := by
  unfold joinedFacts
  rw [j1, j2, j3, j4]
  kernel_rfl
theorem said : Rows.PinsCheckUptoSaid :=
  OpenClaim.holds_of_cond 6 Tryz.f6 rfl rfl rfl rfl rfl rfl rfl ⟨rfl, rfl, rfl, rfl, rfl⟩ rfl rfl rfl rfl rfl (by kernel_rfl) Tryz.func6 joined
    (of_decide_eq_true (by kernel_rfl)) (by unfold Func.isWrapper; first | (rw [if_pos (by decide +kernel)]; kernel_rfl) | (rw [if_neg (by decide +kernel)]; exact ⟨rfl, rfl⟩))
    (fun os started H enc _ F => by rw [OpenClaim.pre_eq_preRow]; exact lifted os started H enc F)
theorem plain (f : FuncId) (fn : Func) (hf : Tryz.pinned.checked.prog.funcNamed "hagioscope/hagioscopelaw20.PinsCheck" = some f) (hfn : Tryz.pinned.checked.prog.funcs[f]? = some fn) :
    true = Tryz.pinned.checked.prog.looks [] ∧ ∀ (j : Nat) t, fn.params[j]? = some t → Tryz.pinned.checked.prog.wantsStandIn t = false := by
  obtain rfl : f = 6 := Option.some.inj ((show Tryz.prog.funcNamed "hagioscope/hagioscopelaw20.PinsCheck" = some 6 by kernel_rfl).symm.trans hf) |>.symm
  obtain rfl : fn = Tryz.f6 := (Option.some.inj (Tryz.func6.symm.trans hfn)).symm
  refine ⟨by kernel_rfl, fun j t ht => ?_⟩
  have hall : Tryz.f6.params.toList.all (fun t => !Tryz.prog.wantsStandIn t) = true := by kernel_rfl
  have := List.all_eq_true.1 hall t (Array.mem_toList_iff.2 (Array.mem_of_getElem? ht))
  have h2 : Tryz.prog.wantsStandIn t = false := by simpa using this
  exact h2
end Go.Proofs.YtajkpdhcefkopaaGreatDoor.LPinsCheck
namespace Go.Proofs.YtajkpdhcefkopaaGreatDoor
/-- The law PinsCheck holds: its card. -/
theorem pinsCheck_holds : Rows.PinsCheckUptoCardSaid :=
  Claim7.holds_tied_plain_at .later [] _ _ _ _ LPinsCheck.said (fun _ h => by cases h) (by kernel_rfl) (fun _ h => by cases h) pinsCheckUpto_row_tie rfl ⟨rfl, rfl⟩ (by kernel_rfl) rfl LPinsCheck.plain (by kernel_rfl)
#print axioms pinsCheck_holds
end Go.Proofs.YtajkpdhcefkopaaGreatDoor
