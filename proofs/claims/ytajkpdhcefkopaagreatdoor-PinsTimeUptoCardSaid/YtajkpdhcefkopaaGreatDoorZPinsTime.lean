/-
  THE LAW PinsTime: as time goes on live ones go, and none comes.
-/
import Derived.Test.YtajkpdhcefkopaaGreatDoorRows
import Derived.Test.YtajkpdhcefkopaaGreatDoorTie
import Derived.Test.YtajkpdhcefkopaaGreatDoorCards
import Derived.Test.YtajkpdhcefkopaaGreatDoorNam5
import Derived.Test.YtajkpdhcefkopaaGreatDoorGPn
import Derived.Test.YtajkpdhcefkopaaGreatDoorGBk
import Derived.Test.YtajkpdhcefkopaaGreatDoorWit
import Derived.SevenTiedPlain
namespace Go.Pin
open Go.Own Go.Proofs Go.RowKit Go.Lib Go.Asc Go.Adr Go.Nam Go.Tri Go.Cid Go.Pol
attribute [local irreducible] GC GQ G Rd Eff T
set_option maxRecDepth 20000
set_option maxHeartbeats 4000000
attribute [local irreducible] Lit.wf addT addAllT checkT liveL okP rightC ofL hasC
theorem take_mem_step {l : List Cd} {k : Nat} (hk : k < l.length) (c : Cd) : decide (c ∈ l.take (k + 1)) = (decide (c ∈ l.take k) || decide (l[k] = c)) := by
  rw [List.take_succ_eq_append_getElem hk]
  rw [Bool.eq_iff_iff]
  simp only [Bool.or_eq_true, decide_eq_true_eq, List.mem_append, List.mem_singleton]
  constructor
  · rintro (h | h)
    · exact .inl h
    · exact .inr h.symm
  · rintro (h | h)
    · exact .inl h
    · exact .inr h.symm
theorem PinsTime_core (W : World) (hv : Vars W) (v : Value) (l : List Pn) (host : Lb) (now later : Int) (hp : ∀ F, PinsAt W F v l) (sp : ∀ y ∈ l, SizP y) (sn : ∀ y ∈ l, y.name.length ≤ 2000000) (hl : l.length ≤ 2000000) :
    T Tryz.prog W 5 #[v, S host, .int .i64 now, .int .i64 later] [] (fun v _ => v = .bool true) := by
  refine T.intro (args := [_, _, _, _]) Tryz.func5 rfl Tryz.ntmps5 rfl ?_
  repeat' first | refine Y.st ?_ | (refine nw ?_; intro _) | refine Y.kn ?_ | fail
  refine G.ef rfl rfl rfl (Eff.callF rfl ((psmall_spec hv).mono ?_))
  rintro u H' ⟨rfl, rfl⟩
  repeat' first | refine Y.st ?_ | (refine nw ?_; intro _) | refine Y.kn ?_ | fail
  refine G.ef rfl rfl rfl (Eff.callF rfl ((pfew_spec (hp []) sp hl).mono ?_))
  rintro u H' ⟨rfl, rfl⟩
  repeat' first | refine Y.st ?_ | (refine nw ?_; intro _) | refine Y.kn ?_ | fail
  refine G.ef rfl rfl rfl (Eff.callF rfl ((pnew_spec hv (hp []) sp sn hl).mono ?_))
  rintro u H' ⟨bt, TH, rfl, hT, rfl⟩
  have hkn := nodup_all l
  have hkr := right_keys (l := l)
  have hkz := siz_keys sp
  have hle := all_le l
  cases hf : fewP l with
  | false =>
    repeat' first | refine Y.st ?_ | (refine nw ?_; intro _) | refine Y.kn ?_ | fail
    exact GQ.done1 rfl rfl rfl
  | true =>
    obtain ⟨hf1, hf2⟩ := fewP_iff.1 hf
    by_cases hh : host.length ≤ 300
    case neg =>
      repeat' first | refine Y.st ?_ | (refine nw ?_; intro _) | refine Y.kn ?_ | fail
      exact GQ.done1 rfl rfl rfl
    by_cases hlt0 : later < now
    case pos =>
      repeat' first | refine Y.st ?_ | (refine nw ?_; intro _) | refine Y.kn ?_ | fail
      exact GQ.done1 rfl rfl rfl
    have hll := live_len (addAllT l) host now
    have hlle := liveL_len (addAllT l) host now
    have hll2 := live_len (addAllT l) host later
    have hlle2 := liveL_len (addAllT l) host later
    obtain ⟨hmem, hmle⟩ := live_later (t := addAllT l) (host := host) (now := now) (later := later) (by omega)
    have hsz : ∀ t, ∀ c ∈ liveL (addAllT l) host t, SizC c := fun t c hc => by
      obtain ⟨v, h1, _⟩ := mem_liveL.1 hc
      exact hkz _ h1
    have hs1 := hsz now
    have hs2 := hsz later
    repeat' first | refine Y.st ?_ | (refine nw ?_; intro _) | refine Y.kn ?_ | fail
    refine G.ef rfl rfl rfl (Eff.callF rfl ((plive_spec hT hkn hkr hkz (by omega) host now).mono ?_))
    rintro u H' ⟨B, hB, rfl⟩
    obtain ⟨p, c, rfl, hc, hl1⟩ := Go.Tri.Buf.see hB
    repeat' first | refine Y.st ?_ | (refine nw ?_; intro _) | refine Y.kn ?_ | fail
    refine G.ef rfl rfl rfl (Eff.callP (first := #[]) (captured := #[]) rfl rfl (H' := TH ++ B) (by exact permC) ((plive_spec hT hkn hkr hkz (by omega) host later).mono ?_))
    rintro u H' ⟨B2, hB2, rfl⟩
    obtain ⟨p2, c2, rfl, hc2, hl2⟩ := Go.Tri.Buf.see hB2
    clear hB hB2 hsz
    generalize hL : liveL (addAllT l) host now = ls at *
    generalize hL2 : liveL (addAllT l) host later = qs at *
    clear hL hL2
    have hq1 : ∀ w, Own W (B2 ++ (TH ++ B)) w → Own W (B ++ (TH ++ B2)) w := fun w hw => hw.perm (by exact permC)
    have at1 : Go.Tri.Lies W (B2 ++ (TH ++ B)) p (ls.flatMap cdC) := (((hl1 W).app (TH ++ B2)).imp (fun _ hφ => hφ.perm (by exact permC)))
    have at2 : Go.Tri.Lies W (B2 ++ (TH ++ B)) p2 (qs.flatMap cdC) := (((hl2 W).app (TH ++ B)).imp (fun _ hφ => hφ.perm List.perm_append_comm))
    repeat' first | refine Y.st ?_ | (refine nw ?_; intro _) | refine Y.kn ?_ | fail
    refine GC.loopE (ι := { k : Nat // k ≤ qs.length }) (fun i => [(14, .int .i64 (i.1 : Int))]) [(9, _), (11, _), (12, _), (13, _)] (fun _ => B2 ++ (TH ++ B)) (fun i => qs.length - i.1) ⟨0, Nat.zero_le _⟩ ⟨rfl, rfl, rfl, rfl, rfl, trivial⟩ (fun _ h => h) ?_
    rintro ⟨k, hk⟩
    dsimp only at hk ⊢
    by_cases hlt : k < qs.length
    · obtain ⟨b2, o2, rfl, a2⟩ := row_get (m := 17) (fun c hc => cdC_len (hs2 c hc).1) (by omega) at2 hlt
      have c2k := a2 k hlt
      have s2 := hs2 _ (List.getElem_mem hlt)
      have hin := hmem _ (List.getElem_mem hlt)
      repeat' first | refine Y.st ?_ | (refine nw ?_; intro _) | refine Y.kn ?_ | fail
      refine GC.loopE (ι := { k : Nat // k ≤ ls.length }) (fun i => [(15, .bool (decide (qs[k] ∈ ls.take i.1))), (16, .int .i64 (i.1 : Int))]) [(9, _), (11, _), (12, _), (13, _), (14, _)] (fun _ => B2 ++ (TH ++ B)) (fun i => ls.length - i.1) ⟨0, Nat.zero_le _⟩ ⟨(by first | rfl | (simp)), (by first | rfl | (simp)), (by first | rfl | (simp)), (by first | rfl | (simp)), (by first | rfl | (simp)), (by first | rfl | (simp)), (by first | rfl | (simp)), trivial⟩ (fun _ h => h) ?_
      rintro ⟨m, hm⟩
      dsimp only at hm ⊢
      by_cases hlm : m < ls.length
      · obtain ⟨b1, o1, rfl, a1⟩ := row_get (m := 17) (fun c hc => cdC_len (hs1 c hc).1) (by omega) at1 hlm
        have c1k := a1 m hlm
        have s1 := hs1 _ (List.getElem_mem hlm)
        cases hd : decide (qs[k] ∈ ls.take m) with
        | true =>
          have hnext : decide (qs[k] ∈ ls.take (m + 1)) = true := by rw [take_mem_step hlm, hd]; rfl
          repeat' first | refine Y.st ?_ | (refine nw ?_; intro _) | refine Y.kn ?_ | fail
          refine GC.drawnH [(0, .read), (1, .read), (2, .read), (3, .read), (4, .read), (5, .read), (6, .read), (7, .read), (8, .read), (9, .read), (10, .read), (11, .read), (12, .read)] (by kernel_rfl) (by kernel_rfl) rfl ?_
          repeat' first | refine Y.st ?_ | (refine nw ?_; intro _) | refine Y.kn ?_ | fail
          exact GQ.back ⟨m + 1, by omega⟩ (by simp only; omega) ⟨(by first | rfl | (simp only [hnext]; rfl)), (by first | rfl | (simp only [hnext]; rfl)), (by first | rfl | (simp only [hnext]; rfl)), (by first | rfl | (simp only [hnext]; rfl)), (by first | rfl | (simp only [hnext]; rfl)), (by first | rfl | (simp only [hnext]; rfl)), (by first | rfl | (simp only [hnext]; rfl)), trivial⟩ (fun w hw => hw)
        | false =>
          have hnext : decide (qs[k] ∈ ls.take (m + 1)) = decide (ls[m] = qs[k]) := by rw [take_mem_step hlm, hd]; rfl
          repeat' first | refine Y.st ?_ | (refine nw ?_; intro _) | refine Y.kn ?_ | fail
          refine GC.drawnH [(0, .read), (1, .read), (2, .read), (3, .read), (4, .read), (5, .read), (6, .read), (7, .read), (8, .read), (9, .read), (10, .read), (11, .read), (12, .read)] (by kernel_rfl) (by kernel_rfl) rfl ?_
          repeat' first | refine Y.st ?_ | (refine nw ?_; intro _) | refine Y.kn ?_ | fail
          refine G.rd (Rd.loadAggC rfl c1k (cdC_len s1.1)) rfl rfl ?_
          repeat' first | refine Y.st ?_ | (refine nw ?_; intro _) | refine Y.kn ?_ | fail
          refine G.rd (Rd.loadAggC rfl c2k (cdC_len s2.1)) rfl rfl ?_
          refine G.rd (Rd.eqlCd ls[m] qs[k] rfl rfl s1 s2) rfl rfl ?_
          repeat' first | refine Y.st ?_ | (refine nw ?_; intro _) | refine Y.kn ?_ | fail
          exact GQ.back ⟨m + 1, by omega⟩ (by simp only; omega) ⟨(by first | rfl | (simp only [hnext]; rfl)), (by first | rfl | (simp only [hnext]; rfl)), (by first | rfl | (simp only [hnext]; rfl)), (by first | rfl | (simp only [hnext]; rfl)), (by first | rfl | (simp only [hnext]; rfl)), (by first | rfl | (simp only [hnext]; rfl)), (by first | rfl | (simp only [hnext]; rfl)), trivial⟩ (fun w hw => hw)
      obtain rfl : m = ls.length := by omega
      rw [List.take_length, decide_eq_true hin]
      repeat' first | refine Y.st ?_ | (refine nw ?_; intro _) | refine Y.kn ?_ | fail
      exact GQ.back ⟨k + 1, by omega⟩ (by simp only; omega) ⟨rfl, rfl, rfl, rfl, rfl, trivial⟩ (fun w hw => hw)
    obtain rfl : k = qs.length := by omega
    have hle3 : ls.length ≤ (addAllT l).length := by omega
    repeat' first | refine Y.st ?_ | (refine nw ?_; intro _) | refine Y.kn ?_ | fail
    refine G.ef rfl rfl rfl (Eff.callP (first := #[]) (captured := #[]) rfl rfl (H' := TH ++ (B2 ++ B)) (by exact permC) ((plen_spec hT).mono ?_))
    rintro u H' ⟨rfl, rfl⟩
    repeat' first | refine Y.st ?_ | (refine nw ?_; intro _) | refine Y.kn ?_ | fail
    exact GQ.done1 rfl rfl rfl
theorem PinsTime_walk (W : World) (vts : List VT) (hv : Vars W) (h : VT.LiesEach Tryz.prog W [22, 9, 3, 3] vts) (hb : VT.bulkL vts ≤ 1048576) : T Tryz.prog W 5 (vts.map VT.val).toArray [] (fun v _ => v = .bool true) := by
  obtain ⟨v0, r, rfl, h0, h⟩ := lies_one h
  obtain ⟨v1, r, rfl, h1, h⟩ := lies_one h
  obtain ⟨v2, r, rfl, h2, h⟩ := lies_one h
  obtain ⟨v3, r, rfl, h3, h⟩ := lies_one h
  obtain rfl := lies_nil h
  simp only [VT.bulkL] at hb
  obtain ⟨l, hp, sp, sn, hl⟩ := lies_pinsAt h0
  obtain ⟨s, rfl, _⟩ := Go.Own.Lies.str h1
  obtain ⟨n, rfl, _⟩ := Go.Own.Lies.int h2
  obtain ⟨m, rfl, _⟩ := Go.Own.Lies.int h3
  exact PinsTime_core W hv _ l s n m hp sp (fun y hy => by have := sn y hy; omega) (by omega)
end Go.Pin
namespace Go.Proofs.YtajkpdhcefkopaaGreatDoor.LPinsTime
open Go.Own
theorem own : ownKnob Tryz.prog.godebug = none := by kernel_rfl
theorem reads (os : Os) {H : Type} (enc : TypeId × Value → H) : ∃ x, DataW.whole enc Tryz.prog ((laidWorld os).forCall (fun _ _ => 0) ⟨#[], #[.slice none 0 0, .string ⟨#[]⟩, .int .i64 0, .int .i64 0], []⟩).memory Tryz.f5.params.toList Rows.pinsTimeSpec.vars false #[.slice none 0 0, .string ⟨#[]⟩, .int .i64 0, .int .i64 0].toList 8 = some x ∧ Rows.uptoSmall H (x.1 ++ x.2.1) = true := by
  have h : ((DataW.whole enc Tryz.prog ((laidWorld os).forCall (fun _ _ => 0) ⟨#[], #[.slice none 0 0, .string ⟨#[]⟩, .int .i64 0, .int .i64 0], []⟩).memory Tryz.f5.params.toList Rows.pinsTimeSpec.vars false #[.slice none 0 0, .string ⟨#[]⟩, .int .i64 0, .int .i64 0].toList 8).map fun x => Rows.uptoSmall H (x.1 ++ x.2.1)) = some true := by kernel_rfl
  obtain ⟨x, hx, h2⟩ := Option.map_eq_some_iff.1 h
  exact ⟨x, hx, h2⟩
set_option maxRecDepth 100000 in
theorem lifted (os : Os) (started : os.Started) (H : Type) (enc : TypeId × Value → H) (F : Stop.Interp) :
    ReturnsInHanded {} Tryz.checked os 5 .any ((Rows.OpenSpec.upto Rows.pinsTimeSpec).preRow enc Tryz.prog Tryz.f5 Rows.pinsTimeUptoRow.domain false Rows.pinsTimeUptoRow.laid) (((Rows.OpenSpec.upto Rows.pinsTimeSpec).at F).post enc Tryz.prog Tryz.f5 false true false false) := by
  obtain ⟨x, hx, hx2⟩ := reads os enc
  exact law_upto (kc := Rows.uptoSmall) (N := 1048576) (Go.Own.countsU H) (fun ds h => of_decide_eq_true h) (C := Tryz.checked) (D := 20) (tb := 4) own started (by kernel_rfl) Tryz.func5 rfl rfl Tryz.underlying4 (by kernel_rfl) (by kernel_rfl) (by kernel_rfl)
    (fun K ds h => by match ds, h with | [_, _, _, _], _ => rfl)
    (witness_row_atRef (enc := enc) (C := Tryz.checked) false (laidWorld os) #[.slice none 0 0, .string ⟨#[]⟩, .int .i64 0, .int .i64 0] rfl (laid_shaped1 os _) (laid_shaped2 os _) (by kernel_rfl)
      (OpenSpec.preRow_of_cond 8 hx (by kernel_rfl) (fun k hk => by cases hk; exact hx2) (by kernel_rfl) (laid_met os _)))
    (fun W vts hsh hL h hb => Go.Pin.PinsTime_walk _ vts (Go.Nam.vars_of hsh hL) (by rw [Tryz.params5] at h; exact h) hb)
theorem j1 : Tryz.prog.inPlace 5 = Rows.pinsTimeUptoRow.inPlace := eq_of_beq (by kernel_rfl)
theorem j2 : Tryz.prog.unfollowed 5 = Rows.pinsTimeUptoRow.unfollowed := eq_of_beq (by kernel_rfl)
theorem j3 : Tryz.prog.recurses 5 = Rows.pinsTimeUptoRow.recurses := eq_of_beq (by kernel_rfl)
theorem j4 : Tryz.prog.varsNamed 5 = Rows.pinsTimeUptoRow.named := eq_of_beq (by kernel_rfl)
theorem joined : joinedFacts Tryz.prog 5 Tryz.f5 (Rows.OpenSpec.upto Rows.pinsTimeSpec).bare Rows.pinsTimeUptoRow = true := by
  unfold joinedFacts
  rw [j1, j2, j3, j4]
  kernel_rfl
theorem said : Rows.PinsTimeUptoSaid :=
  OpenClaim.holds_of_cond 5 Tryz.f5 rfl rfl rfl rfl rfl rfl rfl ⟨rfl, rfl, rfl, rfl, rfl⟩ rfl rfl rfl rfl rfl (by kernel_rfl) Tryz.func5 joined
    (of_decide_eq_true (by kernel_rfl)) (by unfold Func.isWrapper; first | (rw [if_pos (by decide +kernel)]; kernel_rfl) | (rw [if_neg (by decide +kernel)]; exact ⟨rfl, rfl⟩))
    (fun os started H enc _ F => by rw [OpenClaim.pre_eq_preRow]; exact lifted os started H enc F)
theorem plain (f : FuncId) (fn : Func) (hf : Tryz.pinned.checked.prog.funcNamed "hagioscope/hagioscopelaw20.PinsTime" = some f) (hfn : Tryz.pinned.checked.prog.funcs[f]? = some fn) :
    true = Tryz.pinned.checked.prog.looks [] ∧ ∀ (j : Nat) t, fn.params[j]? = some t → Tryz.pinned.checked.prog.wantsStandIn t = false := by
  obtain rfl : f = 5 := Option.some.inj ((show Tryz.prog.funcNamed "hagioscope/hagioscopelaw20.PinsTime" = some 5 by kernel_rfl).symm.trans hf) |>.symm
  obtain rfl : fn = Tryz.f5 := (Option.some.inj (Tryz.func5.symm.trans hfn)).symm
  refine ⟨by kernel_rfl, fun j t ht => ?_⟩
  have hall : Tryz.f5.params.toList.all (fun t => !Tryz.prog.wantsStandIn t) = true := by kernel_rfl
  have := List.all_eq_true.1 hall t (Array.mem_toList_iff.2 (Array.mem_of_getElem? ht))
  have h2 : Tryz.prog.wantsStandIn t = false := by simpa using this
  exact h2
end Go.Proofs.YtajkpdhcefkopaaGreatDoor.LPinsTime
namespace Go.Proofs.YtajkpdhcefkopaaGreatDoor
/-- The law PinsTime holds: its card. -/
theorem pinsTime_holds : Rows.PinsTimeUptoCardSaid :=
  Claim7.holds_tied_plain_at .later [] _ _ _ _ LPinsTime.said (fun _ h => by cases h) (by kernel_rfl) (fun _ h => by cases h) pinsTimeUpto_row_tie rfl ⟨rfl, rfl⟩ (by kernel_rfl) rfl LPinsTime.plain (by kernel_rfl)
#print axioms pinsTime_holds
end Go.Proofs.YtajkpdhcefkopaaGreatDoor
