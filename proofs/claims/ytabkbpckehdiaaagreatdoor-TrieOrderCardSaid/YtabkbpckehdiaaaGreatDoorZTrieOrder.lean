/-
  TrieOrder: in which order rules of unlike patterns were added does not matter: of rules without ports and protocols, each pattern once: no condition.
-/
import Derived.Test.YtabkbpckehdiaaaGreatDoorRows
import Derived.Test.YtabkbpckehdiaaaGreatDoorTie
import Derived.Test.YtabkbpckehdiaaaGreatDoorCards
import Derived.Test.YtabkbpckehdiaaaGreatDoorNam5
import Derived.Test.YtabkbpckehdiaaaGreatDoorGTc
import Derived.Test.YtabkbpckehdiaaaGreatDoorWit
import Derived.SevenTiedPlain
namespace Go.Tri
open Go.Own Go.Proofs Go.RowKit Go.Lib Go.Asc Go.Adr Go.Nam Go.Rfn
attribute [local irreducible] GC GQ G Rd Eff T
set_option maxRecDepth 20000
set_option maxHeartbeats 4000000
attribute [local irreducible] named patL matchL visL fitsL rightL countsL lessL fewL
theorem nodup_pats {l : List Ru} (h : ∀ b, b < l.length → ∀ a, a < b → (l.getD a zeroR).pat ≠ (l.getD b zeroR).pat) : (l.map (·.pat)).Nodup := by
  rw [List.Nodup, List.pairwise_iff_getElem]
  intro i j hi hj hij
  simp only [List.length_map] at hi hj
  have := h j hj i hij
  rw [List.getD_eq_getElem?_getD, List.getD_eq_getElem?_getD, List.getElem?_eq_getElem hi, List.getElem?_eq_getElem hj] at this
  simpa using this
theorem rev_getD {l : List Ru} {k : Nat} (h : k < l.length) : l.reverse.getD k zeroR = l.getD (l.length - 1 - k) zeroR := by
  rw [List.getD_eq_getElem?_getD, List.getD_eq_getElem?_getD, List.getElem?_reverse h]
theorem TrieOrder_core (W : World) (hv : Vars W) (l : List Ru) (hls : ∀ r ∈ l, Sized r) (hll : l.length ≤ 140737488351232) (p : Option Addr) (c : Nat) (hc : l.length ≤ c) (hat : ∀ F, Go.Tri.Lies W F p (l.flatMap ruC))
    (host : Lab) (hl : host.length ≤ 140737488351232) : T Tryz.prog W 7 #[.slice p l.length c, S host] [] (fun v _ => v = .bool true) := by
  refine T.intro (args := [_, _]) Tryz.func7 rfl Tryz.ntmps7 rfl ?_
  repeat' first | refine Y.st ?_ | (refine nw ?_; intro _) | refine Y.kn ?_ | fail
  refine G.ef rfl rfl rfl (Eff.callF rfl ((few_spec _ l ⟨p, c, rfl, hc, hat _⟩ hll).mono ?_))
  rintro v H' ⟨rfl, rfl⟩
  repeat' first | refine Y.st ?_ | (refine nw ?_; intro _) | refine Y.kn ?_ | fail
  refine G.ef rfl rfl rfl (Eff.callF rfl (new_spec.mono ?_))
  rintro v H' ⟨bt, TH, rfl, hT, rfl⟩
  repeat' first | refine Y.st ?_ | (refine nw ?_; intro _) | refine Y.kn ?_ | fail
  refine G.ef rfl rfl rfl (Eff.callF rfl (new_spec.mono ?_))
  rintro v H' ⟨bu, UH, rfl, hU, rfl⟩
  by_cases hbad : fewL l = false ∨ 300 < host.length
  · cases hf : fewL l with
    | false =>
      repeat' first | refine Y.st ?_ | (refine nw ?_; intro _) | refine Y.kn ?_ | (refine sp ?_ ?_ <;> intro _) | fail
      all_goals first | (exfalso; omega) | exact GQ.done1 rfl rfl rfl
    | true =>
      rw [hf] at hbad
      simp only [Bool.true_eq_false, false_or] at hbad
      repeat' first | refine Y.st ?_ | (refine nw ?_; intro _) | refine Y.kn ?_ | (refine sp ?_ ?_ <;> intro _) | fail
      all_goals first | (exfalso; omega) | exact GQ.done1 rfl rfl rfl
  · simp only [not_or, Bool.not_eq_false] at hbad
    obtain ⟨hf, hb1⟩ := hbad
    obtain ⟨hl220, hfew⟩ := few_true hf
    repeat' first | refine Y.st ?_ | (refine nw ?_; intro _) | refine Y.kn ?_ | fail
    -- is each one without port and protocol, and each pattern there once
    refine GC.loopE (ι := { k : Nat // k ≤ l.length ∧ ∀ b, b < k → ∀ a, a < b → (l.getD a zeroR).pat ≠ (l.getD b zeroR).pat }) (fun i => [(9, .int .i64 (i.1 : Int))]) [(0, _), (1, _), (5, _), (7, _), (8, _)] (fun _ => UH ++ (TH ++ [])) (fun i => l.length - i.1) ⟨0, Nat.zero_le _, fun b h => by omega⟩ ⟨rfl, rfl, rfl, rfl, rfl, rfl, trivial⟩ (fun _ h => h) ?_
    rintro ⟨k, hk, hpw⟩
    dsimp only [List.cons_append, List.nil_append] at hk hpw ⊢
    by_cases hlt : k < l.length
    · obtain ⟨b, o, rfl, hcell⟩ := lies_all hat hlt
      have hpatc : ∀ m, m < l.length → ∀ w, Own W (UH ++ (TH ++ [])) w → w.cell? ⟨b, o + m * 5 + 2, none⟩ = some (S (l.getD m zeroR).pat) := fun m hm w hw => hcell _ m hm w hw 2 _ rfl
      have hportc : ∀ w, Own W (UH ++ (TH ++ [])) w → w.cell? ⟨b, o + k * 5 + 3, none⟩ = some (.int .i64 (l.getD k zeroR).port) := fun w hw => hcell _ k hlt w hw 3 _ rfl
      have halpnc : ∀ w, Own W (UH ++ (TH ++ [])) w → w.cell? ⟨b, o + k * 5 + 4, none⟩ = some (S (l.getD k zeroR).alpn) := fun w hw => hcell _ k hlt w hw 4 _ rfl
      by_cases hok : (l.getD k zeroR).port = 0 ∧ (l.getD k zeroR).alpn = []
      · obtain ⟨hok1, hok2⟩ := hok
        repeat' first | refine Y.st ?_ | (refine nw ?_; intro _) | refine Y.kn ?_ | fail
        refine GC.loopE (ι := { m : Nat // m ≤ k ∧ ∀ a, a < m → (l.getD a zeroR).pat ≠ (l.getD k zeroR).pat }) (fun i => [(10, .int .i64 (i.1 : Int))]) [(0, _), (1, _), (5, _), (7, _), (8, _), (9, _)] (fun _ => UH ++ (TH ++ [])) (fun i => k - i.1) ⟨0, Nat.zero_le _, fun b h => by omega⟩ ⟨rfl, rfl, rfl, rfl, rfl, rfl, rfl, trivial⟩ (fun _ h => h) ?_
        rintro ⟨m, hm, hpm⟩
        dsimp only [List.cons_append, List.nil_append] at hm hpm ⊢
        by_cases hlm : m < k
        · have hc1 := hpatc m (by omega)
          have hc2 := hpatc k hlt
          by_cases he : (l.getD m zeroR).pat = (l.getD k zeroR).pat
          · repeat' first | refine Y.st ?_ | (refine nw ?_; intro _) | refine Y.kn ?_ | fail
            refine GC.drawnH [(0, .read), (1, .read), (2, .read), (3, .read), (4, .read), (5, .read), (6, .read), (7, .read), (8, .read), (9, .read), (10, .read)] (by kernel_rfl) (by kernel_rfl) rfl ?_
            repeat' first | refine Y.st ?_ | (refine nw ?_; intro _) | refine Y.kn ?_ | (refine sp ?_ ?_ <;> intro _) | fail
            all_goals first | (exfalso; contradiction) | exact GQ.done1 rfl rfl rfl
          · repeat' first | refine Y.st ?_ | (refine nw ?_; intro _) | refine Y.kn ?_ | fail
            refine GC.drawnH [(0, .read), (1, .read), (2, .read), (3, .read), (4, .read), (5, .read), (6, .read), (7, .read), (8, .read), (9, .read), (10, .read)] (by kernel_rfl) (by kernel_rfl) rfl ?_
            repeat' first | refine Y.st ?_ | (refine nw ?_; intro _) | refine Y.kn ?_ | (refine sp ?_ ?_ <;> intro _) | fail
            all_goals first | (exfalso; contradiction) | skip
            refine GQ.back ⟨m + 1, by omega, fun a ha => ?_⟩ (by simp only; omega) ⟨rfl, rfl, rfl, rfl, rfl, rfl, rfl, trivial⟩ (fun _ h => h)
            rcases Nat.lt_or_ge a m with h | h
            · exact hpm a h
            · obtain rfl : a = m := by omega
              exact he
        · obtain rfl : m = k := by omega
          repeat' first | refine Y.st ?_ | (refine nw ?_; intro _) | refine Y.kn ?_ | (refine sp ?_ ?_ <;> intro _) | fail
          refine GQ.back ⟨m + 1, by omega, fun b' hb' => ?_⟩ (by simp only; omega) ⟨rfl, rfl, rfl, rfl, rfl, rfl, trivial⟩ (fun _ h => h)
          rcases Nat.lt_or_ge b' m with h | h
          · exact hpw b' h
          · obtain rfl : b' = m := by omega
            exact hpm
      · repeat' first | refine Y.st ?_ | (refine nw ?_; intro _) | refine Y.kn ?_ | (refine sp ?_ ?_ <;> intro _) | fail
        all_goals first | (exfalso; exact hok ⟨by assumption, by assumption⟩) | exact GQ.done1 rfl rfl rfl
    · obtain rfl : k = l.length := by omega
      have hnd := nodup_pats hpw
      repeat' first | refine Y.st ?_ | (refine nw ?_; intro _) | refine Y.kn ?_ | fail
      refine GC.loopE (ι := { i : Nat × Heap × Heap // i.1 ≤ l.length ∧ TrieQ (addAll [] (l.take i.1)) bt i.2.1 ∧ TrieQ (addAll [] (l.reverse.take i.1)) bu i.2.2 })
        (fun i => [(11, .int .i64 (i.1.1 : Int))]) [(0, _), (1, _), (5, _), (7, _), (8, _)] (fun i => i.1.2.2 ++ (i.1.2.1 ++ [])) (fun i => l.length - i.1.1) ⟨(0, TH, UH), Nat.zero_le _, hT, hU⟩ ⟨rfl, rfl, rfl, rfl, rfl, rfl, trivial⟩ (fun _ h => h) ?_
      rintro ⟨⟨k, TH2, UH2⟩, hk, hT2, hU2⟩
      dsimp only [List.cons_append, List.nil_append] at hk hT2 hU2 ⊢
      by_cases hlt : k < l.length
      · obtain ⟨b, o, rfl, hcell⟩ := lies_all hat hlt
        haveI : LeN 1 l.length := ⟨by omega⟩
        haveI : LeN k (l.length - 1) := ⟨by omega⟩
        have hrs := hls _ (getD_mem hlt)
        have hrf := hfew _ (getD_mem hlt)
        have hrs2 := hls _ (getD_mem (rs := l) (i := l.length - 1 - k) (by omega))
        have hrf2 := hfew _ (getD_mem (rs := l) (i := l.length - 1 - k) (by omega))
        have hrc := hcell (UH2 ++ (TH2 ++ [])) k hlt
        repeat' first | refine Y.st ?_ | (refine nw ?_; intro _) | refine Y.kn ?_ | fail
        have qA : (UH2 ++ (TH2 ++ [])).Perm (TH2 ++ (UH2 ++ [])) := by exact permC
        refine G.ef rfl rfl rfl (Eff.callP (first := #[]) (captured := #[]) rfl rfl qA ((add_spec hv hT2 (l.getD k zeroR) hrs (by omega)).mono ?_))
        rintro v H' ⟨rfl, TH3, hT3, hp3⟩
        have qB : (TH3 ++ (UH2 ++ [])).Perm (UH2 ++ (TH3 ++ [])) := by exact permC
        refine G.heap ?_ (fun w hw => hw.perm (hp3.trans qB))
        have hrc2 := hcell (UH2 ++ (TH3 ++ [])) (l.length - 1 - k) (by omega)
        repeat' first | refine Y.st ?_ | (refine nw ?_; intro _) | refine Y.kn ?_ | fail
        refine G.ef rfl rfl rfl (Eff.callF rfl ((add_spec hv hU2 (l.getD (l.length - 1 - k) zeroR) hrs2 (by omega)).mono ?_))
        rintro v H' ⟨rfl, UH3, hU3, hp4⟩
        refine G.heap ?_ (fun w hw => hw.perm hp4)
        repeat' first | refine Y.st ?_ | (refine nw ?_; intro _) | refine Y.kn ?_ | fail
        rw [← take_succ_add _ _ hlt] at hT3
        rw [← rev_getD hlt, ← take_succ_add _ _ (by simpa using hlt)] at hU3
        exact GQ.back ⟨(k + 1, TH3, UH3), by omega, hT3, hU3⟩ (by simp only; omega) ⟨rfl, rfl, rfl, rfl, rfl, rfl, trivial⟩ (fun _ h => h)
      · obtain rfl : k = l.length := by omega
        rw [List.take_length] at hT2
        rw [List.take_of_length_le (by simp)] at hU2
        by_cases h200 : 200 < l.length
        · repeat' first | refine Y.st ?_ | (refine nw ?_; intro _) | refine Y.kn ?_ | (refine sp ?_ ?_ <;> intro _) | fail
          all_goals first | (exfalso; omega) | exact GQ.done1 rfl rfl rfl
        · have e1 : addAll [] l = l.filter (fun r => decide (rightL r = 0)) := by
            have := addAll_filter l [] (by simpa using hnd) (by simp; omega); simpa using this
          have e2 : addAll [] l.reverse = l.reverse.filter (fun r => decide (rightL r = 0)) := by
            have := addAll_filter l.reverse [] (by rw [List.nil_append, List.map_reverse]; exact (List.reverse_perm _).nodup_iff.2 hnd) (by simp; omega); simpa using this
          have hord := order (rs := addAll [] l) (rs' := addAll [] l.reverse) (addAll_fine fine_nil l) (fun r => by rw [e1, e2]; simp) (by rw [e1]; exact hnd.sublist (List.filter_sublist.map _)) host 1 []
          have hTf := addAll_fine fine_nil l
          have hTs : ∀ x ∈ addAll [] l, Sized x := fun x hx => by
            rcases addAll_mem hx with h | h
            · cases h
            · exact hls x h
          have hsz := pick_small hTs (b := findB (addAll [] l) host 1 []) (fun i hi => (find_lt hTf hi).1)
          obtain ⟨o1, o2⟩ := hord
          generalize hx : pickL (addAll [] l) (findB (addAll [] l) host 1 []) = x at *
          repeat' first | refine Y.st ?_ | (refine nw ?_; intro _) | refine Y.kn ?_ | (refine sp ?_ ?_ <;> intro _) | fail
          all_goals first | (exfalso; omega) | skip
          have qA : (UH2 ++ (TH2 ++ [])).Perm (TH2 ++ (UH2 ++ [])) := by exact permC
          refine G.ef rfl rfl rfl (Eff.callP (first := #[]) (captured := #[]) rfl rfl qA ((Find_spec hv hT2 host (by omega) 1 _ [] alpn_nil).mono ?_))
          rintro v H' ⟨rfl, rfl⟩
          rw [hx, show resV x = .tuple #[ruV x.1, .int .i64 (x.2.1 : Int), .bool x.2.2] from rfl]
          repeat' first | refine Y.st ?_ | (refine nw ?_; intro _) | refine Y.kn ?_ | fail
          rename_i b12
          have qC : ((b12, Obj.cells (ruA x.1) 31 (0, 0)) :: (TH2 ++ (UH2 ++ []))).Perm (UH2 ++ ((b12, Obj.cells (ruA x.1) 31 (0, 0)) :: (TH2 ++ []))) := by exact permC
          refine G.ef rfl rfl rfl (Eff.callP (first := #[]) (captured := #[]) rfl rfl qC ((Find_spec hv hU2 host (by omega) 1 _ [] alpn_nil).mono ?_))
          rintro v H' ⟨rfl, rfl⟩
          rw [show resV (pickL (addAll [] l.reverse) (findB (addAll [] l.reverse) host 1 [])) = .tuple #[ruV x.1, .int .i64 ((pickL (addAll [] l.reverse) (findB (addAll [] l.reverse) host 1 [])).2.1 : Int), .bool x.2.2] by unfold resV; rw [← o1, ← o2]]
          repeat' first | refine Y.st ?_ | (refine nw ?_; intro _) | refine Y.kn ?_ | fail
          refine G.rd (Rd.eqlRu x.1 x.1 rfl rfl hsz hsz) rfl rfl ?_
          rw [decide_eq_true rfl]
          repeat' first | refine Y.st ?_ | (refine nw ?_; intro _) | refine Y.kn ?_ | fail
          refine G.rd (Rd.eqlB rfl rfl) rfl rfl ?_
          rw [beq_self_eq_true]
          repeat' first | refine Y.st ?_ | (refine nw ?_; intro _) | refine Y.kn ?_ | fail
          exact GQ.done1 rfl rfl rfl
theorem TrieOrder_walk (W : World) (vts : List VT) (hv : Vars W) (h : VT.LiesEach Tryz.prog W [35, 9] vts) : T Tryz.prog W 7 (vts.map VT.val).toArray [] (fun v _ => v = .bool true) := by
  obtain ⟨v0, r, rfl, h0, h⟩ := lies_one h
  obtain ⟨v2, r, rfl, h2, h⟩ := lies_one h
  obtain rfl := lies_nil h
  obtain ⟨l, p, c, hls, hll, e0, hc, hat⟩ := lies_rulesAt h0
  obtain ⟨s, rfl, hl⟩ := Go.Own.Lies.str h2
  simp only [List.map_cons, List.map_nil, e0]
  exact TrieOrder_core W hv l hls hll p c hc hat s hl
end Go.Tri
namespace Go.Proofs.YtabkbpckehdiaaaGreatDoor.LTrieOrder
open Go.Own
theorem own : ownKnob Tryz.prog.godebug = none := by kernel_rfl
theorem reads (os : Os) {H : Type} (enc : TypeId × Value → H) : ∃ x, DataW.whole enc Tryz.prog ((laidWorld os).forCall (fun _ _ => 0) ⟨#[], #[.slice none 0 0, .string ⟨#[]⟩], []⟩).memory Tryz.f7.params.toList Rows.trieOrderSpec.vars false #[.slice none 0 0, .string ⟨#[]⟩].toList 8 = some x :=
  Option.isSome_iff_exists.1 (by kernel_rfl)
set_option maxRecDepth 100000 in
theorem lifted (os : Os) (started : os.Started) (H : Type) (enc : TypeId × Value → H) (F : Stop.Interp) :
    ReturnsInHanded {} Tryz.checked os 7 .any ((OpenSpec.ofChange Rows.trieOrderSpec).preRow enc Tryz.prog Tryz.f7 Rows.trieOrderRow.domain false Rows.trieOrderRow.laid) (((OpenSpec.ofChange Rows.trieOrderSpec).at F).post enc Tryz.prog Tryz.f7 false true false false) := by
  obtain ⟨x, hx⟩ := reads os enc
  exact law_laid (C := Tryz.checked) (D := 20) (tb := 4) own started (by kernel_rfl) Tryz.func7 rfl rfl Tryz.underlying4 (by kernel_rfl) (by kernel_rfl) (by kernel_rfl)
    (fun K ds h => by match ds, h with | [_, _], _ => rfl)
    (witness_row_atRef (enc := enc) (C := Tryz.checked) false (laidWorld os) #[.slice none 0 0, .string ⟨#[]⟩] rfl (laid_shaped1 os _) (laid_shaped2 os _) (by kernel_rfl)
      (OpenSpec.preRow_of_cond 8 hx (by kernel_rfl) (fun k hk => by cases hk) (by kernel_rfl) (laid_met os _)))
    (fun W vts hsh hL h => Go.Tri.TrieOrder_walk W vts (Go.Nam.vars_of hsh hL) (by rw [Tryz.params7] at h; exact h))
theorem said : Rows.TrieOrderSaid :=
  OpenClaim.holds_of_cond 7 Tryz.f7 rfl rfl rfl rfl rfl rfl rfl ⟨rfl, rfl, rfl, rfl, rfl⟩ rfl rfl rfl rfl rfl (by kernel_rfl) Tryz.func7 (by kernel_rfl)
    (of_decide_eq_true (by kernel_rfl)) (by unfold Func.isWrapper; first | (rw [if_pos (by decide +kernel)]; kernel_rfl) | (rw [if_neg (by decide +kernel)]; exact ⟨rfl, rfl⟩))
    (fun os started H enc _ F => by rw [OpenClaim.pre_eq_preRow]; exact lifted os started H enc F)
theorem plain (f : FuncId) (fn : Func) (hf : Tryz.pinned.checked.prog.funcNamed "hagioscope/hagioscopelaw18.TrieOrder" = some f) (hfn : Tryz.pinned.checked.prog.funcs[f]? = some fn) :
    true = Tryz.pinned.checked.prog.looks [] ∧ ∀ (j : Nat) t, fn.params[j]? = some t → Tryz.pinned.checked.prog.wantsStandIn t = false := by
  obtain rfl : f = 7 := Option.some.inj ((show Tryz.prog.funcNamed "hagioscope/hagioscopelaw18.TrieOrder" = some 7 by kernel_rfl).symm.trans hf) |>.symm
  obtain rfl : fn = Tryz.f7 := (Option.some.inj (Tryz.func7.symm.trans hfn)).symm
  refine ⟨by kernel_rfl, fun j t ht => ?_⟩
  have hall : Tryz.f7.params.toList.all (fun t => !Tryz.prog.wantsStandIn t) = true := by kernel_rfl
  have := List.all_eq_true.1 hall t (Array.mem_toList_iff.2 (Array.mem_of_getElem? ht))
  have h2 : Tryz.prog.wantsStandIn t = false := by simpa using this
  exact h2
end Go.Proofs.YtabkbpckehdiaaaGreatDoor.LTrieOrder
namespace Go.Proofs.YtabkbpckehdiaaaGreatDoor
/-- The law TrieOrder holds: its card. -/
theorem trieOrder_holds : Rows.TrieOrderCardSaid :=
  Claim7.holds_tied_plain_at .later [] _ _ _ _ LTrieOrder.said (fun _ h => by cases h) (by kernel_rfl) (fun _ h => by cases h) trieOrder_row_tie rfl ⟨rfl, rfl⟩ (by kernel_rfl) rfl LTrieOrder.plain (by kernel_rfl)
#print axioms trieOrder_holds
end Go.Proofs.YtabkbpckehdiaaaGreatDoor
