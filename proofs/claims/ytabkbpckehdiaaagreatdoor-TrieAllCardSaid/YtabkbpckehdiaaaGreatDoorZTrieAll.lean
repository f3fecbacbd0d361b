/-
  TrieAll: a rule for all counts just where no other one of its priority, or a greater one, does: of any rules of other patterns: no condition.
-/
import Derived.Test.YtabkbpckehdiaaaGreatDoorRows
import Derived.Test.YtabkbpckehdiaaaGreatDoorTie
import Derived.Test.YtabkbpckehdiaaaGreatDoorCards
import Derived.Test.YtabkbpckehdiaaaGreatDoorNam5
import Derived.Test.YtabkbpckehdiaaaGreatDoorGTc
import Derived.Test.YtabkbpckehdiaaaGreatDoorWit
import Derived.SevenTiedPlain
namespace Go.Tri
open Go.Own Go.Proofs Go.RowKit Go.Lib Go.Asc Go.Adr Go.Nam Go.Rfn
attribute [local irreducible] GC GQ G Rd Eff T
set_option maxRecDepth 20000
set_option maxHeartbeats 4000000
attribute [local irreducible] named patL matchL visL fitsL rightL countsL lessL fewL
theorem TrieAll_core (W : World) (hv : Vars W) (l : List Ru) (hls : ∀ r ∈ l, Sized r) (hll : l.length ≤ 140737488351232) (p : Option Addr) (c : Nat) (hc : l.length ≤ c) (hat : ∀ F, Go.Tri.Lies W F p (l.flatMap ruC))
    (r : Ru) (hs : Sized r) (host : Lab) (hl : host.length ≤ 140737488351232) (port : Int) : T Tryz.prog W 8 #[.slice p l.length c, ruV r, S host, .int .i64 port] [] (fun v _ => v = .bool true) := by
  refine T.intro (args := [_, _, _, _]) Tryz.func8 rfl Tryz.ntmps8 rfl ?_
  repeat' first | refine Y.st ?_ | (refine nw ?_; intro _) | refine Y.kn ?_ | fail
  rename_i b5
  refine G.ef rfl rfl rfl (Eff.callF rfl ((few_spec _ l ⟨p, c, rfl, hc, hat _⟩ hll).mono ?_))
  rintro v H' ⟨rfl, rfl⟩
  repeat' first | refine Y.st ?_ | (refine nw ?_; intro _) | refine Y.kn ?_ | fail
  refine G.ef rfl rfl rfl (Eff.callF rfl (new_spec.mono ?_))
  rintro v H' ⟨bt, TH, rfl, hT, rfl⟩
  repeat' first | refine Y.st ?_ | (refine nw ?_; intro _) | refine Y.kn ?_ | fail
  refine G.ef rfl rfl rfl (Eff.callF rfl (new_spec.mono ?_))
  rintro v H' ⟨bu, UH, rfl, hU, rfl⟩
  by_cases hbad : fewL l = false ∨ 150 < l.length ∨ 300 < host.length ∨ r.prio < -1000 ∨ 1000 < r.prio
  · cases hf : fewL l with
    | false =>
      repeat' first | refine Y.st ?_ | (refine nw ?_; intro _) | refine Y.kn ?_ | (refine sp ?_ ?_ <;> intro _) | fail
      all_goals first | (exfalso; omega) | exact GQ.done1 rfl rfl rfl
    | true =>
      rw [hf] at hbad
      simp only [Bool.true_eq_false, false_or] at hbad
      repeat' first | refine Y.st ?_ | (refine nw ?_; intro _) | refine Y.kn ?_ | (refine sp ?_ ?_ <;> intro _) | fail
      all_goals first | (exfalso; omega) | exact GQ.done1 rfl rfl rfl
  · simp only [not_or, Bool.not_eq_false] at hbad
    obtain ⟨hf, hb1, hb2, hb3, hb4⟩ := hbad
    obtain ⟨hl220, hfew⟩ := few_true hf
    repeat' first | refine Y.st ?_ | (refine nw ?_; intro _) | refine Y.kn ?_ | fail
    refine G.heap (H' := UH ++ (TH ++ [(b5, Obj.cells (ruA (starR r)) 31 (0, 0))])) ?_ (fun _ h => h)
    have hss : Sized (starR r) := ⟨hs.1, rfl, Nat.le_of_ble_eq_true rfl, Nat.zero_le _⟩
    have hstar : addL [] (starR r) = ([starR r], 0) := addL_star rfl (by show -1000 ≤ r.prio; omega) (by show r.prio ≤ 1000; omega) rfl rfl
    refine G.ef rfl rfl rfl (Eff.callF rfl ((add_spec hv hU (starR r) hss (by show (1 : Nat) < 4294967281; decide)).mono ?_))
    rintro v H' ⟨rfl, UH1, hU1, hp1⟩
    rw [hstar] at hU1
    refine G.heap ?_ (fun w hw => hw.perm hp1)
    repeat' first | refine Y.st ?_ | (refine nw ?_; intro _) | refine Y.kn ?_ | fail
    refine GC.loopE (ι := { i : Nat × Heap × Heap // i.1 ≤ l.length ∧ TrieQ (addAll [] (l.take i.1)) bt i.2.1 ∧ TrieQ (addAll [starR r] (l.take i.1)) bu i.2.2 ∧ ∀ m, m < i.1 → (l.getD m zeroR).pat ≠ [42] })
      (fun i => [(13, .int .i64 (i.1.1 : Int))]) [(0, _), (2, _), (3, _), (5, _), (9, _), (11, _), (12, _)] (fun i => i.1.2.2 ++ (i.1.2.1 ++ [(b5, Obj.cells (ruA (starR r)) 31 (0, 0))])) (fun i => l.length - i.1.1) ⟨(0, TH, UH1), Nat.zero_le _, hT, hU1, fun m h => by omega⟩ ⟨rfl, rfl, rfl, rfl, rfl, rfl, rfl, rfl, trivial⟩ (fun _ h => h) ?_
    rintro ⟨⟨k, TH2, UH2⟩, hk, hT2, hU2, hns⟩
    dsimp only [List.cons_append, List.nil_append] at hk hT2 hU2 hns ⊢
    by_cases hlt : k < l.length
    · obtain ⟨b, o, rfl, hcell⟩ := lies_all hat hlt
      have hrs := hls _ (getD_mem hlt)
      have hrf := hfew _ (getD_mem hlt)
      have hpc : ∀ w, Own W (UH2 ++ (TH2 ++ [(b5, Obj.cells (ruA (starR r)) 31 (0, 0))])) w → w.cell? ⟨b, o + k * 5 + 2, none⟩ = some (S (l.getD k zeroR).pat) := fun w hw => hcell _ k hlt w hw 2 _ rfl
      have hrc := hcell (UH2 ++ (TH2 ++ [(b5, Obj.cells (ruA (starR r)) 31 (0, 0))])) k hlt
      by_cases hst : (l.getD k zeroR).pat = [42]
      · repeat' first | refine Y.st ?_ | (refine nw ?_; intro _) | refine Y.kn ?_ | (refine sp ?_ ?_ <;> intro _) | fail
        exact GQ.done1 rfl rfl rfl
      · repeat' first | refine Y.st ?_ | (refine nw ?_; intro _) | refine Y.kn ?_ | fail
        have qA : (UH2 ++ (TH2 ++ [(b5, Obj.cells (ruA (starR r)) 31 (0, 0))])).Perm (TH2 ++ (UH2 ++ [(b5, Obj.cells (ruA (starR r)) 31 (0, 0))])) := by exact permC
        refine G.ef rfl rfl rfl (Eff.callP (first := #[]) (captured := #[]) rfl rfl qA ((add_spec hv hT2 (l.getD k zeroR) hrs (by omega)).mono ?_))
        rintro v H' ⟨rfl, TH3, hT3, hp3⟩
        have qB : (TH3 ++ (UH2 ++ [(b5, Obj.cells (ruA (starR r)) 31 (0, 0))])).Perm (UH2 ++ (TH3 ++ [(b5, Obj.cells (ruA (starR r)) 31 (0, 0))])) := by exact permC
        refine G.heap ?_ (fun w hw => hw.perm (hp3.trans qB))
        have hrc2 := hcell (UH2 ++ (TH3 ++ [(b5, Obj.cells (ruA (starR r)) 31 (0, 0))])) k hlt
        repeat' first | refine Y.st ?_ | (refine nw ?_; intro _) | refine Y.kn ?_ | fail
        refine G.ef rfl rfl rfl (Eff.callF rfl ((add_spec hv hU2 (l.getD k zeroR) hrs (by omega)).mono ?_))
        rintro v H' ⟨rfl, UH3, hU3, hp4⟩
        refine G.heap ?_ (fun w hw => hw.perm hp4)
        repeat' first | refine Y.st ?_ | (refine nw ?_; intro _) | refine Y.kn ?_ | fail
        rw [← take_succ_add _ _ hlt] at hT3 hU3
        refine GQ.back ⟨(k + 1, TH3, UH3), by omega, hT3, hU3, fun m hm => ?_⟩ (by simp only; omega) ⟨rfl, rfl, rfl, rfl, rfl, rfl, rfl, rfl, trivial⟩ (fun _ h => h)
        rcases Nat.lt_or_ge m k with h | h
        · exact hns m h
        · obtain rfl : m = k := by omega
          exact hst
    · obtain rfl : k = l.length := by omega
      rw [List.take_length] at hT2 hU2
      have hnst : ∀ x ∈ l, x.pat ≠ [42] := fun x hx => by obtain ⟨m, hm, rfl⟩ := mem_getD hx; exact hns m hm
      have hall : addAll [starR r] l = starR r :: addAll [] l := addAll_all l [] (starR r) hnst rfl (by simp; omega)
      rw [hall] at hU2
      have hTf := addAll_fine fine_nil l
      have hTs : ∀ x ∈ addAll [] l, Sized x := fun x hx => by
        rcases addAll_mem hx with h | h
        · cases h
        · exact hls x h
      have hTn := addAll_nostar l [] hnst (by simp)
      have hTl := addAll_len (rs := []) (by simp) l
      have hfu := all_find hTf hTn (r := starR r) rfl rfl rfl host port []
      generalize addAll [] l = rs at *
      repeat' first | refine Y.st ?_ | (refine nw ?_; intro _) | refine Y.kn ?_ | fail
      have qA : (UH2 ++ (TH2 ++ [(b5, Obj.cells (ruA (starR r)) 31 (0, 0))])).Perm (TH2 ++ (UH2 ++ [(b5, Obj.cells (ruA (starR r)) 31 (0, 0))])) := by exact permC
      refine G.ef rfl rfl rfl (Eff.callP (first := #[]) (captured := #[]) rfl rfl qA ((Find_spec hv hT2 host (by omega) port _ [] alpn_nil).mono ?_))
      rintro v H' ⟨rfl, rfl⟩
      cases hb : findB rs host port [] with
      | none =>
        rw [hb] at hfu
        simp only at hfu
        rw [show resV (pickL rs none) = .tuple #[ruV zeroR, .int .i64 0, .bool false] from rfl]
        repeat' first | refine Y.st ?_ | (refine nw ?_; intro _) | refine Y.kn ?_ | fail
        rename_i b14
        have qC : ((b14, Obj.cells (ruA zeroR) 31 (0, 0)) :: (TH2 ++ (UH2 ++ [(b5, Obj.cells (ruA (starR r)) 31 (0, 0))]))).Perm (UH2 ++ ((b14, Obj.cells (ruA zeroR) 31 (0, 0)) :: (TH2 ++ [(b5, Obj.cells (ruA (starR r)) 31 (0, 0))]))) := by exact permC
        refine G.ef rfl rfl rfl (Eff.callP (first := #[]) (captured := #[]) rfl rfl qC ((Find_spec hv hU2 host (by omega) port _ [] alpn_nil).mono ?_))
        rintro v H' ⟨rfl, rfl⟩
        rw [hfu, show resV (pickL (starR r :: rs) (some 0)) = .tuple #[ruV (starR r), .int .i64 0, .bool true] from rfl]
        repeat' first | refine Y.st ?_ | (refine nw ?_; intro _) | refine Y.kn ?_ | fail
        refine G.rd (Rd.eqlRu (starR r) (starR r) rfl rfl hss hss) rfl rfl ?_
        rw [decide_eq_true rfl]
        repeat' first | refine Y.st ?_ | (refine nw ?_; intro _) | refine Y.kn ?_ | fail
        exact GQ.done1 rfl rfl rfl
      | some i =>
        have hil := (find_lt hTf hb).1
        have hsi := hTs _ (getD_mem hil)
        rw [hb] at hfu
        simp only at hfu
        rw [show resV (pickL rs (some i)) = .tuple #[ruV (rs.getD i zeroR), .int .i64 (i : Int), .bool true] from rfl]
        repeat' first | refine Y.st ?_ | (refine nw ?_; intro _) | refine Y.kn ?_ | fail
        rename_i b14
        have qC : ((b14, Obj.cells (ruA (rs.getD i zeroR)) 31 (0, 0)) :: (TH2 ++ (UH2 ++ [(b5, Obj.cells (ruA (starR r)) 31 (0, 0))]))).Perm (UH2 ++ ((b14, Obj.cells (ruA (rs.getD i zeroR)) 31 (0, 0)) :: (TH2 ++ [(b5, Obj.cells (ruA (starR r)) 31 (0, 0))]))) := by exact permC
        refine G.ef rfl rfl rfl (Eff.callP (first := #[]) (captured := #[]) rfl rfl qC ((Find_spec hv hU2 host (by omega) port _ [] alpn_nil).mono ?_))
        rintro v H' ⟨rfl, rfl⟩
        by_cases hpp : (starR r).prio ≤ (rs.getD i zeroR).prio
        · rw [if_pos hpp] at hfu
          rw [hfu, show resV (pickL (starR r :: rs) (some (i + 1))) = .tuple #[ruV (rs.getD i zeroR), .int .i64 ((i + 1 : Nat) : Int), .bool true] from rfl]
          repeat' first | refine Y.st ?_ | (refine nw ?_; intro _) | refine Y.kn ?_ | fail
          refine G.rd (Rd.eqlRu (rs.getD i zeroR) (rs.getD i zeroR) rfl rfl hsi hsi) rfl rfl ?_
          rw [decide_eq_true rfl]
          repeat' first | refine Y.st ?_ | (refine nw ?_; intro _) | refine Y.kn ?_ | fail
          exact GQ.done1 rfl rfl rfl
        · rw [if_neg hpp] at hfu
          rw [hfu, show resV (pickL (starR r :: rs) (some 0)) = .tuple #[ruV (starR r), .int .i64 0, .bool true] from rfl]
          repeat' first | refine Y.st ?_ | (refine nw ?_; intro _) | refine Y.kn ?_ | fail
          refine G.rd (Rd.eqlRu (starR r) (starR r) rfl rfl hss hss) rfl rfl ?_
          rw [decide_eq_true rfl]
          repeat' first | refine Y.st ?_ | (refine nw ?_; intro _) | refine Y.kn ?_ | fail
          exact GQ.done1 rfl rfl rfl
theorem TrieAll_walk (W : World) (vts : List VT) (hv : Vars W) (h : VT.LiesEach Tryz.prog W [35, 31, 9, 3] vts) : T Tryz.prog W 8 (vts.map VT.val).toArray [] (fun v _ => v = .bool true) := by
  obtain ⟨v0, r, rfl, h0, h⟩ := lies_one h
  obtain ⟨v1, r, rfl, h1, h⟩ := lies_one h
  obtain ⟨v2, r, rfl, h2, h⟩ := lies_one h
  obtain ⟨v3, r, rfl, h3, h⟩ := lies_one h
  obtain rfl := lies_nil h
  obtain ⟨l, p, c, hls, hll, e0, hc, hat⟩ := lies_rulesAt h0
  obtain ⟨ru, e1, _, hs⟩ := lies_rule h1
  obtain ⟨s, rfl, hl⟩ := Go.Own.Lies.str h2
  obtain ⟨n, rfl, _⟩ := Go.Own.Lies.int h3
  simp only [List.map_cons, List.map_nil, e0, e1]
  exact TrieAll_core W hv l hls hll p c hc hat ru hs s hl n
end Go.Tri
namespace Go.Proofs.YtabkbpckehdiaaaGreatDoor.LTrieAll
open Go.Own
theorem own : ownKnob Tryz.prog.godebug = none := by kernel_rfl
theorem reads (os : Os) {H : Type} (enc : TypeId × Value → H) : ∃ x, DataW.whole enc Tryz.prog ((laidWorld os).forCall (fun _ _ => 0) ⟨#[], #[.slice none 0 0, .agg #[.bool false, .int .i64 0, .string ⟨#[]⟩, .int .i64 0, .string ⟨#[]⟩], .string ⟨#[]⟩, .int .i64 0], []⟩).memory Tryz.f8.params.toList Rows.trieAllSpec.vars false #[.slice none 0 0, .agg #[.bool false, .int .i64 0, .string ⟨#[]⟩, .int .i64 0, .string ⟨#[]⟩], .string ⟨#[]⟩, .int .i64 0].toList 8 = some x :=
  Option.isSome_iff_exists.1 (by kernel_rfl)
set_option maxRecDepth 100000 in
theorem lifted (os : Os) (started : os.Started) (H : Type) (enc : TypeId × Value → H) (F : Stop.Interp) :
    ReturnsInHanded {} Tryz.checked os 8 .any ((OpenSpec.ofChange Rows.trieAllSpec).preRow enc Tryz.prog Tryz.f8 Rows.trieAllRow.domain false Rows.trieAllRow.laid) (((OpenSpec.ofChange Rows.trieAllSpec).at F).post enc Tryz.prog Tryz.f8 false true false false) := by
  obtain ⟨x, hx⟩ := reads os enc
  exact law_laid (C := Tryz.checked) (D := 20) (tb := 4) own started (by kernel_rfl) Tryz.func8 rfl rfl Tryz.underlying4 (by kernel_rfl) (by kernel_rfl) (by kernel_rfl)
    (fun K ds h => by match ds, h with | [_, _, _, _], _ => rfl)
    (witness_row_atRef (enc := enc) (C := Tryz.checked) false (laidWorld os) #[.slice none 0 0, .agg #[.bool false, .int .i64 0, .string ⟨#[]⟩, .int .i64 0, .string ⟨#[]⟩], .string ⟨#[]⟩, .int .i64 0] rfl (laid_shaped1 os _) (laid_shaped2 os _) (by kernel_rfl)
      (OpenSpec.preRow_of_cond 8 hx (by kernel_rfl) (fun k hk => by cases hk) (by kernel_rfl) (laid_met os _)))
    (fun W vts hsh hL h => Go.Tri.TrieAll_walk W vts (Go.Nam.vars_of hsh hL) (by rw [Tryz.params8] at h; exact h))
theorem said : Rows.TrieAllSaid :=
  OpenClaim.holds_of_cond 8 Tryz.f8 rfl rfl rfl rfl rfl rfl rfl ⟨rfl, rfl, rfl, rfl, rfl⟩ rfl rfl rfl rfl rfl (by kernel_rfl) Tryz.func8 (by kernel_rfl)
    (of_decide_eq_true (by kernel_rfl)) (by unfold Func.isWrapper; first | (rw [if_pos (by decide +kernel)]; kernel_rfl) | (rw [if_neg (by decide +kernel)]; exact ⟨rfl, rfl⟩))
    (fun os started H enc _ F => by rw [OpenClaim.pre_eq_preRow]; exact lifted os started H enc F)
theorem plain (f : FuncId) (fn : Func) (hf : Tryz.pinned.checked.prog.funcNamed "hagioscope/hagioscopelaw18.TrieAll" = some f) (hfn : Tryz.pinned.checked.prog.funcs[f]? = some fn) :
    true = Tryz.pinned.checked.prog.looks [] ∧ ∀ (j : Nat) t, fn.params[j]? = some t → Tryz.pinned.checked.prog.wantsStandIn t = false := by
  obtain rfl : f = 8 := Option.some.inj ((show Tryz.prog.funcNamed "hagioscope/hagioscopelaw18.TrieAll" = some 8 by kernel_rfl).symm.trans hf) |>.symm
  obtain rfl : fn = Tryz.f8 := (Option.some.inj (Tryz.func8.symm.trans hfn)).symm
  refine ⟨by kernel_rfl, fun j t ht => ?_⟩
  have hall : Tryz.f8.params.toList.all (fun t => !Tryz.prog.wantsStandIn t) = true := by kernel_rfl
  have := List.all_eq_true.1 hall t (Array.mem_toList_iff.2 (Array.mem_of_getElem? ht))
  have h2 : Tryz.prog.wantsStandIn t = false := by simpa using this
  exact h2
end Go.Proofs.YtabkbpckehdiaaaGreatDoor.LTrieAll
namespace Go.Proofs.YtabkbpckehdiaaaGreatDoor
/-- The law TrieAll holds: its card. -/
theorem trieAll_holds : Rows.TrieAllCardSaid :=
  Claim7.holds_tied_plain_at .later [] _ _ _ _ LTrieAll.said (fun _ h => by cases h) (by kernel_rfl) (fun _ h => by cases h) trieAll_row_tie rfl ⟨rfl, rfl⟩ (by kernel_rfl) rfl LTrieAll.plain (by kernel_rfl)
#print axioms trieAll_holds
end Go.Proofs.YtabkbpckehdiaaaGreatDoor
