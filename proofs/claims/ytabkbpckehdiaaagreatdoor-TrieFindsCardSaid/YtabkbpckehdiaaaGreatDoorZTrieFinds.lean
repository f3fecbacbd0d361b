/-
  TrieFinds: a rule that is found matches, and none that does counts more: of any rules, any host: no condition.
-/
import Derived.Test.YtabkbpckehdiaaaGreatDoorRows
import Derived.Test.YtabkbpckehdiaaaGreatDoorTie
import Derived.Test.YtabkbpckehdiaaaGreatDoorCards
import Derived.Test.YtabkbpckehdiaaaGreatDoorNam5
import Derived.Test.YtabkbpckehdiaaaGreatDoorGTc
import Derived.Test.YtabkbpckehdiaaaGreatDoorWit
import Derived.SevenTiedPlain
namespace Go.Tri
open Go.Own Go.Proofs Go.RowKit Go.Lib Go.Asc Go.Adr Go.Nam Go.Rfn
attribute [local irreducible] GC GQ G Rd Eff T
set_option maxRecDepth 20000
set_option maxHeartbeats 4000000
attribute [local irreducible] named patL matchL visL fitsL rightL countsL lessL fewL
theorem TrieFinds_core (W : World) (hv : Vars W) (l : List Ru) (hls : ∀ r ∈ l, Sized r) (hll : l.length ≤ 140737488351232) (p : Option Addr) (c : Nat) (hc : l.length ≤ c) (hat : ∀ F, Go.Tri.Lies W F p (l.flatMap ruC))
    (host : Lab) (hl : host.length ≤ 140737488351232) (port : Int) (alpn : List Lab) (pa : Option Addr) (ca : Nat) (hca : alpn.length ≤ ca) (hla : alpn.length ≤ 140737488351232) (hata : ∀ F, Go.Tri.Lies W F pa (strs alpn)) :
    T Tryz.prog W 6 #[.slice p l.length c, S host, .int .i64 port, .slice pa alpn.length ca] [] (fun v _ => v = .bool true) := by
  refine T.intro (args := [_, _, _, _]) Tryz.func6 rfl Tryz.ntmps6 rfl ?_
  repeat' first | refine Y.st ?_ | (refine nw ?_; intro _) | refine Y.kn ?_ | fail
  refine G.ef rfl rfl rfl (Eff.callF rfl ((few_spec _ l ⟨p, c, rfl, hc, hat _⟩ hll).mono ?_))
  rintro v H' ⟨rfl, rfl⟩
  repeat' first | refine Y.st ?_ | (refine nw ?_; intro _) | refine Y.kn ?_ | fail
  refine G.ef rfl rfl rfl (Eff.callF rfl (new_spec.mono ?_))
  rintro v H' ⟨bt, TH, rfl, hT, rfl⟩
  by_cases hbad : fewL l = false ∨ ¬ alpn.length ≤ 20 ∨ 300 < host.length
  · cases hf : fewL l with
    | false =>
      repeat' first | refine Y.st ?_ | (refine nw ?_; intro _) | refine Y.kn ?_ | (refine sp ?_ ?_ <;> intro _) | fail
      all_goals first | (exfalso; omega) | exact GQ.done1 rfl rfl rfl
    | true =>
      rw [hf] at hbad
      simp only [Bool.true_eq_false, false_or] at hbad
      repeat' first | refine Y.st ?_ | (refine nw ?_; intro _) | refine Y.kn ?_ | (refine sp ?_ ?_ <;> intro _) | fail
      all_goals first | (exfalso; omega) | exact GQ.done1 rfl rfl rfl
  · simp only [not_or, Bool.not_eq_false, Classical.not_not] at hbad
    obtain ⟨hf, hb0, hb1⟩ := hbad
    obtain ⟨hl220, hfew⟩ := few_true hf
    repeat' first | refine Y.st ?_ | (refine nw ?_; intro _) | refine Y.kn ?_ | fail
    refine GC.loopE (ι := { i : Nat × Heap // i.1 ≤ l.length ∧ TrieQ (addAll [] (l.take i.1)) bt i.2 })
      (fun i => [(13, .int .i64 (i.1.1 : Int))]) [(0, _), (1, _), (2, _), (3, _), (9, _), (12, _)] (fun i => i.1.2 ++ []) (fun i => l.length - i.1.1) ⟨(0, TH), Nat.zero_le _, hT⟩ ⟨rfl, rfl, rfl, rfl, rfl, rfl, rfl, trivial⟩ (fun _ h => h) ?_
    rintro ⟨⟨k, TH2⟩, hk, hT2⟩
    dsimp only [List.cons_append, List.nil_append] at hk hT2 ⊢
    by_cases hlt : k < l.length
    · obtain ⟨b, o, rfl, hcell⟩ := lies_all hat hlt
      have hrs := hls _ (getD_mem hlt)
      have hrf := hfew _ (getD_mem hlt)
      have hrc := hcell (TH2 ++ []) k hlt
      repeat' first | refine Y.st ?_ | (refine nw ?_; intro _) | refine Y.kn ?_ | fail
      refine G.ef rfl rfl rfl (Eff.callF rfl ((add_spec hv hT2 (l.getD k zeroR) hrs (by omega)).mono ?_))
      rintro v H' ⟨rfl, TH3, hT3, hp3⟩
      refine G.heap ?_ (fun w hw => hw.perm hp3)
      repeat' first | refine Y.st ?_ | (refine nw ?_; intro _) | refine Y.kn ?_ | fail
      rw [← take_succ_add _ _ hlt] at hT3
      exact GQ.back ⟨(k + 1, TH3), by omega, hT3⟩ (by simp only; omega) ⟨rfl, rfl, rfl, rfl, rfl, rfl, rfl, trivial⟩ (fun _ h => h)
    · obtain rfl : k = l.length := by omega
      rw [List.take_length] at hT2
      have hTf := addAll_fine fine_nil l
      have hTs : ∀ x ∈ addAll [] l, Sized x ∧ x.pat.length ≤ 300 := fun x hx => by
        rcases addAll_mem hx with h | h
        · cases h
        · exact ⟨hls x h, (hfew x h).1⟩
      have hTl := addAll_len (rs := []) (by simp) l
      generalize addAll [] l = rs at *
      have hsz := pick_small (fun x hx => (hTs x hx).1) (b := findB rs host port alpn) (fun i hi => (find_lt hTf hi).1)
      have hal : AlpnAt W [] (.slice pa alpn.length ca) alpn := ⟨⟨pa, ca, rfl, hca, hata _⟩, by omega⟩
      repeat' first | refine Y.st ?_ | (refine nw ?_; intro _) | refine Y.kn ?_ | fail
      refine G.ef rfl rfl rfl (Eff.callF rfl ((Find_spec hv hT2 host (by omega) port _ alpn hal).mono ?_))
      rintro v H' ⟨rfl, rfl⟩
      rw [show resV (pickL rs (findB rs host port alpn)) = .tuple #[ruV (pickL rs (findB rs host port alpn)).1, .int .i64 ((pickL rs (findB rs host port alpn)).2.1 : Int), .bool (pickL rs (findB rs host port alpn)).2.2] from rfl]
      repeat' first | refine Y.st ?_ | (refine nw ?_; intro _) | refine Y.kn ?_ | fail
      rename_i b14
      have qC : ((b14, Obj.cells (ruA (pickL rs (findB rs host port alpn)).1) 31 (0, 0)) :: (TH2 ++ [])).Perm (TH2 ++ [(b14, Obj.cells (ruA (pickL rs (findB rs host port alpn)).1) 31 (0, 0))]) := by exact permC
      refine G.ef rfl rfl rfl (Eff.callP (first := #[]) (captured := #[]) rfl rfl qC ((ruless_spec hT2).mono ?_))
      rintro v H' ⟨B', hbB, rfl⟩
      obtain ⟨q, qc, rfl, hqc, hqat⟩ := Buf.see hbB
      have hallL : Go.Tri.Lies W (B' ++ (TH2 ++ [(b14, Obj.cells (ruA (pickL rs (findB rs host port alpn)).1) 31 (0, 0))])) q (rs.flatMap ruC) := ((hqat W).app (TH2 ++ [(b14, Obj.cells (ruA (pickL rs (findB rs host port alpn)).1) 31 (0, 0))])).perm (by exact permC)
      -- the found one stands where it is said to
      iterate 3 refine Y.one ?_
      refine GC.cutE (ι := Unit) (fun _ => []) [(1, S host), (2, .int .i64 port), (3, .slice pa alpn.length ca), (9, .bool true), (14, .pointer (some ⟨b14, 0, none⟩)), (15, .int .i64 ((pickL rs (findB rs host port alpn)).2.1 : Int)), (16, .bool (pickL rs (findB rs host port alpn)).2.2), (17, .slice q rs.length qc)]
        (fun _ => B' ++ (TH2 ++ [(b14, Obj.cells (ruA (pickL rs (findB rs host port alpn)).1) 31 (0, 0))])) ?_ ?_
      · cases hb : findB rs host port alpn with
        | none =>
          dsimp only [pickL]
          refine GC.seq ?_
          refine GC.drawnH [(0, .read), (1, .read), (2, .read), (3, .read), (4, .read), (5, .read), (6, .read), (7, .read), (8, .read), (9, .read), (10, .read), (11, .read), (12, .read), (13, .read), (14, .read), (15, .read), (16, .read), (17, .read), (18, .read)] (by kernel_rfl) (by kernel_rfl) rfl ?_
          repeat' first | refine Y.st ?_ | (refine nw ?_; intro _) | refine Y.kn ?_ | (refine sp ?_ ?_ <;> intro _) | fail
          exact GQ.cutEnd () ⟨rfl, rfl, rfl, rfl, rfl, rfl, rfl, rfl, trivial⟩ (fun _ h => h)
        | some i =>
          have hil := (find_lt hTf hb).1
          rw [hb] at hallL hsz
          obtain ⟨qb, qo, rfl, hcq⟩ := lies_get hallL hil
          have hci := hcq i hil
          dsimp only [pickL] at hci hsz ⊢
          refine GC.seq ?_
          refine GC.drawnH [(0, .read), (1, .read), (2, .read), (3, .read), (4, .read), (5, .read), (6, .read), (7, .read), (8, .read), (9, .read), (10, .read), (11, .read), (12, .read), (13, .read), (14, .read), (15, .read), (16, .read), (17, .read), (18, .read)] (by kernel_rfl) (by kernel_rfl) rfl ?_
          repeat' first | refine Y.st ?_ | (refine nw ?_; intro _) | refine Y.kn ?_ | fail
          refine G.rd (Rd.neqRu (rs.getD i zeroR) (rs.getD i zeroR) rfl rfl hsz hsz) rfl rfl ?_
          rw [decide_eq_true rfl, show (!true) = false from rfl]
          repeat' first | refine Y.st ?_ | (refine nw ?_; intro _) | refine Y.kn ?_ | (refine sp ?_ ?_ <;> intro _) | fail
          exact GQ.cutEnd () ⟨rfl, rfl, rfl, rfl, rfl, rfl, rfl, rfl, trivial⟩ (fun _ h => h)
      rintro ⟨⟩
      dsimp only [List.cons_append, List.nil_append]
      repeat' first | refine Y.st ?_ | (refine nw ?_; intro _) | refine Y.kn ?_ | fail
      refine GC.loopE (ι := { k : Nat // k ≤ rs.length }) (fun i => [(18, .int .i64 (i.1 : Int))]) [(1, _), (2, _), (3, _), (9, _), (14, _), (15, _), (16, _), (17, _)] (fun _ => (B' ++ (TH2 ++ [(b14, Obj.cells (ruA (pickL rs (findB rs host port alpn)).1) 31 (0, 0))]))) (fun i => rs.length - i.1) ⟨0, Nat.zero_le _⟩ ⟨rfl, rfl, rfl, rfl, rfl, rfl, rfl, rfl, rfl, trivial⟩ (fun _ h => h) ?_
      rintro ⟨k, hk⟩
      dsimp only [List.cons_append, List.nil_append] at hk ⊢
      by_cases hlt : k < rs.length
      · obtain ⟨qb, qo, rfl, hcq⟩ := lies_get hallL hlt
        have hck := hcq k hlt
        have hxs := hTs _ (getD_mem hlt)
        repeat' first | refine Y.st ?_ | (refine nw ?_; intro _) | refine Y.kn ?_ | fail
        rename_i b19
        refine GC.loopE (ι := { m : Nat // m ≤ alpn.length }) (fun i => [(20, .bool (decide ((rs.getD k zeroR).alpn = []) || (alpn.take i.1).contains (rs.getD k zeroR).alpn)), (21, .int .i64 (i.1 : Int))]) [(1, _), (2, _), (3, _), (9, _), (14, _), (15, _), (16, _), (17, _), (18, _), (19, _)]
          (fun _ => (b19, Obj.cells (ruA (rs.getD k zeroR)) 31 (0, 0)) :: (B' ++ (TH2 ++ [(b14, Obj.cells (ruA (pickL rs (findB rs host port alpn)).1) 31 (0, 0))]))) (fun i => alpn.length - i.1) ⟨0, Nat.zero_le _⟩ ⟨(by first | rfl | (rw [show (decide ((rs.getD k zeroR).alpn = []) || (alpn.take 0).contains (rs.getD k zeroR).alpn) = decide ((rs.getD k zeroR).alpn = []) by simp]; rfl)), (by first | rfl | (rw [show (decide ((rs.getD k zeroR).alpn = []) || (alpn.take 0).contains (rs.getD k zeroR).alpn) = decide ((rs.getD k zeroR).alpn = []) by simp]; rfl)), (by first | rfl | (rw [show (decide ((rs.getD k zeroR).alpn = []) || (alpn.take 0).contains (rs.getD k zeroR).alpn) = decide ((rs.getD k zeroR).alpn = []) by simp]; rfl)), (by first | rfl | (rw [show (decide ((rs.getD k zeroR).alpn = []) || (alpn.take 0).contains (rs.getD k zeroR).alpn) = decide ((rs.getD k zeroR).alpn = []) by simp]; rfl)), (by first | rfl | (rw [show (decide ((rs.getD k zeroR).alpn = []) || (alpn.take 0).contains (rs.getD k zeroR).alpn) = decide ((rs.getD k zeroR).alpn = []) by simp]; rfl)), (by first | rfl | (rw [show (decide ((rs.getD k zeroR).alpn = []) || (alpn.take 0).contains (rs.getD k zeroR).alpn) = decide ((rs.getD k zeroR).alpn = []) by simp]; rfl)), (by first | rfl | (rw [show (decide ((rs.getD k zeroR).alpn = []) || (alpn.take 0).contains (rs.getD k zeroR).alpn) = decide ((rs.getD k zeroR).alpn = []) by simp]; rfl)), (by first | rfl | (rw [show (decide ((rs.getD k zeroR).alpn = []) || (alpn.take 0).contains (rs.getD k zeroR).alpn) = decide ((rs.getD k zeroR).alpn = []) by simp]; rfl)), (by first | rfl | (rw [show (decide ((rs.getD k zeroR).alpn = []) || (alpn.take 0).contains (rs.getD k zeroR).alpn) = decide ((rs.getD k zeroR).alpn = []) by simp]; rfl)), (by first | rfl | (rw [show (decide ((rs.getD k zeroR).alpn = []) || (alpn.take 0).contains (rs.getD k zeroR).alpn) = decide ((rs.getD k zeroR).alpn = []) by simp]; rfl)), (by first | rfl | (rw [show (decide ((rs.getD k zeroR).alpn = []) || (alpn.take 0).contains (rs.getD k zeroR).alpn) = decide ((rs.getD k zeroR).alpn = []) by simp]; rfl)), (by first | rfl | (rw [show (decide ((rs.getD k zeroR).alpn = []) || (alpn.take 0).contains (rs.getD k zeroR).alpn) = decide ((rs.getD k zeroR).alpn = []) by simp]; rfl)), trivial⟩ (fun _ h => h) ?_
        rintro ⟨m, hm⟩
        dsimp only [List.cons_append, List.nil_append] at hm ⊢
        by_cases hlm : m < alpn.length
        · rcases hata ((b19, Obj.cells (ruA (rs.getD k zeroR)) 31 (0, 0)) :: (B' ++ (TH2 ++ [(b14, Obj.cells (ruA (pickL rs (findB rs host port alpn)).1) 31 (0, 0))]))) with h0 | ⟨ab, ao, rfl, hatm⟩
          · have := congrArg List.length h0; rw [strs_length] at this; simp only [List.length_nil] at this; omega
          have hcell : ∀ w, Own W ((b19, Obj.cells (ruA (rs.getD k zeroR)) 31 (0, 0)) :: (B' ++ (TH2 ++ [(b14, Obj.cells (ruA (pickL rs (findB rs host port alpn)).1) 31 (0, 0))]))) w → w.cell? ⟨ab, ao + m * 1, none⟩ = some (S alpn[m]) := fun w hw => by
            have := hatm.here hw m (S alpn[m]) (by simp [strs, hlm])
            rw [Nat.mul_one]; exact this
          have hnext : (decide ((rs.getD k zeroR).alpn = []) || (alpn.take (m + 1)).contains (rs.getD k zeroR).alpn) = ((decide ((rs.getD k zeroR).alpn = []) || (alpn.take m).contains (rs.getD k zeroR).alpn) || decide (alpn[m] = (rs.getD k zeroR).alpn)) := by
            rw [List.take_succ_eq_append_getElem hlm, Bool.eq_iff_iff]
            simp only [List.contains_eq_mem, List.mem_append, List.mem_singleton, Bool.or_eq_true, decide_eq_true_eq]
            constructor
            · rintro (h | h | h)
              · exact .inl (.inl h)
              · exact .inl (.inr h)
              · exact .inr h.symm
            · rintro ((h | h) | h)
              · exact .inl h
              · exact .inr (.inl h)
              · exact .inr (.inr h.symm)
          cases hb9 : (decide ((rs.getD k zeroR).alpn = []) || (alpn.take m).contains (rs.getD k zeroR).alpn) with
          | true =>
            repeat' first | refine Y.st ?_ | (refine nw ?_; intro _) | refine Y.kn ?_ | fail
            refine GC.drawnH [(0, .read), (1, .read), (2, .read), (3, .read), (4, .read), (5, .read), (6, .read), (7, .read), (8, .read), (9, .read), (10, .read)] (by kernel_rfl) (by kernel_rfl) rfl ?_
            repeat' first | refine Y.st ?_ | (refine nw ?_; intro _) | refine Y.kn ?_ | (refine sp ?_ ?_ <;> intro _) | fail
            exact GQ.back ⟨m + 1, by omega⟩ (by simp only; omega) ⟨(by first | rfl | (dsimp only; rw [hnext, hb9]; rfl)), (by first | rfl | (dsimp only; rw [hnext, hb9]; rfl)), (by first | rfl | (dsimp only; rw [hnext, hb9]; rfl)), (by first | rfl | (dsimp only; rw [hnext, hb9]; rfl)), (by first | rfl | (dsimp only; rw [hnext, hb9]; rfl)), (by first | rfl | (dsimp only; rw [hnext, hb9]; rfl)), (by first | rfl | (dsimp only; rw [hnext, hb9]; rfl)), (by first | rfl | (dsimp only; rw [hnext, hb9]; rfl)), (by first | rfl | (dsimp only; rw [hnext, hb9]; rfl)), (by first | rfl | (dsimp only; rw [hnext, hb9]; rfl)), (by first | rfl | (dsimp only; rw [hnext, hb9]; rfl)), (by first | rfl | (dsimp only; rw [hnext, hb9]; rfl)), trivial⟩ (fun _ h => h)
          | false =>
            repeat' first | refine Y.st ?_ | (refine nw ?_; intro _) | refine Y.kn ?_ | fail
            refine GC.drawnH [(0, .read), (1, .read), (2, .read), (3, .read), (4, .read), (5, .read), (6, .read), (7, .read), (8, .read), (9, .read), (10, .read)] (by kernel_rfl) (by kernel_rfl) rfl ?_
            repeat' first | refine Y.st ?_ | (refine nw ?_; intro _) | refine Y.kn ?_ | (refine sp ?_ ?_ <;> intro _) | fail
            exact GQ.back ⟨m + 1, by omega⟩ (by simp only; omega) ⟨(by first | rfl | (dsimp only; rw [hnext, hb9]; rfl)), (by first | rfl | (dsimp only; rw [hnext, hb9]; rfl)), (by first | rfl | (dsimp only; rw [hnext, hb9]; rfl)), (by first | rfl | (dsimp only; rw [hnext, hb9]; rfl)), (by first | rfl | (dsimp only; rw [hnext, hb9]; rfl)), (by first | rfl | (dsimp only; rw [hnext, hb9]; rfl)), (by first | rfl | (dsimp only; rw [hnext, hb9]; rfl)), (by first | rfl | (dsimp only; rw [hnext, hb9]; rfl)), (by first | rfl | (dsimp only; rw [hnext, hb9]; rfl)), (by first | rfl | (dsimp only; rw [hnext, hb9]; rfl)), (by first | rfl | (dsimp only; rw [hnext, hb9]; rfl)), (by first | rfl | (dsimp only; rw [hnext, hb9]; rfl)), trivial⟩ (fun _ h => h)
        · obtain rfl : m = alpn.length := by omega
          rw [List.take_length]
          iterate 15 refine Y.one ?_
          have hcl : countsL (rs.getD k zeroR) host port alpn = (matchL (rs.getD k zeroR).pat host && (decide ((rs.getD k zeroR).port = 0) || decide ((rs.getD k zeroR).port = port)) && (decide ((rs.getD k zeroR).alpn = []) || alpn.contains (rs.getD k zeroR).alpn)) := by
            unfold countsL fitsL
            cases matchL (rs.getD k zeroR).pat host <;> cases (decide ((rs.getD k zeroR).alpn = []) || alpn.contains (rs.getD k zeroR).alpn) <;> cases (decide ((rs.getD k zeroR).port = 0) || decide ((rs.getD k zeroR).port = port)) <;> rfl
          refine GC.cutE (ι := Unit) (fun _ => [(22, .bool (countsL (rs.getD k zeroR) host port alpn))]) [(1, S host), (2, .int .i64 port), (3, .slice pa alpn.length ca), (9, .bool true), (14, .pointer (some ⟨b14, 0, none⟩)), (15, .int .i64 ((pickL rs (findB rs host port alpn)).2.1 : Int)), (16, .bool (pickL rs (findB rs host port alpn)).2.2), (17, .slice (some ⟨qb, qo, none⟩) rs.length qc), (18, .int .i64 (k : Int)), (19, .pointer (some ⟨b19, 0, none⟩))]
            (fun _ => (b19, Obj.cells (ruA (rs.getD k zeroR)) 31 (0, 0)) :: (B' ++ (TH2 ++ [(b14, Obj.cells (ruA (pickL rs (findB rs host port alpn)).1) 31 (0, 0))]))) ?_ ?_
          · rw [hcl]
            by_cases hp : (rs.getD k zeroR).port = 0 ∨ (rs.getD k zeroR).port = port
            · have hp' : (decide ((rs.getD k zeroR).port = 0) || decide ((rs.getD k zeroR).port = port)) = true := by simpa using hp
              rw [hp']
              cases hcm : matchL (rs.getD k zeroR).pat host <;> cases hco : (decide ((rs.getD k zeroR).alpn = []) || alpn.contains (rs.getD k zeroR).alpn) <;> (repeat' first | refine Y.st ?_ | (refine nw ?_; intro _) | refine Y.kn ?_ | (refine sp ?_ ?_ <;> intro _) | fail) <;> first | (exfalso; omega) | exact GQ.cutEnd () ⟨rfl, rfl, rfl, rfl, rfl, rfl, rfl, rfl, rfl, rfl, rfl, trivial⟩ (fun _ h => h)
            · have hp' : (decide ((rs.getD k zeroR).port = 0) || decide ((rs.getD k zeroR).port = port)) = false := by simpa using hp
              rw [hp']
              cases hcm : matchL (rs.getD k zeroR).pat host <;> cases hco : (decide ((rs.getD k zeroR).alpn = []) || alpn.contains (rs.getD k zeroR).alpn) <;> (repeat' first | refine Y.st ?_ | (refine nw ?_; intro _) | refine Y.kn ?_ | (refine sp ?_ ?_ <;> intro _) | fail) <;> first | (exfalso; omega) | exact GQ.cutEnd () ⟨rfl, rfl, rfl, rfl, rfl, rfl, rfl, rfl, rfl, rfl, rfl, trivial⟩ (fun _ h => h)
          rintro ⟨⟩
          dsimp only [List.cons_append, List.nil_append]
          have hback : ∀ w, Own W ((b19, Obj.cells (ruA (rs.getD k zeroR)) 31 (0, 0)) :: (B' ++ (TH2 ++ [(b14, Obj.cells (ruA (pickL rs (findB rs host port alpn)).1) 31 (0, 0))]))) w → Own W (B' ++ (TH2 ++ [(b14, Obj.cells (ruA (pickL rs (findB rs host port alpn)).1) 31 (0, 0))])) w := fun w hw => hw.sub (List.sublist_cons_self _ _)
          cases hcn : countsL (rs.getD k zeroR) host port alpn with
          | true =>
            obtain ⟨i, hb, hle, heq⟩ := finds hTf host port alpn hlt hcn
            have hil := (find_lt hTf hb).1
            have has := hTs _ (getD_mem hil)
            rw [hb] at hback ⊢
            dsimp only [pickL] at hback ⊢
            by_cases hpe : (rs.getD k zeroR).prio = (rs.getD i zeroR).prio
            · obtain ⟨hlen, hidx⟩ := heq hpe
              have hlen2 := has.2
              by_cases hpat : (rs.getD k zeroR).pat = (rs.getD i zeroR).pat
              · have hik := hidx hpat
                repeat' first | refine Y.st ?_ | (refine nw ?_; intro _) | refine Y.kn ?_ | (refine sp ?_ ?_ <;> intro _) | fail
                all_goals first | (exfalso; omega) | (exfalso; contradiction) | exact GQ.back ⟨k + 1, by omega⟩ (by simp only; omega) ⟨rfl, rfl, rfl, rfl, rfl, rfl, rfl, rfl, rfl, trivial⟩ hback
              · repeat' first | refine Y.st ?_ | (refine nw ?_; intro _) | refine Y.kn ?_ | (refine sp ?_ ?_ <;> intro _) | fail
                all_goals first | (exfalso; omega) | (exfalso; contradiction) | exact GQ.back ⟨k + 1, by omega⟩ (by simp only; omega) ⟨rfl, rfl, rfl, rfl, rfl, rfl, rfl, rfl, rfl, trivial⟩ hback
            · repeat' first | refine Y.st ?_ | (refine nw ?_; intro _) | refine Y.kn ?_ | (refine sp ?_ ?_ <;> intro _) | fail
              all_goals first | (exfalso; omega) | (exfalso; contradiction) | exact GQ.back ⟨k + 1, by omega⟩ (by simp only; omega) ⟨rfl, rfl, rfl, rfl, rfl, rfl, rfl, rfl, rfl, trivial⟩ hback
          | false =>
            cases hb : findB rs host port alpn with
            | none =>
              rw [hb] at hback
              dsimp only [pickL] at hback ⊢
              repeat' first | refine Y.st ?_ | (refine nw ?_; intro _) | refine Y.kn ?_ | (refine sp ?_ ?_ <;> intro _) | fail
              all_goals first | (exfalso; omega) | (exfalso; contradiction) | exact GQ.back ⟨k + 1, by omega⟩ (by simp only; omega) ⟨rfl, rfl, rfl, rfl, rfl, rfl, rfl, rfl, rfl, trivial⟩ hback
            | some i =>
              have hci := (find_lt hTf hb).2
              have hki : ¬ k = i := fun h => by rw [h, hci] at hcn; cases hcn
              rw [hb] at hback
              dsimp only [pickL] at hback ⊢
              repeat' first | refine Y.st ?_ | (refine nw ?_; intro _) | refine Y.kn ?_ | (refine sp ?_ ?_ <;> intro _) | fail
              all_goals first | (exfalso; omega) | (exfalso; contradiction) | exact GQ.back ⟨k + 1, by omega⟩ (by simp only; omega) ⟨rfl, rfl, rfl, rfl, rfl, rfl, rfl, rfl, rfl, trivial⟩ hback
      · obtain rfl : k = rs.length := by omega
        cases hb : findB rs host port alpn with
        | none =>
          dsimp only [pickL]
          repeat' first | refine Y.st ?_ | (refine nw ?_; intro _) | refine Y.kn ?_ | fail
          refine G.rd (Rd.build (cells := ruA zeroR) rfl (by rfl)) rfl rfl ?_
          refine G.rd (Rd.eqlRu zeroR zeroR rfl rfl zero_small.1 zero_small.1) rfl rfl ?_
          rw [decide_eq_true rfl]
          repeat' first | refine Y.st ?_ | (refine nw ?_; intro _) | refine Y.kn ?_ | fail
          exact GQ.done1 rfl rfl rfl
        | some i =>
          dsimp only [pickL]
          repeat' first | refine Y.st ?_ | (refine nw ?_; intro _) | refine Y.kn ?_ | fail
          exact GQ.done1 rfl rfl rfl
theorem TrieFinds_walk (W : World) (vts : List VT) (hv : Vars W) (h : VT.LiesEach Tryz.prog W [35, 9, 3, 27] vts) : T Tryz.prog W 6 (vts.map VT.val).toArray [] (fun v _ => v = .bool true) := by
  obtain ⟨v0, r, rfl, h0, h⟩ := lies_one h
  obtain ⟨v1, r, rfl, h1, h⟩ := lies_one h
  obtain ⟨v2, r, rfl, h2, h⟩ := lies_one h
  obtain ⟨v3, r, rfl, h3, h⟩ := lies_one h
  obtain rfl := lies_nil h
  obtain ⟨l, p, c, hls, hll, e0, hc, hat⟩ := lies_rulesAt h0
  obtain ⟨s, rfl, hl⟩ := Go.Own.Lies.str h1
  obtain ⟨n, rfl, _⟩ := Go.Own.Lies.int h2
  obtain ⟨al, pa, ca, e3, hca, hla, hata⟩ := lies_strsAt h3
  simp only [List.map_cons, List.map_nil, e0, e3]
  exact TrieFinds_core W hv l hls hll p c hc hat s hl n al pa ca hca hla hata
end Go.Tri
namespace Go.Proofs.YtabkbpckehdiaaaGreatDoor.LTrieFinds
open Go.Own
theorem own : ownKnob Tryz.prog.godebug = none := by kernel_rfl
theorem reads (os : Os) {H : Type} (enc : TypeId × Value → H) : ∃ x, DataW.whole enc Tryz.prog ((laidWorld os).forCall (fun _ _ => 0) ⟨#[], #[.slice none 0 0, .string ⟨#[]⟩, .int .i64 0, .slice none 0 0], []⟩).memory Tryz.f6.params.toList Rows.trieFindsSpec.vars false #[.slice none 0 0, .string ⟨#[]⟩, .int .i64 0, .slice none 0 0].toList 8 = some x :=
  Option.isSome_iff_exists.1 (by kernel_rfl)
set_option maxRecDepth 100000 in
theorem lifted (os : Os) (started : os.Started) (H : Type) (enc : TypeId × Value → H) (F : Stop.Interp) :
    ReturnsInHanded {} Tryz.checked os 6 .any ((OpenSpec.ofChange Rows.trieFindsSpec).preRow enc Tryz.prog Tryz.f6 Rows.trieFindsRow.domain false Rows.trieFindsRow.laid) (((OpenSpec.ofChange Rows.trieFindsSpec).at F).post enc Tryz.prog Tryz.f6 false true false false) := by
  obtain ⟨x, hx⟩ := reads os enc
  exact law_laid (C := Tryz.checked) (D := 20) (tb := 4) own started (by kernel_rfl) Tryz.func6 rfl rfl Tryz.underlying4 (by kernel_rfl) (by kernel_rfl) (by kernel_rfl)
    (fun K ds h => by match ds, h with | [_, _, _, _], _ => rfl)
    (witness_row_atRef (enc := enc) (C := Tryz.checked) false (laidWorld os) #[.slice none 0 0, .string ⟨#[]⟩, .int .i64 0, .slice none 0 0] rfl (laid_shaped1 os _) (laid_shaped2 os _) (by kernel_rfl)
      (OpenSpec.preRow_of_cond 8 hx (by kernel_rfl) (fun k hk => by cases hk) (by kernel_rfl) (laid_met os _)))
    (fun W vts hsh hL h => Go.Tri.TrieFinds_walk W vts (Go.Nam.vars_of hsh hL) (by rw [Tryz.params6] at h; exact h))
theorem said : Rows.TrieFindsSaid :=
  OpenClaim.holds_of_cond 6 Tryz.f6 rfl rfl rfl rfl rfl rfl rfl ⟨rfl, rfl, rfl, rfl, rfl⟩ rfl rfl rfl rfl rfl (by kernel_rfl) Tryz.func6 (by kernel_rfl)
    (of_decide_eq_true (by kernel_rfl)) (by unfold Func.isWrapper; first | (rw [if_pos (by decide +kernel)]; kernel_rfl) | (rw [if_neg (by decide +kernel)]; exact ⟨rfl, rfl⟩))
    (fun os started H enc _ F => by rw [OpenClaim.pre_eq_preRow]; exact lifted os started H enc F)
theorem plain (f : FuncId) (fn : Func) (hf : Tryz.pinned.checked.prog.funcNamed "hagioscope/hagioscopelaw18.TrieFinds" = some f) (hfn : Tryz.pinned.checked.prog.funcs[f]? = some fn) :
    true = Tryz.pinned.checked.prog.looks [] ∧ ∀ (j : Nat) t, fn.params[j]? = some t → Tryz.pinned.checked.prog.wantsStandIn t = false := by
  obtain rfl : f = 6 := Option.some.inj ((show Tryz.prog.funcNamed "hagioscope/hagioscopelaw18.TrieFinds" = some 6 by kernel_rfl).symm.trans hf) |>.symm
  obtain rfl : fn = Tryz.f6 := (Option.some.inj (Tryz.func6.symm.trans hfn)).symm
  refine ⟨by kernel_rfl, fun j t ht => ?_⟩
  have hall : Tryz.f6.params.toList.all (fun t => !Tryz.prog.wantsStandIn t) = true := by kernel_rfl
  have := List.all_eq_true.1 hall t (Array.mem_toList_iff.2 (Array.mem_of_getElem? ht))
  have h2 : Tryz.prog.wantsStandIn t = false := by simpa using this
  exact h2
end Go.Proofs.YtabkbpckehdiaaaGreatDoor.LTrieFinds
namespace Go.Proofs.YtabkbpckehdiaaaGreatDoor
/-- The law TrieFinds holds: its card. -/
theorem trieFinds_holds : Rows.TrieFindsCardSaid :=
  Claim7.holds_tied_plain_at .later [] _ _ _ _ LTrieFinds.said (fun _ h => by cases h) (by kernel_rfl) (fun _ h => by cases h) trieFinds_row_tie rfl ⟨rfl, rfl⟩ (by kernel_rfl) rfl LTrieFinds.plain (by kernel_rfl)
#print axioms trieFinds_holds
end Go.Proofs.YtabkbpckehdiaaaGreatDoor
