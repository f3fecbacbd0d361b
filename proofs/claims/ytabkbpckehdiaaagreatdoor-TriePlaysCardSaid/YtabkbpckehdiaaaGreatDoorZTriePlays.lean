/-
  TriePlays: a trie, rule by rule, and what is found then: of any rules, any host: no condition.
-/
import Derived.Test.YtabkbpckehdiaaaGreatDoorRows
import Derived.Test.YtabkbpckehdiaaaGreatDoorTie
import Derived.Test.YtabkbpckehdiaaaGreatDoorCards
import Derived.Test.YtabkbpckehdiaaaGreatDoorNam5
import Derived.Test.YtabkbpckehdiaaaGreatDoorGTc
import Derived.Test.YtabkbpckehdiaaaGreatDoorWit
import Derived.SevenTiedPlain
namespace Go.Own
/-- A store of a struct into a block, behind others. -/
theorem Eff.storeMid {P : Program} {W0 : World} {H : Heap} {e : Env} {t ty : TypeId} {x y : Operand} {R : Value → Heap → Prop} {bk o : Nat} {pre old post vs : List Value} {el : TypeId} {put : Obj → Heap} {size : Nat} (hx : opv e x = some (.pointer (some ⟨bk, o, none⟩))) (ho : o = pre.length) (hy : opv e y = some (.agg vs.toArray))
    [ht : AggT P t size] [hs : Spot H bk (.cells (pre ++ (old ++ post)).toArray el (0, 0)) put]
    (h1 : ∀ u ∈ vs, u.oneCell' = true) (hl : vs.length = old.length) (hsz : vs.length = size) (hR : R undef (put (.cells (pre ++ (vs ++ post)).toArray el (0, 0)))) : Eff P W0 e H (.store t x y) ty R :=
  Eff.skip fun ρ hρ w hw op hop => by
    subst ho
    have hst := run_storeCells_at P bk pre.length el vs 0 (pre ++ (old ++ post)).toArray w (hs.get hw) (by simp only [List.size_toArray, List.length_append]; omega) h1
    have hov : (pre ++ (old ++ post)).take (pre.length + 0) ++ vs ++ (pre ++ (old ++ post)).drop (pre.length + 0 + vs.length) = pre ++ (vs ++ post) := by
      rw [Nat.add_zero, List.take_left, List.append_assoc, ← List.drop_drop, List.drop_left, hl, List.drop_left]
    rw [hov] at hst
    refine ⟨_, w.setRow bk (pre ++ (vs ++ post)).toArray, ?_, hR, setRow_own hs hw⟩
    have hst' : (storeCells ⟨bk, pre.length, none⟩ vs).run P w = .ok () (w.setRow bk (pre ++ (vs ++ post)).toArray) := hst
    simp [execOp, hop, hρ x _ hx, hρ y _ hy, Instr.storeAt, Instr.sureAddr, storeVar, ht.size, Value.cells, hst', hsz]
end Go.Own
namespace Go.Tri
open Go.Own Go.Proofs Go.RowKit Go.Lib Go.Asc Go.Adr Go.Nam Go.Rfn
attribute [local irreducible] GC GQ G Rd Eff T
set_option maxRecDepth 20000
set_option maxHeartbeats 4000000
attribute [local irreducible] named patL matchL visL fitsL rightL countsL lessL fewL
theorem drop_succ_rules {rs : List Ru} {k : Nat} (h : k < rs.length) : (rs.flatMap ruC).drop (k * 5) = ruC (rs.getD k zeroR) ++ (rs.flatMap ruC).drop ((k + 1) * 5) := by
  induction rs generalizing k with
  | nil => simp at h
  | cons r rs ih =>
    cases k with
    | zero => simp [ruC]
    | succ k =>
      have := ih (k := k) (by simpa using h)
      rw [List.flatMap_cons, show (k + 1) * 5 = (ruC r).length + k * 5 by rw [ruC_len]; omega, show (k + 1 + 1) * 5 = (ruC r).length + (k + 1) * 5 by rw [ruC_len]; omega, ← List.drop_drop, ← List.drop_drop, List.drop_left, this]
      simp [List.getD_eq_getElem?_getD]
def zerosC (k : Nat) : List Value := (List.replicate k zeroR).flatMap ruC
theorem zerosC_len (k : Nat) : (zerosC k).length = k * 5 := by rw [zerosC, rules_len, List.length_replicate]
theorem zerosC_succ (k : Nat) (post : List Value) : zerosC k ++ (ruC zeroR ++ post) = zerosC (k + 1) ++ post := by
  rw [zerosC, zerosC, List.replicate_succ', List.flatMap_append]; simp
theorem refQ_rules {rs : List Ru} {by_ : Nat} {TH : Heap} (h : RefQ rs by_ TH) : ∃ p c B, TH = (by_, .cells #[.slice p rs.length c] 42 (0, 0)) :: B ∧ rs.length ≤ c ∧ (∀ W, Go.Tri.Lies W B p (rs.flatMap ruC)) ∧ ∀ r ∈ rs, Small r := by
  obtain ⟨lv, B, hb, rfl, hs, _, _⟩ := h
  obtain ⟨p, c, rfl, hc, hat⟩ := Buf.see hb
  exact ⟨p, c, B, rfl, hc, hat, hs⟩
theorem TriePlays_core (W : World) (hv : Vars W) (l : List Ru) (hls : ∀ r ∈ l, Sized r) (hll : l.length ≤ 140737488351232) (p : Option Addr) (c : Nat) (hc : l.length ≤ c) (hat : ∀ F, Go.Tri.Lies W F p (l.flatMap ruC))
    (host : Lab) (hl : host.length ≤ 140737488351232) (port : Int) (alpn : List Lab) (pa : Option Addr) (ca : Nat) (hca : alpn.length ≤ ca) (hla : alpn.length ≤ 140737488351232) (hata : ∀ F, Go.Tri.Lies W F pa (strs alpn)) :
    T Tryz.prog W 5 #[.slice p l.length c, S host, .int .i64 port, .slice pa alpn.length ca] [] (fun v _ => v = .bool true) := by
  refine T.intro (args := [_, _, _, _]) Tryz.func5 rfl Tryz.ntmps5 rfl ?_
  repeat' first | refine Y.st ?_ | (refine nw ?_; intro _) | refine Y.kn ?_ | fail
  refine G.ef rfl rfl rfl (Eff.callF rfl ((few_spec _ l ⟨p, c, rfl, hc, hat _⟩ hll).mono ?_))
  rintro v H' ⟨rfl, rfl⟩
  repeat' first | refine Y.st ?_ | (refine nw ?_; intro _) | refine Y.kn ?_ | fail
  refine G.ef rfl rfl rfl (Eff.callF rfl (new_spec.mono ?_))
  rintro v H' ⟨bt, TH, rfl, hT, rfl⟩
  repeat' first | refine Y.st ?_ | (refine nw ?_; intro _) | refine Y.kn ?_ | fail
  refine G.rd (Rd.build (cells := #[.slice none 0 0]) rfl (by rfl)) rfl rfl ?_
  refine G.ef rfl rfl rfl (Eff.boxA rfl (fun by_ => ?_))
  by_cases hbad : fewL l = false ∨ ¬ alpn.length ≤ 20 ∨ 300 < host.length
  · cases hf : fewL l with
    | false =>
      repeat' first | refine Y.st ?_ | (refine nw ?_; intro _) | refine Y.kn ?_ | (refine sp ?_ ?_ <;> intro _) | fail
      all_goals first | (exfalso; omega) | exact GQ.done1 rfl rfl rfl
    | true =>
      rw [hf] at hbad
      simp only [Bool.true_eq_false, false_or] at hbad
      repeat' first | refine Y.st ?_ | (refine nw ?_; intro _) | refine Y.kn ?_ | (refine sp ?_ ?_ <;> intro _) | fail
      all_goals first | (exfalso; omega) | exact GQ.done1 rfl rfl rfl
  · simp only [not_or, Bool.not_eq_false, Classical.not_not] at hbad
    obtain ⟨hf, hb0, hb1⟩ := hbad
    obtain ⟨hl220, hfew⟩ := few_true hf
    have hU : RefQ [] by_ [(by_, Obj.cells #[.slice none 0 0] 42 (0, 0))] := ⟨.slice none 0 0, [], .nil, rfl, by simp, by simp, fine_nil⟩
    refine G.heap (H' := [(by_, Obj.cells #[.slice none 0 0] 42 (0, 0))] ++ (TH ++ [])) ?_ (fun _ h => h)
    generalize [(by_, Obj.cells #[.slice none 0 0] 42 (0, 0))] = UH at hU ⊢
    repeat' first | refine Y.st ?_ | (refine nw ?_; intro _) | refine Y.kn ?_ | fail
    refine GC.loopE (ι := { i : Nat × Heap × Heap // i.1 ≤ l.length ∧ TrieQ (addAll [] (l.take i.1)) bt i.2.1 ∧ RefQ (addAll [] (l.take i.1)) by_ i.2.2 })
      (fun i => [(14, .int .i64 (i.1.1 : Int))]) [(0, _), (1, _), (2, _), (3, _), (9, _), (12, _), (13, _)] (fun i => i.1.2.2 ++ (i.1.2.1 ++ [])) (fun i => l.length - i.1.1) ⟨(0, TH, UH), Nat.zero_le _, hT, hU⟩ ⟨rfl, rfl, rfl, rfl, rfl, rfl, rfl, rfl, trivial⟩ (fun _ h => h) ?_
    rintro ⟨⟨k, TH2, UH2⟩, hk, hT2, hU2⟩
    dsimp only [List.cons_append, List.nil_append] at hk hT2 hU2 ⊢
    by_cases hlt : k < l.length
    · obtain ⟨b, o, rfl, hcell⟩ := lies_all hat hlt
      have hrs := hls _ (getD_mem hlt)
      have hrf := hfew _ (getD_mem hlt)
      have hrc := hcell [] k hlt
      repeat' first | refine Y.st ?_ | (refine nw ?_; intro _) | refine Y.kn ?_ | fail
      refine GC.drawn [(0, .read), (1, .read), (2, .read), (3, .read), (4, .read), (6, .read), (7, .read), (8, .read), (9, .read), (10, .read), (5, .eff), (11, .tail), (12, .tail)] ([]) (by kernel_rfl) (by kernel_rfl) rfl ?_
      repeat' first | refine Y.st ?_ | (refine nw ?_; intro _) | refine Y.kn ?_ | fail
      have qA : (UH2 ++ (TH2 ++ [])).Perm (TH2 ++ (UH2 ++ [])) := by exact permC
      refine G.eeP rfl rfl rfl (Eff.callP (first := #[]) (captured := #[]) rfl rfl qA ((add_spec hv hT2 (l.getD k zeroR) hrs (by omega)).mono ?_))
      rintro v H' ⟨rfl, TH3, hT3, hp3⟩
      have qB : (TH3 ++ (UH2 ++ [])).Perm (UH2 ++ (TH3 ++ [])) := by exact permC
      refine ⟨fun w hw => hw.sub (List.nil_sublist _), G.heap ?_ (fun w hw => hw.perm (hp3.trans qB))⟩
      repeat' first | refine Y.st ?_ | (refine nw ?_; intro _) | refine Y.kn ?_ | fail
      refine G.ef rfl rfl rfl (Eff.callF rfl ((radd_spec hU2 (l.getD k zeroR) ⟨hrs, by omega, by omega⟩).mono ?_))
      rintro v H' ⟨rfl, UH3, hU3, hp4⟩
      refine G.heap ?_ (fun w hw => hw.perm hp4)
      repeat' first | refine Y.st ?_ | (refine nw ?_; intro _) | refine Y.kn ?_ | fail
      rw [← take_succ_add _ _ hlt] at hT3 hU3
      exact GQ.back ⟨(k + 1, TH3, UH3), by omega, hT3, hU3⟩ (by simp only; omega) ⟨rfl, rfl, rfl, rfl, rfl, rfl, rfl, rfl, trivial⟩ (fun _ h => h)
    · obtain rfl : k = l.length := by omega
      rw [List.take_length] at hT2 hU2
      have hTf := addAll_fine fine_nil l
      have hTs : ∀ x ∈ addAll [] l, Small x := fun x hx => by
        rcases addAll_mem hx with h | h
        · cases h
        · exact ⟨hls x h, by have := hfew x h; omega, by have := hfew x h; omega⟩
      have hTl := addAll_len (rs := []) (by simp) l
      generalize addAll [] l = rs at *
      have hsz := pick_small (fun x hx => (hTs x hx).1) (b := findB rs host port alpn) (fun i hi => (find_lt hTf hi).1)
      have hal : ∀ F, AlpnAt W F (.slice pa alpn.length ca) alpn := fun F => ⟨⟨pa, ca, rfl, hca, hata _⟩, by omega⟩
      obtain ⟨q9, c9, B9, hU9, hc9, hat9, hsm9⟩ := refQ_rules hU2
      repeat' first | refine Y.st ?_ | (refine nw ?_; intro _) | refine Y.kn ?_ | fail
      have qA : (UH2 ++ (TH2 ++ [])).Perm (TH2 ++ (UH2 ++ [])) := by exact permC
      refine G.ef rfl rfl rfl (Eff.callP (first := #[]) (captured := #[]) rfl rfl qA ((Find_spec hv hT2 host (by omega) port _ alpn (hal _)).mono ?_))
      rintro v H' ⟨rfl, rfl⟩
      rw [show resV (pickL rs (findB rs host port alpn)) = .tuple #[ruV (pickL rs (findB rs host port alpn)).1, .int .i64 ((pickL rs (findB rs host port alpn)).2.1 : Int), .bool (pickL rs (findB rs host port alpn)).2.2] from rfl]
      repeat' first | refine Y.st ?_ | (refine nw ?_; intro _) | refine Y.kn ?_ | fail
      rename_i b15
      have hfr := find_ref hTf host port alpn
      generalize hxx : pickL rs (findB rs host port alpn) = x at *
      have qC : ((b15, Obj.cells (ruA x.1) 31 (0, 0)) :: (TH2 ++ (UH2 ++ []))).Perm (UH2 ++ ((b15, Obj.cells (ruA x.1) 31 (0, 0)) :: (TH2 ++ []))) := by exact permC
      refine G.ef rfl rfl rfl (Eff.callP (first := #[]) (captured := #[]) rfl rfl qC ((rfind_spec hU2 host (by omega) port _ alpn (hal _)).mono ?_))
      rintro v H' ⟨rfl, rfl⟩
      rw [← hfr, hxx, show resV x = .tuple #[ruV x.1, .int .i64 (x.2.1 : Int), .bool x.2.2] from rfl]
      repeat' first | refine Y.st ?_ | (refine nw ?_; intro _) | refine Y.kn ?_ | fail
      rename_i b18
      have qD : ((b18, Obj.cells (ruA x.1) 31 (0, 0)) :: (UH2 ++ ((b15, Obj.cells (ruA x.1) 31 (0, 0)) :: (TH2 ++ [])))).Perm (TH2 ++ ((b18, Obj.cells (ruA x.1) 31 (0, 0)) :: (b15, Obj.cells (ruA x.1) 31 (0, 0)) :: UH2)) := by exact permC
      refine G.ef rfl rfl rfl (Eff.callP (first := #[]) (captured := #[]) rfl rfl qD ((ruless_spec hT2).mono ?_))
      rintro v H' ⟨B', hbB, rfl⟩
      obtain ⟨q, qc, hq, hqc, hqat⟩ := Buf.see hbB
      subst hU9
      subst hq
      have hallL : ∀ F, Go.Tri.Lies W (B' ++ F) q (rs.flatMap ruC) := fun F => (hqat W).app F |>.perm (List.perm_append_comm)
      have hrefL : ∀ F, Go.Tri.Lies W (B9 ++ F) q9 (rs.flatMap ruC) := fun F => (hat9 W).app F |>.perm (List.perm_append_comm)
      repeat' first | refine Y.st ?_ | (refine nw ?_; intro _) | refine Y.kn ?_ | fail
      refine G.ef rfl rfl rfl (Eff.callF rfl ((same_spec _ _ rs rs ⟨q, qc, rfl, hqc, hallL _⟩ ⟨q9, c9, rfl, hc9, (hrefL (B' ++ (TH2 ++ [(b18, Obj.cells (ruA x.1) 31 (0, 0)), (b15, Obj.cells (ruA x.1) 31 (0, 0)), (by_, Obj.cells #[.slice q9 rs.length c9] 42 (0, 0))]))).perm (by exact permC)⟩ hTs hTs (by omega)).mono ?_))
      rintro v H' ⟨rfl, rfl⟩
      rw [decide_eq_true rfl]
      iterate 3 refine Y.one ?_
      refine GC.cutE (ι := Heap) (fun _ => []) [(9, .bool true), (12, .pointer (some ⟨bt, 0, none⟩)), (13, .pointer (some ⟨by_, 0, none⟩)), (15, .pointer (some ⟨b15, 0, none⟩)), (16, .int .i64 (x.2.1 : Int)), (17, .bool x.2.2), (18, .pointer (some ⟨b18, 0, none⟩)), (19, .int .i64 (x.2.1 : Int)), (20, .bool x.2.2), (22, .bool true)] (fun B2 => B2 ++ (TH2 ++ ((b18, Obj.cells (ruA x.1) 31 (0, 0)) :: (b15, Obj.cells (ruA x.1) 31 (0, 0)) :: (by_, Obj.cells #[.slice q9 rs.length c9] 42 (0, 0)) :: B9))) ?_ ?_
      · rcases hbB.parts with ⟨hv9, hn9, hx9, rfl⟩ | ⟨b, cap, extra, hv9, rfl, hcc, hlen9, _⟩
        · obtain ⟨rfl, hlen0, rfl⟩ : q = none ∧ rs.length = 0 ∧ qc = 0 := by simpa using hv9
          repeat' first | refine Y.st ?_ | (refine nw ?_; intro _) | refine Y.kn ?_ | fail
          refine GC.loopE (ι := Unit) (fun i => [(23, .int .i64 0)]) [(9, _), (12, _), (13, _), (15, _), (16, _), (17, _), (18, _), (19, _), (20, _), (21, _), (22, _)] (fun _ => [] ++ (TH2 ++ ((b18, Obj.cells (ruA x.1) 31 (0, 0)) :: (b15, Obj.cells (ruA x.1) 31 (0, 0)) :: (by_, Obj.cells #[.slice q9 rs.length c9] 42 (0, 0)) :: B9))) (fun _ => 0) () ⟨rfl, rfl, rfl, rfl, rfl, rfl, rfl, rfl, rfl, rfl, rfl, rfl, trivial⟩ (fun _ h => h) ?_
          rintro ⟨⟩
          dsimp only [List.cons_append, List.nil_append]
          repeat' first | refine Y.st ?_ | (refine nw ?_; intro _) | refine Y.kn ?_ | fail
          exact GQ.cutEnd [] ⟨rfl, rfl, rfl, rfl, rfl, rfl, rfl, rfl, rfl, rfl, trivial⟩ (fun _ h => h)
        · obtain ⟨rfl, rfl⟩ : q = some ⟨b, 0, none⟩ ∧ qc = cap := by simpa using hv9
          repeat' first | refine Y.st ?_ | (refine nw ?_; intro _) | refine Y.kn ?_ | fail
          refine GC.loopE (ι := { k : Nat // k ≤ rs.length }) (fun i => [(23, .int .i64 (i.1 : Int))]) [(9, _), (12, _), (13, _), (15, _), (16, _), (17, _), (18, _), (19, _), (20, _), (21, _), (22, _)] (fun i => (b, .cells (zerosC i.1 ++ ((rs.flatMap ruC).drop (i.1 * 5) ++ extra)).toArray 31 (0, 0)) :: (TH2 ++ ((b18, Obj.cells (ruA x.1) 31 (0, 0)) :: (b15, Obj.cells (ruA x.1) 31 (0, 0)) :: (by_, Obj.cells #[.slice q9 rs.length c9] 42 (0, 0)) :: B9))) (fun i => rs.length - i.1) ⟨0, Nat.zero_le _⟩ ⟨rfl, rfl, rfl, rfl, rfl, rfl, rfl, rfl, rfl, rfl, rfl, rfl, trivial⟩ (fun _ h => by simpa [zerosC] using h) ?_
          rintro ⟨k, hk⟩
          dsimp only [List.cons_append, List.nil_append] at hk ⊢
          by_cases hlt : k < rs.length
          · rw [drop_succ_rules hlt, List.append_assoc]
            repeat' first | refine Y.st ?_ | (refine nw ?_; intro _) | refine Y.kn ?_ | fail
            refine G.rd (Rd.build (cells := ruA zeroR) rfl (by rfl)) rfl rfl ?_
            repeat' first | refine Y.st ?_ | (refine nw ?_; intro _) | refine Y.kn ?_ | fail
            refine G.ef rfl rfl rfl (Eff.storeMid (pre := zerosC k) (old := ruC (rs.getD k zeroR)) (post := List.drop ((k + 1) * 5) (List.flatMap ruC rs) ++ extra) (vs := ruC zeroR) rfl (by rw [zerosC_len]; omega) rfl (by have := rules_one [zeroR]; simpa using this) rfl rfl ?_)
            rw [zerosC_succ]
            repeat' first | refine Y.st ?_ | (refine nw ?_; intro _) | refine Y.kn ?_ | fail
            exact GQ.back ⟨k + 1, by omega⟩ (by simp only; omega) ⟨rfl, rfl, rfl, rfl, rfl, rfl, rfl, rfl, rfl, rfl, rfl, rfl, trivial⟩ (fun _ h => h)
          · repeat' first | refine Y.st ?_ | (refine nw ?_; intro _) | refine Y.kn ?_ | fail
            exact GQ.cutEnd [_] ⟨rfl, rfl, rfl, rfl, rfl, rfl, rfl, rfl, rfl, rfl, trivial⟩ (fun _ h => h)
      rintro B2
      dsimp only [List.cons_append, List.nil_append]
      refine GC.seq ?_
      refine GC.drawnH [(0, .read), (1, .read), (2, .read), (3, .read), (4, .read), (5, .read), (6, .read), (7, .read), (8, .read), (9, .read), (10, .read), (11, .read), (12, .read), (13, .read), (14, .read), (15, .read), (16, .read), (17, .read), (18, .read), (19, .read), (20, .read), (22, .read), (23, .read), (24, .read), (25, .read), (21, .eff), (26, .tail), (27, .tail), (28, .tail)] (by kernel_rfl) (by kernel_rfl) rfl ?_
      repeat' first | refine Y.st ?_ | (refine nw ?_; intro _) | refine Y.kn ?_ | fail
      refine G.rd (Rd.eqlRu x.1 x.1 rfl rfl hsz hsz) rfl rfl ?_
      rw [decide_eq_true rfl]
      repeat' first | refine Y.st ?_ | (refine nw ?_; intro _) | refine Y.kn ?_ | fail
      refine G.rd (Rd.eqlB rfl rfl) rfl rfl ?_
      rw [beq_self_eq_true]
      repeat' first | refine Y.st ?_ | (refine nw ?_; intro _) | refine Y.kn ?_ | fail
      have qE : (B2 ++ (TH2 ++ ((b18, Obj.cells (ruA x.1) 31 (0, 0)) :: (b15, Obj.cells (ruA x.1) 31 (0, 0)) :: (by_, Obj.cells #[.slice q9 rs.length c9] 42 (0, 0)) :: B9))).Perm (TH2 ++ (B2 ++ ((b18, Obj.cells (ruA x.1) 31 (0, 0)) :: (b15, Obj.cells (ruA x.1) 31 (0, 0)) :: (by_, Obj.cells #[.slice q9 rs.length c9] 42 (0, 0)) :: B9))) := by exact permC
      refine G.eeP rfl rfl rfl (Eff.callP (first := #[]) (captured := #[]) rfl rfl qE ((ruless_spec hT2).mono ?_))
      rintro v H' ⟨B3, hbB3, rfl⟩
      obtain ⟨q3, qc3, rfl, hqc3, hqat3⟩ := Buf.see hbB3
      refine ⟨fun w hw => (hw.sub (List.sublist_append_right _ _)).perm qE.symm, ?_⟩
      have hall3 : Go.Tri.Lies W (B3 ++ (TH2 ++ (B2 ++ ((b18, Obj.cells (ruA x.1) 31 (0, 0)) :: (b15, Obj.cells (ruA x.1) 31 (0, 0)) :: (by_, Obj.cells #[.slice q9 rs.length c9] 42 (0, 0)) :: B9)))) q3 (rs.flatMap ruC) := ((hqat3 W).app (TH2 ++ (B2 ++ ((b18, Obj.cells (ruA x.1) 31 (0, 0)) :: (b15, Obj.cells (ruA x.1) 31 (0, 0)) :: (by_, Obj.cells #[.slice q9 rs.length c9] 42 (0, 0)) :: B9)))).perm (List.perm_append_comm)
      have href3 : Go.Tri.Lies W (B3 ++ (TH2 ++ (B2 ++ ((b18, Obj.cells (ruA x.1) 31 (0, 0)) :: (b15, Obj.cells (ruA x.1) 31 (0, 0)) :: (by_, Obj.cells #[.slice q9 rs.length c9] 42 (0, 0)) :: B9)))) q9 (rs.flatMap ruC) := (hrefL (B3 ++ (TH2 ++ (B2 ++ [(b18, Obj.cells (ruA x.1) 31 (0, 0)), (b15, Obj.cells (ruA x.1) 31 (0, 0)), (by_, Obj.cells #[.slice q9 rs.length c9] 42 (0, 0))])))).perm (by exact permC)
      repeat' first | refine Y.st ?_ | (refine nw ?_; intro _) | refine Y.kn ?_ | fail
      refine G.ef rfl rfl rfl (Eff.callF rfl ((same_spec _ _ rs rs ⟨q3, qc3, rfl, hqc3, hall3⟩ ⟨q9, c9, rfl, hc9, href3⟩ hTs hTs (by omega)).mono ?_))
      rintro v H' ⟨rfl, rfl⟩
      rw [decide_eq_true rfl]
      repeat' first | refine Y.st ?_ | (refine nw ?_; intro _) | refine Y.kn ?_ | fail
      exact GQ.done1 rfl rfl rfl
theorem TriePlays_walk (W : World) (vts : List VT) (hv : Vars W) (h : VT.LiesEach Tryz.prog W [35, 9, 3, 27] vts) : T Tryz.prog W 5 (vts.map VT.val).toArray [] (fun v _ => v = .bool true) := by
  obtain ⟨v0, r, rfl, h0, h⟩ := lies_one h
  obtain ⟨v1, r, rfl, h1, h⟩ := lies_one h
  obtain ⟨v2, r, rfl, h2, h⟩ := lies_one h
  obtain ⟨v3, r, rfl, h3, h⟩ := lies_one h
  obtain rfl := lies_nil h
  obtain ⟨l, p, c, hls, hll, e0, hc, hat⟩ := lies_rulesAt h0
  obtain ⟨s, rfl, hl⟩ := Go.Own.Lies.str h1
  obtain ⟨n, rfl, _⟩ := Go.Own.Lies.int h2
  obtain ⟨al, pa, ca, e3, hca, hla, hata⟩ := lies_strsAt h3
  simp only [List.map_cons, List.map_nil, e0, e3]
  exact TriePlays_core W hv l hls hll p c hc hat s hl n al pa ca hca hla hata
end Go.Tri
namespace Go.Proofs.YtabkbpckehdiaaaGreatDoor.LTriePlays
open Go.Own
theorem own : ownKnob Tryz.prog.godebug = none := by kernel_rfl
theorem reads (os : Os) {H : Type} (enc : TypeId × Value → H) : ∃ x, DataW.whole enc Tryz.prog ((laidWorld os).forCall (fun _ _ => 0) ⟨#[], #[.slice none 0 0, .string ⟨#[]⟩, .int .i64 0, .slice none 0 0], []⟩).memory Tryz.f5.params.toList Rows.triePlaysSpec.vars false #[.slice none 0 0, .string ⟨#[]⟩, .int .i64 0, .slice none 0 0].toList 8 = some x :=
  Option.isSome_iff_exists.1 (by kernel_rfl)
set_option maxRecDepth 100000 in
theorem lifted (os : Os) (started : os.Started) (H : Type) (enc : TypeId × Value → H) (F : Stop.Interp) :
    ReturnsInHanded {} Tryz.checked os 5 .any ((OpenSpec.ofChange Rows.triePlaysSpec).preRow enc Tryz.prog Tryz.f5 Rows.triePlaysRow.domain false Rows.triePlaysRow.laid) (((OpenSpec.ofChange Rows.triePlaysSpec).at F).post enc Tryz.prog Tryz.f5 false true false false) := by
  obtain ⟨x, hx⟩ := reads os enc
  exact law_laid (C := Tryz.checked) (D := 20) (tb := 4) own started (by kernel_rfl) Tryz.func5 rfl rfl Tryz.underlying4 (by kernel_rfl) (by kernel_rfl) (by kernel_rfl)
    (fun K ds h => by match ds, h with | [_, _, _, _], _ => rfl)
    (witness_row_atRef (enc := enc) (C := Tryz.checked) false (laidWorld os) #[.slice none 0 0, .string ⟨#[]⟩, .int .i64 0, .slice none 0 0] rfl (laid_shaped1 os _) (laid_shaped2 os _) (by kernel_rfl)
      (OpenSpec.preRow_of_cond 8 hx (by kernel_rfl) (fun k hk => by cases hk) (by kernel_rfl) (laid_met os _)))
    (fun W vts hsh hL h => Go.Tri.TriePlays_walk W vts (Go.Nam.vars_of hsh hL) (by rw [Tryz.params5] at h; exact h))
theorem said : Rows.TriePlaysSaid :=
  OpenClaim.holds_of_cond 5 Tryz.f5 rfl rfl rfl rfl rfl rfl rfl ⟨rfl, rfl, rfl, rfl, rfl⟩ rfl rfl rfl rfl rfl (by kernel_rfl) Tryz.func5 (by kernel_rfl)
    (of_decide_eq_true (by kernel_rfl)) (by unfold Func.isWrapper; first | (rw [if_pos (by decide +kernel)]; kernel_rfl) | (rw [if_neg (by decide +kernel)]; exact ⟨rfl, rfl⟩))
    (fun os started H enc _ F => by rw [OpenClaim.pre_eq_preRow]; exact lifted os started H enc F)
theorem plain (f : FuncId) (fn : Func) (hf : Tryz.pinned.checked.prog.funcNamed "hagioscope/hagioscopelaw18.TriePlays" = some f) (hfn : Tryz.pinned.checked.prog.funcs[f]? = some fn) :
    true = Tryz.pinned.checked.prog.looks [] ∧ ∀ (j : Nat) t, fn.params[j]? = some t → Tryz.pinned.checked.prog.wantsStandIn t = false := by
  obtain rfl : f = 5 := Option.some.inj ((show Tryz.prog.funcNamed "hagioscope/hagioscopelaw18.TriePlays" = some 5 by kernel_rfl).symm.trans hf) |>.symm
  obtain rfl : fn = Tryz.f5 := (Option.some.inj (Tryz.func5.symm.trans hfn)).symm
  refine ⟨by kernel_rfl, fun j t ht => ?_⟩
  have hall : Tryz.f5.params.toList.all (fun t => !Tryz.prog.wantsStandIn t) = true := by kernel_rfl
  have := List.all_eq_true.1 hall t (Array.mem_toList_iff.2 (Array.mem_of_getElem? ht))
  have h2 : Tryz.prog.wantsStandIn t = false := by simpa using this
  exact h2
end Go.Proofs.YtabkbpckehdiaaaGreatDoor.LTriePlays
namespace Go.Proofs.YtabkbpckehdiaaaGreatDoor
/-- The law TriePlays holds: its card. -/
theorem triePlays_holds : Rows.TriePlaysCardSaid :=
  Claim7.holds_tied_plain_at .later [] _ _ _ _ LTriePlays.said (fun _ h => by cases h) (by kernel_rfl) (fun _ h => by cases h) triePlays_row_tie rfl ⟨rfl, rfl⟩ (by kernel_rfl) rfl LTriePlays.plain (by kernel_rfl)
#print axioms triePlays_holds
end Go.Proofs.YtabkbpckehdiaaaGreatDoor
