/-
  A TRIE: Find.
-/
import Derived.Test.YtlakopiopplfhaaGreatDoorGTb
namespace Go.Tri
open Go.Own Go.Proofs Go.RowKit Go.Lib Go.Asc Go.Adr Go.Nam
attribute [local irreducible] GC GQ G Rd Eff T
set_option maxRecDepth 20000
set_option maxHeartbeats 4000000
attribute [local irreducible] named patL matchL visL fitsL rightL

theorem rowsOf_lt {rs : List Ru} {host : Lab} : ∀ row ∈ rowsOf rs host, ∀ k ∈ row, k < rs.length := by
  intro row hrow k hk
  simp only [rowsOf, List.mem_cons] at hrow
  rcases hrow with h | h
  · rw [h] at hk; exact (mem_idxF.1 hk).1
  · split at h
    · cases h
    · have e0 : famOf rs = famAt (famOf rs) [] := rfl
      rw [e0] at h
      rcases rowsG_rows _ _ _ _ h with h | ⟨d, _, h⟩
      · rw [h] at hk; exact (mem_idxF.1 hk).1
      · rw [h] at hk; exact (mem_idxF.1 hk).1
section
variable {fits : Nat → Bool} {prio : Nat → Int} {k a : Nat} {o : Option Nat}
theorem rowStep_no (hf : fits k = false) : rowStep fits prio o k = o := by simp [rowStep, hf]
theorem rowStep_first (hf : fits k = true) : rowStep fits prio none k = some k := by simp [rowStep, hf]
theorem rowStep_more (hf : fits k = true) (h : prio a < prio k) : rowStep fits prio (some a) k = some k := by simp [rowStep, hf, h]
theorem rowStep_less (hf : fits k = true) (h : ¬ prio a < prio k) : rowStep fits prio (some a) k = some a := by simp [rowStep, hf]; intro h'; exact absurd h' h
end
section
variable {fits : Nat → Bool} {prio : Nat → Int} {a b : Nat} {o : Option Nat} {row : List Nat}
theorem bestStep_none (h : rowBest fits prio row = none) : bestStep fits prio o row = o := by simp [bestStep, h]
theorem bestStep_first (h : rowBest fits prio row = some a) : bestStep fits prio none row = some a := by simp [bestStep, h]
theorem bestStep_more (h : rowBest fits prio row = some a) (hp : prio b ≤ prio a) : bestStep fits prio (some b) row = some a := by simp [bestStep, h, hp]
theorem bestStep_less (h : rowBest fits prio row = some a) (hp : ¬ prio b ≤ prio a) : bestStep fits prio (some b) row = some b := by simp only [bestStep, h, if_neg hp]
end
theorem rowsOf_len {rs : List Ru} {host : Lab} : ∀ row ∈ rowsOf rs host, row.length ≤ rs.length := by
  intro row hrow
  simp only [rowsOf, List.mem_cons] at hrow
  rcases hrow with h | h
  · rw [h]; exact idxF_len _ _
  · split at h
    · cases h
    · have e0 : famOf rs = famAt (famOf rs) [] := rfl
      rw [e0] at h
      rcases rowsG_rows _ _ _ _ h with h | ⟨d, _, h⟩
      · rw [h]; exact idxF_len _ _
      · rw [h]; exact idxF_len _ _
theorem rows_len {rs : List Ru} {host : Lab} {rows : List (List Nat)} (h : rows.filter (· ≠ []) = (rowsOf rs host).filter (· ≠ [])) : ∀ row ∈ rows, row.length ≤ rs.length := by
  intro row hrow
  by_cases h0 : row = []
  · rw [h0]; exact Nat.zero_le _
  · have h1 : row ∈ rows.filter (· ≠ []) := List.mem_filter.2 ⟨hrow, by simpa using h0⟩
    rw [h] at h1
    exact rowsOf_len row (List.mem_filter.1 h1).1
theorem rows_lt {rs : List Ru} {host : Lab} {rows : List (List Nat)} (h : rows.filter (· ≠ []) = (rowsOf rs host).filter (· ≠ [])) : ∀ row ∈ rows, ∀ k ∈ row, k < rs.length := by
  intro row hrow k hk
  have h1 : row ∈ rows.filter (· ≠ []) := List.mem_filter.2 ⟨hrow, by simp; rintro rfl; cases hk⟩
  rw [h] at h1
  exact rowsOf_lt row (List.mem_filter.1 h1).1 k hk
def optV : Option Nat → Value
  | none => .int .i64 (-1)
  | some n => .int .i64 (n : Int)
def resV (p : Ru × Nat × Bool) : Value := .tuple #[ruV p.1, .int .i64 (p.2.1 : Int), .bool p.2.2]
section
variable {W0 : World} {F : Heap}
theorem labels_len (l : Lab) : (labelsL l).length ≤ l.length + 1 := by
  unfold labelsL
  split
  · simp
  · rw [List.length_reverse, splitB_length]; have := List.count_le_length (a := (46 : UInt8)) (l := l); omega
theorem Find_spec (hv : Vars W0) {rs : List Ru} {bt : Nat} {TH : Heap} (h : TrieQ rs bt TH) (host : Lab) (hl : host.length < 4294967281) (port : Int) (v3 : Value) (alpn : List Lab) (hal : AlpnAt W0 F v3 alpn) :
    T Tryz.prog W0 56 #[.pointer (some ⟨bt, 0, none⟩), S host, .int .i64 port, v3] (TH ++ F) (fun v H' => v = resV (pickL rs (findB rs host port alpn)) ∧ H' = TH ++ F) := by
  obtain ⟨rv, av, ve, vl, vm, mh, oh, Br, Ba, Hn, ha, hTH⟩ := h
  obtain ⟨p, cap, hrv, hc, hat⟩ := Buf.see ha.rules
  have hlen := ha.len
  have hanyl := idxF_len rs isAny
  have hlabl : (labelsL host).length ≤ host.length + 1 := labels_len host
  subst hrv
  have hTHany : RowV W0 ((bt, Obj.cells (trieC (.slice p rs.length cap) av ve vl vm mh) 154 (0, 0)) :: (mh, oh) :: (Br ++ (Ba ++ Hn))) (anyOf rs) av := buf_row (Hr := (bt, Obj.cells (trieC (.slice p rs.length cap) av ve vl vm mh) 154 (0, 0)) :: (mh, oh) :: (Br ++ Hn)) ha.any (by exact permC)
  have hTHr : Lies W0 ((bt, Obj.cells (trieC (.slice p rs.length cap) av ve vl vm mh) 154 (0, 0)) :: (mh, oh) :: (Br ++ (Ba ++ Hn))) p (rs.flatMap ruC) := ((hat W0).app ((bt, Obj.cells (trieC (.slice p rs.length cap) av ve vl vm mh) 154 (0, 0)) :: (mh, oh) :: (Ba ++ Hn))).perm (by exact permC)
  subst hTH
  refine T.intro (args := [_, _, _, _]) Tryz.func56 rfl Tryz.ntmps56 rfl ?_
  repeat' first | refine Y.st ?_ | (refine nw ?_; intro _) | refine Y.kn ?_ | fail
  rename_i b8
  refine G.ef rfl rfl rfl (Eff.buildSlice (cells := #[av]) rfl (by obtain ⟨_, _, rfl, _⟩ := hTHany; kernel_rfl) (by omega) (fun b12 => ?_))
  iterate 3 refine Y.one ?_
  refine GC.cutE (ι := { i : List (List Nat) × List Value × Value × Heap // Buf 28 1 i.2.2.1 i.1.length i.2.1 i.2.2.2 ∧ RowsV W0 ((bt, Obj.cells (trieC (.slice p rs.length cap) av ve vl vm mh) 154 (0, 0)) :: (mh, oh) :: (Br ++ (Ba ++ Hn))) i.1 i.2.1 ∧ i.1.filter (· ≠ []) = (rowsOf rs host).filter (· ≠ []) ∧ i.1.length ≤ 4294967300 })
    (fun i => [(12, i.1.2.2.1)]) [(0, .pointer (some ⟨bt, 0, none⟩)), (2, .int .i64 port), (3, v3), (8, .pointer (some ⟨b8, 0, none⟩)), (11, .int .i64 (-1))] (fun i => i.1.2.2.2 ++ ((b8, Obj.cells (ruA zeroR) 48 (0, 0)) :: (((bt, Obj.cells (trieC (.slice p rs.length cap) av ve vl vm mh) 154 (0, 0)) :: (mh, oh) :: (Br ++ (Ba ++ Hn))) ++ F))) ?_ ?_
  · by_cases hh : host = []
    · subst hh
      repeat' first | refine Y.st ?_ | (refine nw ?_; intro _) | refine Y.kn ?_ | fail
      exact GQ.cutEnd ⟨([anyOf rs], [av], .slice (some ⟨b12, 0, none⟩) 1 1, [(b12, Obj.cells #[av] 28 (0, 0))]), Buf.row b12 1 1 [av] [] rfl rfl (Nat.le_refl _) (by omega), .cons hTHany .nil, by simp [rowsOf], by simp⟩ ⟨rfl, rfl, rfl, rfl, rfl, rfl, trivial⟩ (fun _ h => h)
    · repeat' first | refine Y.st ?_ | (refine nw ?_; intro _) | refine Y.kn ?_ | fail
      refine GC.drawn [(0, .read), (1, .read), (2, .read), (3, .read), (4, .read), (5, .eff), (6, .eff), (7, .tail), (8, .tail)] ([]) (by kernel_rfl) (by kernel_rfl) rfl ?_
      repeat' first | refine Y.st ?_ | (refine nw ?_; intro _) | refine Y.kn ?_ | fail
      refine G.eeP rfl rfl rfl (Eff.callF rfl ((labels_spec hv host (by omega)).mono ?_))
      rintro v H' ⟨lb, rfl, rfl⟩
      refine ⟨fun w hw => hw.sub SubH.out, ?_⟩
      refine G.heap (H' := (lb, Obj.cells (strs (labelsL host)).toArray 9 (0, 0)) :: (b12, Obj.cells #[av] 28 (0, 0)) :: (b8, Obj.cells (ruA zeroR) 48 (0, 0)) :: ((bt, Obj.cells (nodeC [.slice p rs.length cap, av] [.map (some mh)] ve vl vm) 154 (0, 0)) :: (mh, oh) :: (Br ++ (Ba ++ Hn)) ++ F)) ?_ (fun _ h => h)
      have q4 : ((lb, Obj.cells (strs (labelsL host)).toArray 9 (0, 0)) :: (b12, Obj.cells #[av] 28 (0, 0)) :: (b8, Obj.cells (ruA zeroR) 48 (0, 0)) :: ((bt, Obj.cells (nodeC [.slice p rs.length cap, av] [.map (some mh)] ve vl vm) 154 (0, 0)) :: (mh, oh) :: (Br ++ (Ba ++ Hn)) ++ F)).Perm ((bt, Obj.cells (nodeC [.slice p rs.length cap, av] [.map (some mh)] ve vl vm) 154 (0, 0)) :: (Hn ++ ((lb, Obj.cells (strs (labelsL host)).toArray 9 (0, 0)) :: (b12, Obj.cells #[av] 28 (0, 0)) :: (b8, Obj.cells (ruA zeroR) 48 (0, 0)) :: (mh, oh) :: (Br ++ (Ba ++ F))))) := by exact permC
      have hfind := find_spec (W0 := W0) (labelsL host) lb (by omega) (labelsL host).length 0 0 (labelsL host).length (by omega) (Nat.le_refl _) (fun _ => rfl) (famOf rs) ve vl vm Hn ((lb, Obj.cells (strs (labelsL host)).toArray 9 (0, 0)) :: (b12, Obj.cells #[av] 28 (0, 0)) :: (b8, Obj.cells (ruA zeroR) 48 (0, 0)) :: (mh, oh) :: (Br ++ (Ba ++ F))) bt [.slice p rs.length cap, av] [.map (some mh)] 154 ha.node inferInstance
      refine G.eeP rfl rfl rfl (Eff.callP (first := #[]) (captured := #[]) rfl rfl q4 (hfind.mono ?_))
      rintro v H' ⟨rows, vals, B, h1, h2, h3, h4, h5⟩
      refine ⟨fun w hw => (hw.sub (List.nil_sublist _)), ?_⟩
      refine G.heap ?_ (fun w hw => hw.perm h2)
      obtain ⟨q, qc, rfl, hqc, hqat⟩ := Buf.see h1
      have hrl : rows.length ≤ 4294967290 := by simp at h4; omega
      have q2 : (B ++ (((bt, Obj.cells (nodeC [.slice p rs.length cap, av] [.map (some mh)] ve vl vm) 154 (0, 0)) :: Hn) ++ ((lb, Obj.cells (strs (labelsL host)).toArray 9 (0, 0)) :: (b12, Obj.cells #[av] 28 (0, 0)) :: (b8, Obj.cells (ruA zeroR) 48 (0, 0)) :: (mh, oh) :: (Br ++ (Ba ++ F))))).Perm ([(b12, Obj.cells ([av] ++ []).toArray 28 (0, 0))] ++ (B ++ (((bt, Obj.cells (nodeC [.slice p rs.length cap, av] [.map (some mh)] ve vl vm) 154 (0, 0)) :: Hn) ++ ((lb, Obj.cells (strs (labelsL host)).toArray 9 (0, 0)) :: (b8, Obj.cells (ruA zeroR) 48 (0, 0)) :: (mh, oh) :: (Br ++ (Ba ++ F)))))) := by
        simp only [List.append_nil]
        exact permC
      have q3 : (B ++ (((bt, Obj.cells (nodeC [.slice p rs.length cap, av] [.map (some mh)] ve vl vm) 154 (0, 0)) :: Hn) ++ ((lb, Obj.cells (strs (labelsL host)).toArray 9 (0, 0)) :: (b12, Obj.cells #[av] 28 (0, 0)) :: (b8, Obj.cells (ruA zeroR) 48 (0, 0)) :: (mh, oh) :: (Br ++ (Ba ++ F))))).Perm ((((bt, Obj.cells (nodeC [.slice p rs.length cap, av] [.map (some mh)] ve vl vm) 154 (0, 0)) :: Hn) ++ ((lb, Obj.cells (strs (labelsL host)).toArray 9 (0, 0)) :: (b12, Obj.cells #[av] 28 (0, 0)) :: (b8, Obj.cells (ruA zeroR) 48 (0, 0)) :: (mh, oh) :: (Br ++ (Ba ++ F)))) ++ B) := by exact permC
      refine G.ef rfl rfl rfl (Eff.app (hB := Buf.row b12 1 1 [av] [] rfl rfl (Nat.le_refl _) (by omega)) rfl rfl (hH := ⟨q2⟩) (by omega) (by rw [h3.len, Nat.mul_one]) (fun w hw => (hqat W0).ro.own (((bt, Obj.cells (nodeC [.slice p rs.length cap, av] [.map (some mh)] ve vl vm) 154 (0, 0)) :: Hn) ++ ((lb, Obj.cells (strs (labelsL host)).toArray 9 (0, 0)) :: (b12, Obj.cells #[av] 28 (0, 0)) :: (b8, Obj.cells (ruA zeroR) 48 (0, 0)) :: (mh, oh) :: (Br ++ (Ba ++ F)))) w (hw.perm q3)) h3.one (by omega) (by omega) (fun v' B' hB' => ?_))
      repeat' first | refine Y.st ?_ | (refine nw ?_; intro _) | refine Y.kn ?_ | fail
      have hROT : ∀ φ, RO W0 ((bt, Obj.cells (nodeC [.slice p rs.length cap, av] [.map (some mh)] ve vl vm) 154 (0, 0)) :: Hn) φ → RO W0 ((bt, Obj.cells (trieC (.slice p rs.length cap) av ve vl vm mh) 154 (0, 0)) :: (mh, oh) :: (Br ++ (Ba ++ Hn))) φ := fun φ hφ => by
        have h6 : RO W0 ((bt, Obj.cells (trieC (.slice p rs.length cap) av ve vl vm mh) 154 (0, 0)) :: Hn) φ := hφ
        exact (h6.app ((mh, oh) :: (Br ++ Ba))).perm (by exact permC)
      have q5 : (B' ++ (B ++ (((bt, Obj.cells (nodeC [.slice p rs.length cap, av] [.map (some mh)] ve vl vm) 154 (0, 0)) :: Hn) ++ ((lb, Obj.cells (strs (labelsL host)).toArray 9 (0, 0)) :: (b8, Obj.cells (ruA zeroR) 48 (0, 0)) :: (mh, oh) :: (Br ++ (Ba ++ F)))))).Perm ((B ++ [(lb, Obj.cells (strs (labelsL host)).toArray 9 (0, 0))]) ++ (B' ++ ((b8, Obj.cells (ruA zeroR) 48 (0, 0)) :: ((bt, Obj.cells (nodeC [.slice p rs.length cap, av] [.map (some mh)] ve vl vm) 154 (0, 0)) :: (mh, oh) :: (Br ++ (Ba ++ Hn)) ++ F)))) := by exact permC
      refine GQ.cutEnd ⟨(anyOf rs :: rows, av :: vals, v', B'), by rw [List.length_cons, Nat.add_comm]; exact hB', .cons hTHany (h3.imp hROT), ?_, by simp; omega⟩ ⟨rfl, rfl, rfl, rfl, rfl, rfl, trivial⟩ (fun w hw => (hw.perm q5).sub (List.sublist_append_right _ _))
      simp only [rowsOf, if_neg hh, List.filter_cons, h5, List.drop_zero]
  rintro ⟨⟨rows, vals, v12, B⟩, hbuf, hrows, hfil, hrl⟩
  dsimp only at hbuf hrows hfil hrl ⊢
  obtain ⟨q, qc, rfl, hqc, hqat⟩ := Buf.see hbuf
  have hlt := rows_lt hfil
  have hbest : findB rs host port alpn = rows.foldl (bestStep (fun i => fitsL (rs.getD i zeroR) port alpn) (fun i => (rs.getD i zeroR).prio)) none := (bestOf_same _ _ hfil).symm
  have hal0 : AlpnAt W0 (B ++ ((b8, Obj.cells (ruA zeroR) 48 (0, 0)) :: (bt, Obj.cells (trieC (.slice p rs.length cap) av ve vl vm mh) 154 (0, 0)) :: (mh, oh) :: (Br ++ (Ba ++ Hn) ++ F))) v3 alpn := hal.imp (fun φ hφ => (hφ.app (B ++ ((b8, Obj.cells (ruA zeroR) 48 (0, 0)) :: ((bt, Obj.cells (trieC (.slice p rs.length cap) av ve vl vm mh) 154 (0, 0)) :: (mh, oh) :: (Br ++ (Ba ++ Hn)))))).perm (by exact permC))
  have hown : ∀ φ, RO W0 ((bt, Obj.cells (trieC (.slice p rs.length cap) av ve vl vm mh) 154 (0, 0)) :: (mh, oh) :: (Br ++ (Ba ++ Hn))) φ → ∀ w, Own W0 (B ++ ((b8, Obj.cells (ruA zeroR) 48 (0, 0)) :: (bt, Obj.cells (trieC (.slice p rs.length cap) av ve vl vm mh) 154 (0, 0)) :: (mh, oh) :: (Br ++ (Ba ++ Hn) ++ F))) w → φ w := fun φ hφ w hw => hφ (B ++ ((b8, Obj.cells (ruA zeroR) 48 (0, 0)) :: F)) w (hw.perm (by exact permC))
  repeat' first | refine Y.st ?_ | (refine nw ?_; intro _) | refine Y.kn ?_ | fail
  -- the rows, one behind the other
  refine GC.loopE (ι := { i : Nat × Option Nat // i.1 ≤ rows.length ∧ i.2 = (rows.take i.1).foldl (bestStep (fun i => fitsL (rs.getD i zeroR) port alpn) (fun i => (rs.getD i zeroR).prio)) none ∧ ∀ b, i.2 = some b → b < rs.length })
    (fun i => [(11, optV i.1.2), (35, .int .i64 (i.1.1 : Int))]) [(0, _), (2, _), (3, _), (8, _), (33, _), (34, _)] (fun _ => (B ++ ((b8, Obj.cells (ruA zeroR) 48 (0, 0)) :: (bt, Obj.cells (trieC (.slice p rs.length cap) av ve vl vm mh) 154 (0, 0)) :: (mh, oh) :: (Br ++ (Ba ++ Hn) ++ F)))) (fun i => rows.length - i.1.1) ⟨(0, none), Nat.zero_le _, rfl, fun b h => by cases h⟩ ⟨rfl, rfl, rfl, rfl, rfl, rfl, rfl, rfl, trivial⟩ (fun _ h => h) ?_
  rintro ⟨⟨k, best⟩, hk, hbk, hbl⟩
  dsimp only [List.cons_append, List.nil_append] at hk hbk hbl ⊢
  by_cases hlt1 : k < rows.length
  · obtain ⟨vr, hvr, pr, cr, rfl, hcr, hrat⟩ := hrows.get k hlt1
    have hvc : ∀ w, Own W0 (B ++ ((b8, Obj.cells (ruA zeroR) 48 (0, 0)) :: (bt, Obj.cells (trieC (.slice p rs.length cap) av ve vl vm mh) 154 (0, 0)) :: (mh, oh) :: (Br ++ (Ba ++ Hn) ++ F))) w → ∃ qb qo, q = some ⟨qb, qo, none⟩ ∧ w.cell? ⟨qb, qo + k * 1, none⟩ = some (.slice pr rows[k].length cr) := fun w hw => by
      rcases hqat W0 with h0 | ⟨qb, qo, h1, h2⟩
      · rw [h0] at hvr; simp at hvr
      · refine ⟨qb, qo, h1, ?_⟩
        rw [Nat.mul_one]
        exact h2 ((b8, Obj.cells (ruA zeroR) 48 (0, 0)) :: (bt, Obj.cells (trieC (.slice p rs.length cap) av ve vl vm mh) 154 (0, 0)) :: (mh, oh) :: (Br ++ (Ba ++ Hn) ++ F)) w (hw.perm (by exact permC)) k _ hvr
    obtain ⟨qb, qo, rfl, hqc2⟩ : ∃ qb qo, q = some ⟨qb, qo, none⟩ ∧ RO W0 B (fun w => CellsAt w qb qo vals) := by
      rcases hqat W0 with h0 | h
      · rw [h0] at hvr; simp at hvr
      · exact h
    have hvcell : ∀ w, Own W0 (B ++ ((b8, Obj.cells (ruA zeroR) 48 (0, 0)) :: (bt, Obj.cells (trieC (.slice p rs.length cap) av ve vl vm mh) 154 (0, 0)) :: (mh, oh) :: (Br ++ (Ba ++ Hn) ++ F))) w → w.cell? ⟨qb, qo + k * 1, none⟩ = some (.slice pr rows[k].length cr) := fun w hw => by
      rw [Nat.mul_one]
      exact hqc2 ((b8, Obj.cells (ruA zeroR) 48 (0, 0)) :: (bt, Obj.cells (trieC (.slice p rs.length cap) av ve vl vm mh) 154 (0, 0)) :: (mh, oh) :: (Br ++ (Ba ++ Hn) ++ F)) w (hw.perm (by exact permC)) k _ hvr
    have hrowlt := hlt rows[k] (List.getElem_mem hlt1)
    have hrowlen := rows_len hfil rows[k] (List.getElem_mem hlt1)
    repeat' first | refine Y.st ?_ | (refine nw ?_; intro _) | refine Y.kn ?_ | fail
    refine GC.loopE (ι := { i : Nat × Option Nat // i.1 ≤ rows[k].length ∧ i.2 = (rows[k].take i.1).foldl (rowStep (fun i => fitsL (rs.getD i zeroR) port alpn) (fun i => (rs.getD i zeroR).prio)) none ∧ ∀ b, i.2 = some b → b < rs.length })
      (fun i => [(15, optV i.1.2), (41, .int .i64 (i.1.1 : Int))]) [(0, _), (2, _), (3, _), (8, _), (11, _), (33, _), (34, _), (35, _), (39, _), (40, _)] (fun _ => (B ++ ((b8, Obj.cells (ruA zeroR) 48 (0, 0)) :: (bt, Obj.cells (trieC (.slice p rs.length cap) av ve vl vm mh) 154 (0, 0)) :: (mh, oh) :: (Br ++ (Ba ++ Hn) ++ F)))) (fun i => rows[k].length - i.1.1) ⟨(0, none), Nat.zero_le _, rfl, fun b h => by cases h⟩ ⟨rfl, rfl, rfl, rfl, rfl, rfl, rfl, rfl, rfl, rfl, rfl, rfl, trivial⟩ (fun _ h => h) ?_
    rintro ⟨⟨j, at_⟩, hj, hat_, hal_⟩
    dsimp only [List.cons_append, List.nil_append] at hj hat_ hal_ ⊢
    by_cases hlt2 : j < rows[k].length
    · rcases hrat with h0 | ⟨rb, ro, rfl, hrat⟩
      · have := congrArg List.length h0; rw [ints_length] at this; simp at this; rw [this] at hlt2; simp at hlt2
      have hkl := hrowlt rows[k][j] (List.getElem_mem hlt2)
      have hkcell : ∀ w, Own W0 (B ++ ((b8, Obj.cells (ruA zeroR) 48 (0, 0)) :: (bt, Obj.cells (trieC (.slice p rs.length cap) av ve vl vm mh) 154 (0, 0)) :: (mh, oh) :: (Br ++ (Ba ++ Hn) ++ F))) w → w.cell? ⟨rb, ro + j * 1, none⟩ = some (.int .i64 (rows[k][j] : Int)) := fun w hw => by
        rw [Nat.mul_one]
        exact hown _ hrat w hw j _ (by simp [ints, hlt2])
      obtain ⟨pb, po, rfl, hpat⟩ : ∃ pb po, p = some ⟨pb, po, none⟩ ∧ RO W0 ((bt, Obj.cells (trieC (.slice p rs.length cap) av ve vl vm mh) 154 (0, 0)) :: (mh, oh) :: (Br ++ (Ba ++ Hn))) (fun w => CellsAt w pb po (rs.flatMap ruC)) := by
        rcases hTHr with h0 | h
        · have := congrArg List.length h0; rw [rules_len] at this; simp only [List.length_nil] at this; omega
        · exact h
      have hrc : ∀ m, m < rs.length → ∀ w, Own W0 _ w → CellsAt w pb (po + m * 5) (ruC (rs.getD m zeroR)) := fun m hm => rules_cells (hown _ hpat) hm
      have hprio : ∀ m, m < rs.length → ∀ w, Own W0 _ w → w.cell? ⟨pb, po + m * 5 + 1, none⟩ = some (.int .i64 (rs.getD m zeroR).prio) := fun m hm w hw => hrc m hm w hw 1 _ rfl
      have hrck := hrc _ hkl
      have hprk := hprio _ hkl
      repeat' first | refine Y.st ?_ | (refine nw ?_; intro _) | refine Y.kn ?_ | fail
      refine GC.drawnH [(0, .read), (1, .read), (2, .read), (3, .read), (4, .read), (5, .read), (6, .read), (7, .read), (8, .read), (9, .eff), (10, .read), (11, .read), (12, .read), (13, .read), (14, .read), (15, .read), (16, .read), (17, .read), (18, .read), (19, .read), (20, .read), (21, .read), (22, .read), (23, .read), (24, .read), (25, .read), (26, .read), (27, .read), (28, .read), (29, .read), (30, .read), (31, .read), (32, .read)] (by kernel_rfl) (by kernel_rfl) rfl ?_
      repeat' first | refine Y.st ?_ | (refine nw ?_; intro _) | refine Y.kn ?_ | fail
      refine G.eeP rfl rfl rfl (Eff.callF rfl ((fits_spec (rs.getD rows[k][j] zeroR) port v3 alpn hal0).mono ?_))
      rintro v H' ⟨rfl, rfl⟩
      refine ⟨fun w hw => hw, ?_⟩
      have hnext : ∀ o, rowStep (fun i => fitsL (rs.getD i zeroR) port alpn) (fun i => (rs.getD i zeroR).prio) at_ rows[k][j] = o → o = (rows[k].take (j + 1)).foldl (rowStep (fun i => fitsL (rs.getD i zeroR) port alpn) (fun i => (rs.getD i zeroR).prio)) none := fun o ho => by
        rw [List.take_succ_eq_append_getElem hlt2, List.foldl_append, ← hat_]; exact ho.symm
      cases hf : fitsL (rs.getD rows[k][j] zeroR) port alpn with
      | false =>
        repeat' first | refine Y.st ?_ | (refine nw ?_; intro _) | refine Y.kn ?_ | (refine sp ?_ ?_ <;> intro _) | fail
        exact GQ.back ⟨(j + 1, at_), by omega, hnext _ (rowStep_no hf), hal_⟩ (by simp only; omega) ⟨rfl, rfl, rfl, rfl, rfl, rfl, rfl, rfl, rfl, rfl, rfl, rfl, trivial⟩ (fun _ h => h)
      | true =>
        cases at_ with
        | none =>
          repeat' first | refine Y.st ?_ | (refine nw ?_; intro _) | refine Y.kn ?_ | (refine sp ?_ ?_ <;> intro _) | fail
          exact GQ.back ⟨(j + 1, some rows[k][j]), by omega, hnext _ (rowStep_first hf), fun b hb => by cases hb; exact hkl⟩ (by simp only; omega) ⟨rfl, rfl, rfl, rfl, rfl, rfl, rfl, rfl, rfl, rfl, rfl, rfl, trivial⟩ (fun _ h => h)
        | some a =>
          have hal9 := hal_ a rfl
          have hpra := hprio a hal9
          by_cases hpp : (rs.getD a zeroR).prio < (rs.getD rows[k][j] zeroR).prio
          · repeat' first | refine Y.st ?_ | (refine nw ?_; intro _) | refine Y.kn ?_ | (refine sp ?_ ?_ <;> intro _) | fail
            exact GQ.back ⟨(j + 1, some rows[k][j]), by omega, hnext _ (rowStep_more hf hpp), fun b hb => by cases hb; exact hkl⟩ (by simp only; omega) ⟨rfl, rfl, rfl, rfl, rfl, rfl, rfl, rfl, rfl, rfl, rfl, rfl, trivial⟩ (fun _ h => h)
          · repeat' first | refine Y.st ?_ | (refine nw ?_; intro _) | refine Y.kn ?_ | (refine sp ?_ ?_ <;> intro _) | fail
            exact GQ.back ⟨(j + 1, some a), by omega, hnext _ (rowStep_less hf hpp), hal_⟩ (by simp only; omega) ⟨rfl, rfl, rfl, rfl, rfl, rfl, rfl, rfl, rfl, rfl, rfl, rfl, trivial⟩ (fun _ h => h)
    · obtain rfl : j = rows[k].length := by omega
      rw [List.take_length] at hat_
      have hrb : rowBest (fun i => fitsL (rs.getD i zeroR) port alpn) (fun i => (rs.getD i zeroR).prio) rows[k] = at_ := hat_.symm
      have hnext : ∀ o, bestStep (fun i => fitsL (rs.getD i zeroR) port alpn) (fun i => (rs.getD i zeroR).prio) best rows[k] = o → o = (rows.take (k + 1)).foldl (bestStep (fun i => fitsL (rs.getD i zeroR) port alpn) (fun i => (rs.getD i zeroR).prio)) none := fun o ho => by
        rw [List.take_succ_eq_append_getElem hlt1, List.foldl_append, ← hbk]; exact ho.symm
      cases at_ with
      | none =>
        repeat' first | refine Y.st ?_ | (refine nw ?_; intro _) | refine Y.kn ?_ | fail
        refine GC.drawnH [(0, .read), (1, .read), (2, .read), (3, .read), (4, .read), (5, .read), (6, .read), (7, .read), (8, .read), (9, .read), (10, .read), (11, .read), (12, .read), (13, .read), (14, .read), (15, .read), (16, .read), (17, .read), (18, .read), (19, .read), (20, .read), (21, .read), (22, .read), (23, .read), (24, .read)] (by kernel_rfl) (by kernel_rfl) rfl ?_
        repeat' first | refine Y.st ?_ | (refine nw ?_; intro _) | refine Y.kn ?_ | (refine sp ?_ ?_ <;> intro _) | fail
        exact GQ.back ⟨(k + 1, best), by omega, hnext _ (bestStep_none hrb), hbl⟩ (by simp only; omega) ⟨rfl, rfl, rfl, rfl, rfl, rfl, rfl, rfl, trivial⟩ (fun _ h => h)
      | some a =>
        have hal9 := hal_ a rfl
        cases best with
        | none =>
          repeat' first | refine Y.st ?_ | (refine nw ?_; intro _) | refine Y.kn ?_ | fail
          refine GC.drawnH [(0, .read), (1, .read), (2, .read), (3, .read), (4, .read), (5, .read), (6, .read), (7, .read), (8, .read), (9, .read), (10, .read), (11, .read), (12, .read), (13, .read), (14, .read), (15, .read), (16, .read), (17, .read), (18, .read), (19, .read), (20, .read), (21, .read), (22, .read), (23, .read), (24, .read)] (by kernel_rfl) (by kernel_rfl) rfl ?_
          repeat' first | refine Y.st ?_ | (refine nw ?_; intro _) | refine Y.kn ?_ | (refine sp ?_ ?_ <;> intro _) | fail
          exact GQ.back ⟨(k + 1, some a), by omega, hnext _ (bestStep_first hrb), hal_⟩ (by simp only; omega) ⟨rfl, rfl, rfl, rfl, rfl, rfl, rfl, rfl, trivial⟩ (fun _ h => h)
        | some b =>
          have hbl9 := hbl b rfl
          obtain ⟨pb, po, rfl, hpat⟩ : ∃ pb po, p = some ⟨pb, po, none⟩ ∧ RO W0 _ (fun w => CellsAt w pb po (rs.flatMap ruC)) := by
            rcases hTHr with h0 | h
            · have := congrArg List.length h0; rw [rules_len] at this; simp only [List.length_nil] at this; omega
            · exact h
          have hprio : ∀ m, m < rs.length → ∀ w, Own W0 _ w → w.cell? ⟨pb, po + m * 5 + 1, none⟩ = some (.int .i64 (rs.getD m zeroR).prio) := fun m hm w hw => rules_cells (hown _ hpat) hm w hw 1 _ rfl
          have hpra := hprio a hal9
          have hprb := hprio b hbl9
          by_cases hpp : (rs.getD b zeroR).prio ≤ (rs.getD a zeroR).prio
          · repeat' first | refine Y.st ?_ | (refine nw ?_; intro _) | refine Y.kn ?_ | fail
            refine GC.drawnH [(0, .read), (1, .read), (2, .read), (3, .read), (4, .read), (5, .read), (6, .read), (7, .read), (8, .read), (9, .read), (10, .read), (11, .read), (12, .read), (13, .read), (14, .read), (15, .read), (16, .read), (17, .read), (18, .read), (19, .read), (20, .read), (21, .read), (22, .read), (23, .read), (24, .read)] (by kernel_rfl) (by kernel_rfl) rfl ?_
            repeat' first | refine Y.st ?_ | (refine nw ?_; intro _) | refine Y.kn ?_ | (refine sp ?_ ?_ <;> intro _) | fail
            exact GQ.back ⟨(k + 1, some a), by omega, hnext _ (bestStep_more hrb hpp), hal_⟩ (by simp only; omega) ⟨rfl, rfl, rfl, rfl, rfl, rfl, rfl, rfl, trivial⟩ (fun _ h => h)
          · repeat' first | refine Y.st ?_ | (refine nw ?_; intro _) | refine Y.kn ?_ | fail
            refine GC.drawnH [(0, .read), (1, .read), (2, .read), (3, .read), (4, .read), (5, .read), (6, .read), (7, .read), (8, .read), (9, .read), (10, .read), (11, .read), (12, .read), (13, .read), (14, .read), (15, .read), (16, .read), (17, .read), (18, .read), (19, .read), (20, .read), (21, .read), (22, .read), (23, .read), (24, .read)] (by kernel_rfl) (by kernel_rfl) rfl ?_
            repeat' first | refine Y.st ?_ | (refine nw ?_; intro _) | refine Y.kn ?_ | (refine sp ?_ ?_ <;> intro _) | fail
            exact GQ.back ⟨(k + 1, some b), by omega, hnext _ (bestStep_less hrb hpp), hbl⟩ (by simp only; omega) ⟨rfl, rfl, rfl, rfl, rfl, rfl, rfl, rfl, trivial⟩ (fun _ h => h)
  · obtain rfl : k = rows.length := by omega
    rw [List.take_length, ← hbest] at hbk
    rw [← hbk]
    cases best with
    | none =>
      repeat' first | refine Y.st ?_ | (refine nw ?_; intro _) | refine Y.kn ?_ | fail
      refine G.rd (Rd.build (cells := ruA zeroR) rfl (by rfl)) rfl rfl ?_
      repeat' first | refine Y.st ?_ | (refine nw ?_; intro _) | refine Y.kn ?_ | fail
      refine GQ.res3h (v := ruV zeroR) rfl (.aggA rfl rfl) (.tmp rfl) (.tmp rfl) (((bt, Obj.cells (trieC (.slice p rs.length cap) av ve vl vm mh) 154 (0, 0)) :: (mh, oh) :: (Br ++ (Ba ++ Hn))) ++ F) (fun w hw => hw.sub ((List.sublist_cons_self _ _).trans (List.sublist_append_right B _))) ⟨rfl, rfl⟩
    | some b =>
      have hbl9 := hbl b rfl
      obtain ⟨pb, po, rfl, hpat⟩ : ∃ pb po, p = some ⟨pb, po, none⟩ ∧ RO W0 _ (fun w => CellsAt w pb po (rs.flatMap ruC)) := by
        rcases hTHr with h0 | h
        · have := congrArg List.length h0; rw [rules_len] at this; simp only [List.length_nil] at this; omega
        · exact h
      have hrb9 : ∀ w, Own W0 _ w → CellsAt w pb (po + b * 5) (ruC (rs.getD b zeroR)) := rules_cells (hown _ hpat) hbl9
      repeat' first | refine Y.st ?_ | (refine nw ?_; intro _) | refine Y.kn ?_ | fail
      refine GQ.res3h (v := ruV (rs.getD b zeroR)) rfl (.aggA rfl rfl) (.tmp rfl) (.tmp rfl) (((bt, Obj.cells (trieC (.slice (some ⟨pb, po, none⟩) rs.length cap) av ve vl vm mh) 154 (0, 0)) :: (mh, oh) :: (Br ++ (Ba ++ Hn))) ++ F) (fun w hw => hw.sub ((List.sublist_cons_self _ _).trans (List.sublist_append_right B _))) ⟨rfl, rfl⟩
end
end Go.Tri
