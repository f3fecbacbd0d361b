/-
  A LAW'S ROW, FROM ITS WALK: whatever plain arguments; over any program.
-/
import Derived.Test.YtlakopiopplfhaaGreatDoorOwnF
import Derived.ProofKit
import Derived.ChangeOld
import Derived.Carry
import Derived.ShutString
namespace Go.Own
open Go.RowKit Go.ChangeShapes Go.WideShapes Go.ChangeAt

mutual
def VT.val : VT → Value
  | .int k n => .int k n
  | .bool b => .bool b
  | .str l => S l
  | .slice p cap es => .slice p es.length cap
  | .agg ps => .agg (VT.cellsL ps).toArray
end

section
variable {H : Type} {enc : TypeId × Value → H} {P : Program} {w W : World}

theorem okWide_plain {t : TypeId} {v : Value} {vt : VT} {base : Nat} (hv : Value.okWide P w .any base t v) (hc : v.cells.toList = vt.cells) (hl : vt.Lies P W t) : v = vt.val := by
  cases vt with
  | int k n =>
    obtain ⟨hu, _⟩ := (by simpa [VT.Lies] using hl : P.underlying t = some (.int k) ∧ _)
    obtain ⟨m, rfl⟩ := okWide_int hu hv
    simpa [Value.cells, VT.cells, VT.val] using hc
  | bool b =>
    have hu := (by simpa [VT.Lies] using hl : P.underlying t = some .bool)
    obtain ⟨m, rfl⟩ := okWide_bool hu hv
    simpa [Value.cells, VT.cells, VT.val] using hc
  | str l =>
    obtain ⟨hu, _⟩ := (by simpa [VT.Lies] using hl : P.underlying t = some .string ∧ _)
    obtain ⟨m, rfl⟩ := okWide_string hu hv
    simpa [Value.cells, VT.cells, VT.val] using hc
  | slice p cap es =>
    simp only [VT.Lies] at hl
    obtain ⟨e, hu, _⟩ := hl
    obtain ⟨a, len, cap', rfl⟩ := okWide_slice hu hv
    simpa [Value.cells, VT.cells, VT.val] using hc
  | agg ps =>
    simp only [VT.Lies] at hl
    have hagg : ∃ cs, v = .agg cs := by
      rcases hl with ⟨fs, hu, _⟩ | ⟨n, e, hu, _⟩
      · simp only [Value.okWide, hu] at hv
        obtain ⟨cs, rfl, _⟩ := hv
        exact ⟨cs, rfl⟩
      · simp only [Value.okWide, hu] at hv
        obtain ⟨cs, rfl, _⟩ := hv
        exact ⟨cs, rfl⟩
    obtain ⟨cs, rfl⟩ := hagg
    simp only [Value.cells, VT.cells] at hc
    simp only [VT.val, ← hc]

theorem args_trees {D : Nat} {base : Nat} : ∀ (ts : List TypeId) (vs : List Value) (ds : List (DataW H)) (ps : List MemPlace), ts.all (plainT P D) = true → DataW.TrodAll enc P W 0 (fun _ => true) true ts vs ds ps →
    (∀ (j : Nat) t v, ts[j]? = some t → vs[j]? = some v → Value.okWide P W .any base t v) → (DataW.weightsEach P ts ds).all (· ≤ reachBytes) = true → ∃ vts : List VT, vs = vts.map VT.val ∧ VT.LiesEach P W ts vts
  | [], vs, ds, ps, _, h, _, _ => by
    obtain ⟨rfl, _, _⟩ := trodAll_nil h
    exact ⟨[], rfl, by simp [VT.LiesEach]⟩
  | t :: ts, vs, ds, ps, hp, h, hv, hw => by
    obtain ⟨v, vs', d, ds', p, q, rfl, rfl, rfl, h0, h1⟩ := trodAll_cons h
    simp only [List.all_cons, Bool.and_eq_true] at hp
    simp only [DataW.weightsEach, List.all_append, Bool.and_eq_true] at hw
    obtain ⟨vts, h2, h3⟩ := args_trees ts vs' ds' q hp.2 h1 (fun j t' v' hj hj' => hv (j + 1) t' v' (by simpa using hj) (by simpa using hj')) hw.2
    obtain ⟨fuel, hf⟩ := h0
    obtain ⟨vt, h4, h5⟩ := tree_of_trod D t fuel _ _ hp.1 hf hw.1
    have h6 := okWide_plain (hv 0 t v rfl rfl) h4 h5
    exact ⟨vt :: vts, by rw [List.map_cons, ← h6, h2], by simpa [VT.LiesEach] using ⟨h5, h3⟩⟩

theorem args_back {W' : World} (hl : laidOutB P = true) (hb : Below W.heap.size W W') : ∀ (ts : List TypeId) (vs : List Value) (ds : List (DataW H)) (ps : List MemPlace),
    ts.all (fun t => P.readableRec t && decide (t < P.types.size)) = true → DataW.TrodAll enc P W 0 (fun _ => true) true ts vs ds ps → DataW.TrodAll enc P W' 0 (fun b => decide (b < W.heap.size)) true ts vs ds ps
  | [], vs, ds, ps, _, h => by
    obtain ⟨rfl, rfl, rfl⟩ := trodAll_nil h
    exact trodAll_mk0
  | t :: ts, vs, ds, ps, hr, h => by
    obtain ⟨v, vs', d, ds', p, q, rfl, rfl, rfl, h0, h1⟩ := trodAll_cons h
    simp only [List.all_cons, Bool.and_eq_true, decide_eq_true_eq] at hr
    have hlt : ∀ x ∈ p, x.block < W.heap.size := by obtain ⟨m, hm⟩ := h0; exact DataW.trod_lt m _ _ _ hm
    exact trodAll_cons_mk (Below.trod hl hr.1.1 hr.1.2 h0 hb hlt) (args_back hl hb ts vs' ds' q hr.2 h1)

end

/-! ### Looking into a tree -/
section
variable {P : Program} {W : World} {t e : TypeId} {v : VT}
theorem Lies.int {k : IntKind} [h : UnderT P t (.int k)] (hl : VT.Lies P W t v) : ∃ n, v = .int k n ∧ (Lit.int k n).wf = true := by
  cases v with
  | int k' n =>
    obtain ⟨hu, hw⟩ := (by simpa [VT.Lies] using hl : P.underlying t = some (.int k') ∧ _)
    rw [h.out] at hu
    cases hu
    exact ⟨n, rfl, hw⟩
  | bool b => simp [VT.Lies, h.out] at hl
  | str l => simp [VT.Lies, h.out] at hl
  | slice p c es => simp [VT.Lies, h.out] at hl
  | agg ps => simp [VT.Lies, h.out] at hl
theorem Lies.bool [h : UnderT P t .bool] (hl : VT.Lies P W t v) : ∃ b, v = .bool b := by
  cases v with
  | bool b => exact ⟨b, rfl⟩
  | int k' n => simp [VT.Lies, h.out] at hl
  | str l => simp [VT.Lies, h.out] at hl
  | slice p c es => simp [VT.Lies, h.out] at hl
  | agg ps => simp [VT.Lies, h.out] at hl
theorem Lies.str [h : UnderT P t .string] (hl : VT.Lies P W t v) : ∃ l, v = .str l ∧ l.length ≤ 140737488351232 := by
  cases v with
  | str l => exact ⟨l, rfl, (by simpa [VT.Lies, h.out] using hl)⟩
  | bool b => simp [VT.Lies, h.out] at hl
  | int k' n => simp [VT.Lies, h.out] at hl
  | slice p c es => simp [VT.Lies, h.out] at hl
  | agg ps => simp [VT.Lies, h.out] at hl
theorem Lies.slice [h : UnderT P t (.slice e)] (hl : VT.Lies P W t v) : ∃ p c es, v = .slice p c es ∧ Pt p es.length ∧ es.length ≤ c ∧ c * P.bytesOf e ≤ 140737488351232 ∧ At W p (VT.cellsL es) ∧ VT.LiesAll P W e es := by
  cases v with
  | slice p c es =>
    simp only [VT.Lies] at hl
    obtain ⟨e', hu, h1⟩ := hl
    rw [h.out] at hu
    cases hu
    exact ⟨p, c, es, rfl, h1⟩
  | bool b => simp [VT.Lies, h.out] at hl
  | int k' n => simp [VT.Lies, h.out] at hl
  | str l => simp [VT.Lies, h.out] at hl
  | agg ps => simp [VT.Lies, h.out] at hl
/-- A struct's types, one by one. -/
class FieldsT (P : Program) (t : TypeId) (ts : outParam (List TypeId)) : Prop where
  out : ∃ fs, P.underlying t = some (.struct fs) ∧ fs.toList.map (·.type) = ts
theorem Lies.agg {ts : List TypeId} [h : FieldsT P t ts] (hl : VT.Lies P W t v) : ∃ ps, v = .agg ps ∧ VT.LiesEach P W ts ps := by
  obtain ⟨fs, hu, rfl⟩ := h.out
  cases v with
  | agg ps =>
    simp only [VT.Lies] at hl
    rcases hl with ⟨fs', hu', h1⟩ | ⟨n, e', hu', _⟩
    · rw [hu] at hu'; cases hu'; exact ⟨ps, rfl, h1⟩
    · rw [hu] at hu'; cases hu'
  | bool b => simp [VT.Lies, hu] at hl
  | int k' n => simp [VT.Lies, hu] at hl
  | str l => simp [VT.Lies, hu] at hl
  | slice p c es => simp [VT.Lies, hu] at hl
theorem Lies.array {n : Nat} [h : UnderT P t (.array n e)] (hl : VT.Lies P W t v) : ∃ ps, v = .agg ps ∧ ps.length = n ∧ VT.LiesAll P W e ps := by
  cases v with
  | agg ps =>
    simp only [VT.Lies] at hl
    rcases hl with ⟨fs', hu', h1⟩ | ⟨n', e', hu', h1⟩
    · rw [h.out] at hu'; cases hu'
    · rw [h.out] at hu'; cases hu'; exact ⟨ps, rfl, h1⟩
  | bool b => simp [VT.Lies, h.out] at hl
  | int k' n => simp [VT.Lies, h.out] at hl
  | str l => simp [VT.Lies, h.out] at hl
  | slice p c es => simp [VT.Lies, h.out] at hl
theorem LiesAll.mem : ∀ {es : List VT}, VT.LiesAll P W e es → ∀ v ∈ es, VT.Lies P W e v
  | [], _, v, hv => by cases hv
  | x :: es, h, v, hv => by
    simp only [VT.LiesAll] at h
    rcases List.mem_cons.1 hv with rfl | hv
    · exact h.1
    · exact LiesAll.mem h.2 v hv
theorem lies_one {ts : List TypeId} {vs : List VT} (h : VT.LiesEach P W (t :: ts) vs) : ∃ v r, vs = v :: r ∧ VT.Lies P W t v ∧ VT.LiesEach P W ts r := by
  cases vs with
  | nil => simp [VT.LiesEach] at h
  | cons v r => exact ⟨v, r, rfl, by simpa [VT.LiesEach] using h⟩
theorem lies_nil {vs : List VT} (h : VT.LiesEach P W [] vs) : vs = [] := by
  cases vs with
  | nil => rfl
  | cons v r => simp [VT.LiesEach] at h

/-- Bytes that came in. -/
theorem lies_bytes [h : UnderT P e (.int .u8)] : ∀ {es : List VT}, VT.LiesAll P W e es → ∃ l : List UInt8, l.length = es.length ∧ VT.cellsL es = u8s l
  | [], _ => ⟨[], rfl, by simp [VT.cellsL, u8s]⟩
  | x :: es, hl => by
    simp only [VT.LiesAll] at hl
    obtain ⟨n, rfl, hw⟩ := Lies.int (h := h) hl.1
    obtain ⟨l, h1, h2⟩ := lies_bytes hl.2
    refine ⟨UInt8.ofNat n.toNat :: l, by simp [h1], ?_⟩
    have hb := bounds_u8 hw
    rw [VT.cellsL, h2]
    simp only [VT.cells, u8s, List.map_cons, List.singleton_append, List.cons.injEq, and_true]
    congr 1
    rw [UInt8.toNat_ofNat']
    omega
theorem Lies.bytes [h : UnderT P t (.slice e)] [h8 : UnderT P e (.int .u8)] (hb : P.bytesOf e = 1) (hl : VT.Lies P W t v) :
    ∃ p c l, v.val = .slice p l.length c ∧ v.cells = [.slice p l.length c] ∧ Pt p l.length ∧ l.length ≤ c ∧ c ≤ 140737488351232 ∧ At W p (u8s l) := by
  obtain ⟨p, c, es, rfl, hp, hc, hc2, hat, hes⟩ := Lies.slice (h := h) hl
  obtain ⟨l, hlen, hcl⟩ := lies_bytes (h := h8) hes
  rw [hb, Nat.mul_one] at hc2
  rw [hcl] at hat
  exact ⟨p, c, l, by simp [VT.val, hlen], by simp [VT.cells, hlen], by rw [hlen]; exact hp, by omega, hc2, hat⟩
end
end Go.Own
