/-
  WORDS OF A TEXT: what a character that is no ASCII covers; strings.FieldsFunc.
  THE WORDS OF A LINE: strings.FieldsFunc at the blanks.
-/
import Derived.Test.YtohblhfdgoigdaaGreatDoorGTa
import Derived.Test.YtohblhfdgoigdaaGreatDoorGPl
import Derived.Lib.DecodeN
import Derived.Test.YtohblhfdgoigdaaGreatDoorGTb
namespace Go.Own
open Go.Lib
theorem decodeN_high {n b0 b1 b2 b3 : Nat} (h0 : 128 ≤ b0) (hn : 0 < n) : (decodeN n b0 b1 b2 b3).2 ≤ n ∧ (1 < (decodeN n b0 b1 b2 b3).2 → 128 ≤ b1) ∧ (2 < (decodeN n b0 b1 b2 b3).2 → 128 ≤ b2) ∧ (3 < (decodeN n b0 b1 b2 b3).2 → 128 ≤ b3) ∧ (decodeN n b0 b1 b2 b3).2 ≤ 4 := by
  unfold decodeN
  rw [if_neg (by omega)]
  repeat' split
  all_goals (simp only; omega)
/-- What is covered lies in the text, and is no ASCII. -/
theorem decode_cover (l : List UInt8) (pos : Nat) (h : pos < l.length) (ha : 128 ≤ (l[pos]).toNat) :
    pos + (Utf8.decode ⟨l.toArray⟩ pos).2 ≤ l.length ∧ ∀ j (hj : j < l.length), pos ≤ j → j < pos + (Utf8.decode ⟨l.toArray⟩ pos).2 → 128 ≤ (l[j]).toNat := by
  have hsz : (⟨l.toArray⟩ : ByteArray).size = l.length := by simp [ByteArray.size]
  have hg : ∀ j (hj : j < l.length), (⟨l.toArray⟩ : ByteArray).get! j = l[j] := fun j hj => by
    simp [ByteArray.get!, hj]
  rw [decode_at, hsz]
  have hb := hg pos h
  have hc := decodeN_high (n := l.length - pos) (b1 := ((⟨l.toArray⟩ : ByteArray).get! (pos + 1)).toNat) (b2 := ((⟨l.toArray⟩ : ByteArray).get! (pos + 2)).toNat) (b3 := ((⟨l.toArray⟩ : ByteArray).get! (pos + 3)).toNat) ha (by omega)
  rw [hb]
  obtain ⟨c1, c2, c3, c4, c5⟩ := hc
  refine ⟨by omega, fun j hj h1 h2 => ?_⟩
  have hj' := hg j hj
  rcases Nat.lt_or_ge pos j with h3 | h3
  · rcases Nat.lt_or_ge (pos + 1) j with h4 | h4
    · rcases Nat.lt_or_ge (pos + 2) j with h5 | h5
      · obtain rfl : j = pos + 3 := by omega
        rw [← hj']; exact c4 (by omega)
      · obtain rfl : j = pos + 2 := by omega
        rw [← hj']; exact c3 (by omega)
    · obtain rfl : j = pos + 1 := by omega
      rw [← hj']; exact c2 (by omega)
  · obtain rfl : j = pos := by omega
    exact ha
section
variable {P : Program} {W0 : World} {H : Heap} {e : Env} {ty : TypeId} {x : Operand} {R : Value → Heap → Prop}
/-- The next character: not ASCII: what it covers. -/
theorem Eff.nextC {r pos : Nat} {l : List UInt8} {put : Obj → Heap} (hx : opv e x = some (.pointer (some ⟨r, 0, none⟩))) [hs : Spot H r (It l pos) put] (h : pos < l.length) (ha : 128 ≤ (l[pos]).toNat)
    (hR : ∀ c pos' : Nat, 128 ≤ c → c ≤ 2147483647 → pos < pos' → pos' ≤ l.length → (∀ j (hj : j < l.length), pos ≤ j → j < pos' → 128 ≤ (l[j]).toNat) → R (.tuple #[.bool true, .int .i64 (pos : Int), .int .i32 (c : Int)]) (put (It l pos'))) : Eff P W0 e H (.next x true) ty R :=
  Eff.val fun ρ hρ w hw op hop _ => ⟨_, _, w.iterAt r ⟨l.toArray⟩ (pos + (Utf8.decode ⟨l.toArray⟩ pos).2), by
    simp only [execOp, hop, hρ x _ hx]
    rw [Sem.run_bind, run_next_any_at w r ⟨l.toArray⟩ pos _ (hs.get hw) h]; rfl, hR _ _ (decode_high ⟨l.toArray⟩ pos h ha).1 (decode_le _ _) (by have := (decode_high ⟨l.toArray⟩ pos h ha).2; omega) (decode_cover l pos h ha).1 (decode_cover l pos h ha).2, iterAt_own hs hw⟩
end
end Go.Own

namespace Go.Own
/-- make([]T, 0, c). -/
theorem Eff.makeBuf {P : Program} {W0 : World} {H : Heap} {e : Env} {t ty : TypeId} {x y : Operand} {R : Value → Heap → Prop} {el size bytes c : Nat} {zz : Value} {k k' : IntKind} [hs : SliceT P t el size bytes zz] (hx : opv e x = some (.int k 0)) (hy : opv e y = some (.int k' (c : Int))) (hb : bytes * c ≤ 281474976710656) (hc : c ≤ 9223372036854775807)
    (hR : ∀ v B, Buf el size v 0 [] B → R v (B ++ H)) : Eff P W0 e H (.makeSlice t x y) ty R :=
  Eff.val fun ρ hρ w hw op hop _ => by
    obtain ⟨i, hi, hsz, hby, hz⟩ := hs.info
    have hr := run_make (P := P) w t el i zz hs.under hi hz k k' 0 c (by omega) (by omega) (by rw [hby]; omega) (by omega)
    simp only [Int.toNat_natCast] at hr
    have hB : Buf el size (.slice (some ⟨w.heap.size, 0, none⟩) 0 c) 0 [] [(w.heap.size, .cells (([] : List Value) ++ (madeCells zz.cells (c * i.size)).toList).toArray el (0, 0))] :=
      Buf.row w.heap.size 0 c [] (madeCells zz.cells (c * i.size)).toList (by simp) (by simp [size_madeCells, hsz]) (Nat.zero_le _) hc
    refine ⟨_, _, w.alloc (.cells (madeCells zz.cells (c * i.size)) el), by simp [execOp, hop, hρ x _ hx, hρ y _ hy, hr], hR _ _ hB, ?_⟩
    simp only [List.nil_append, Array.toArray_toList, List.singleton_append]
    exact hw.alloc _
theorem wrap_not (s : Nat) (h : s ≤ 9223372036854775807) : IntKind.i64.wrap ((BitVec.ofInt IntKind.i64.bits (-1) ^^^ BitVec.ofInt IntKind.i64.bits (s : Int)).toNat : Int) = -(s : Int) - 1 := by
  have e2 : (BitVec.ofInt 64 (s : Int)).toNat = s := bv_nat 64 s (by omega)
  have e3 : (BitVec.ofInt IntKind.i64.bits (-1) ^^^ BitVec.ofInt IntKind.i64.bits (s : Int)).toNat = 18446744073709551615 - s := by
    show (BitVec.ofInt 64 (-1) ^^^ BitVec.ofInt 64 (s : Int)).toNat = _
    rw [show BitVec.ofInt 64 (-1) = BitVec.allOnes 64 from rfl, BitVec.allOnes_xor, BitVec.toNat_not, e2]
  rw [e3, IntKind.wrap_i64]
  omega
theorem Rd.notI {P : Program} {W0 : World} {H : Heap} {e : Env} {t : TypeId} {x : Operand} {s : Nat} (hx : opv e x = some (.int .i64 (s : Int))) (hs : s ≤ 9223372036854775807) : Rd P W0 H e (.unOp .xor t x) (.int .i64 (-(s : Int) - 1)) := by
  delta Rd
  intro ρ hρ w _ op ho
  have h1 := wrap_not s hs
  have h2 : (Op.unary .xor (.int .i64 (s : Int))).run P w = .ok (.int .i64 (-(s : Int) - 1)) w := by
    simp only [Op.unary, Op.intBits, show IntKind.i64.signed = true from rfl, if_true]
    rw [← h1]; rfl
  simp [execOp, ho, hρ x _ hx, h2]
end Go.Own
namespace Go.Pol
open Go.Own Go.Proofs Go.RowKit Go.Lib Go.Asc Go.Adr Go.Nam Go.Tri
attribute [local irreducible] GC GQ G Rd Eff T
set_option maxRecDepth 20000
set_option maxHeartbeats 4000000
theorem isSep_high (b : UInt8) : 128 ≤ b.toNat → isSep b = false := byte_all (p := fun b => 128 ≤ b.toNat → isSep b = false) (by decide +kernel) b
/-- A piece of the text. -/
def cutL (l : List UInt8) (p : Nat × Nat) : List UInt8 := (l.take p.2).drop p.1
abbrev spC (p : Nat × Nat) : List Value := [.int .i64 (p.1 : Int), .int .i64 (p.2 : Int)]
theorem spC_len (p : Nat × Nat) : (spC p).length = 2 := rfl
theorem spC_one (l : List (Nat × Nat)) : ∀ u ∈ l.flatMap spC, u.oneCell' = true := by
  intro u hu
  obtain ⟨p, _, h⟩ := List.mem_flatMap.1 hu
  simp only [spC, List.mem_cons, List.not_mem_nil, or_false] at h
  rcases h with rfl | rfl <;> rfl
theorem cutL_eq (l : List UInt8) (s k : Nat) : cutL l (s, k) = (l.drop s).take (k - s) := by simp only [cutL]; rw [List.drop_take]
theorem cutL_more {l : List UInt8} {s k j : Nat} (hs : s ≤ k) (hk : k ≤ j) : cutL l (s, j) = cutL l (s, k) ++ cutL l (k, j) := by
  rw [cutL_eq, cutL_eq, cutL_eq, show j - s = (k - s) + (j - k) by omega, List.take_add, List.drop_drop, show s + (k - s) = k by omega]
theorem cutL_len {l : List UInt8} {s k : Nat} (hk : k ≤ l.length) : (cutL l (s, k)).length = k - s := by
  simp only [cutL, List.length_drop, List.length_take]; omega
theorem drop_cut {l : List UInt8} {k j : Nat} (hk : k ≤ j) : l.drop k = cutL l (k, j) ++ l.drop j := by
  rw [cutL_eq]
  conv => lhs; rw [← List.take_append_drop (j - k) (l.drop k)]
  rw [List.drop_drop, show k + (j - k) = j by omega]
section
variable {W0 : World} {F : Heap}
def sepP (c : Nat) : Bool := decide (c = 32) || decide (c = 9)
theorem words_pred : RunePred 78 sepP := fun W0 F c hc => by
  refine T.intro (args := [_]) Tryz.func78 rfl Tryz.ntmps78 rfl ?_
  by_cases h1 : c = 32
  · repeat' first | refine Y.st ?_ | (refine nw ?_; intro _) | refine Y.kn ?_ | (refine sp ?_ ?_ <;> intro _) | fail
    exact GQ.pure1 rfl (.tmp rfl) (by simp [sepP, h1])
  · by_cases h2 : c = 9
    · repeat' first | refine Y.st ?_ | (refine nw ?_; intro _) | refine Y.kn ?_ | (refine sp ?_ ?_ <;> intro _) | fail
      exact GQ.pure1 rfl (.tmp rfl) (by simp [sepP, h2])
    · repeat' first | refine Y.st ?_ | (refine nw ?_; intro _) | refine Y.kn ?_ | (refine sp ?_ ?_ <;> intro _) | fail
      exact GQ.pure1 rfl (.tmp rfl) (by simp [sepP, h1, h2])
/-- What the first loop keeps. -/
structure Fst (l : List UInt8) (k : Nat) (sp : List (Nat × Nat)) (st : Int) : Prop where
  kl : k ≤ l.length
  sps : ∀ p ∈ sp, p.1 ≤ p.2 ∧ p.2 ≤ l.length
  len : sp.length ≤ k
  stl : ∀ s : Nat, st = (s : Int) → s < k
  lo : -9223372036854775808 ≤ st
  is : wordsL l = sp.map (cutL l) ++ wordsG (l.drop k) (if 0 ≤ st then cutL l (st.toNat, k) else [])
theorem Fst.start (l : List UInt8) : Fst l 0 [] (-1) := ⟨Nat.zero_le _, by simp, Nat.le_refl _, fun s h => by omega, by omega, by simp [wordsL]⟩
theorem Fst.sep_in {l : List UInt8} {k s : Nat} {sp : List (Nat × Nat)} (h : Fst l k sp (s : Int)) (hk : k < l.length) (hs : isSep l[k] = true) (hlen : l.length ≤ 9223372036854775807) : Fst l (k + 1) (sp ++ [(s, k)]) (-(s : Int) - 1) := by
  have hsk := h.stl s rfl
  have hne : cutL l (s, k) ≠ [] := fun h0 => by have := cutL_len (l := l) (s := s) (k := k) (by omega); rw [h0] at this; simp at this; omega
  refine ⟨by omega, ?_, by have := h.len; simp; omega, fun s' h' => by omega, by omega, ?_⟩
  · intro p hp
    rcases List.mem_append.1 hp with hp | hp
    · exact h.sps p hp
    · have : p = (s, k) := by simpa using hp
      subst this; exact ⟨by simp only; omega, by simp only; omega⟩
  · rw [h.is, if_pos (by omega), List.drop_eq_getElem_cons hk, Int.toNat_natCast, wordsG_sep _ hs, if_neg hne, if_neg (by omega)]
    simp [wordsL]
theorem Fst.sep_out {l : List UInt8} {k : Nat} {st : Int} {sp : List (Nat × Nat)} (h : Fst l k sp st) (hst : st < 0) (hk : k < l.length) (hs : isSep l[k] = true) : Fst l (k + 1) sp st := by
  refine ⟨by omega, h.sps, by have := h.len; omega, fun s' h' => by omega, h.lo, ?_⟩
  rw [h.is, if_neg (by omega), if_neg (by omega), List.drop_eq_getElem_cons hk, wordsG_sep _ hs, if_pos rfl]; rfl
theorem Fst.word_in {l : List UInt8} {k j s : Nat} {sp : List (Nat × Nat)} (h : Fst l k sp (s : Int)) (hkj : k < j) (hj : j ≤ l.length) (hs : ∀ i (hi : i < l.length), k ≤ i → i < j → isSep l[i] = false) : Fst l j sp (s : Int) := by
  have hsk := h.stl s rfl
  refine ⟨hj, h.sps, by have := h.len; omega, fun s' h' => by omega, h.lo, ?_⟩
  rw [h.is, if_pos (by omega), if_pos (by omega), Int.toNat_natCast, drop_cut (l := l) (Nat.le_of_lt hkj), wordsG_word, ← cutL_more (by omega) (Nat.le_of_lt hkj)]
  intro b hb
  obtain ⟨i, hi, rfl⟩ := List.mem_iff_getElem.1 hb
  have hi2 : i < j - k := by rw [cutL_len hj] at hi; exact hi
  have : (cutL l (k, j))[i] = l[k + i] := by simp [cutL]
  rw [this]; exact hs (k + i) (by omega) (by omega) (by omega)
theorem Fst.word_out {l : List UInt8} {k j : Nat} {st : Int} {sp : List (Nat × Nat)} (h : Fst l k sp st) (hst : st < 0) (hkj : k < j) (hj : j ≤ l.length) (hs : ∀ i (hi : i < l.length), k ≤ i → i < j → isSep l[i] = false) : Fst l j sp (k : Int) := by
  refine ⟨hj, h.sps, by have := h.len; omega, fun s' h' => by omega, by omega, ?_⟩
  rw [h.is, if_neg (by omega), if_pos (by omega), Int.toNat_natCast, drop_cut (l := l) (Nat.le_of_lt hkj), wordsG_word]
  · rw [List.nil_append]
  intro b hb
  obtain ⟨i, hi, rfl⟩ := List.mem_iff_getElem.1 hb
  have hi2 : i < j - k := by rw [cutL_len hj] at hi; exact hi
  have : (cutL l (k, j))[i] = l[k + i] := by simp [cutL]
  rw [this]; exact hs (k + i) (by omega) (by omega) (by omega)
theorem Fst.end_in {l : List UInt8} {s : Nat} {sp : List (Nat × Nat)} (h : Fst l l.length sp (s : Int)) : wordsL l = (sp ++ [(s, l.length)]).map (cutL l) ∧ ∀ p ∈ sp ++ [(s, l.length)], p.1 ≤ p.2 ∧ p.2 ≤ l.length := by
  have hsk := h.stl s rfl
  have hne : cutL l (s, l.length) ≠ [] := fun h0 => by have := cutL_len (l := l) (s := s) (k := l.length) (Nat.le_refl _); rw [h0] at this; simp at this; omega
  refine ⟨?_, ?_⟩
  · have h1 := h.is
    rw [if_pos (by omega), List.drop_eq_nil_of_le (Nat.le_refl _), Int.toNat_natCast] at h1
    rw [h1]; simp [wordsG, hne]
  · intro p hp
    rcases List.mem_append.1 hp with hp | hp
    · exact h.sps p hp
    · have : p = (s, l.length) := by simpa using hp
      subst this; exact ⟨by simp only; omega, Nat.le_refl _⟩
theorem Fst.end_out {l : List UInt8} {st : Int} {sp : List (Nat × Nat)} (h : Fst l l.length sp st) (hst : st < 0) : wordsL l = sp.map (cutL l) := by
  have h1 := h.is
  rw [if_neg (by omega), List.drop_eq_nil_of_le (Nat.le_refl _)] at h1
  rw [h1]; simp [wordsG]
theorem sp_get {l : List (Nat × Nat)} {k : Nat} (hk : k < l.length) (post : List Value) : ∀ j u, (spC l[k])[j]? = some u → (l.flatMap spC ++ post)[k * 2 + j]? = some u := fun j u hj => by
  have hj2 : j < 2 := (List.getElem?_eq_some_iff.1 hj).1
  have h1 := flat_get spC 2 spC_len l k j hj2
  rw [List.getElem?_eq_getElem hk] at h1
  have h2 := flat_len spC 2 spC_len l
  rw [List.getElem?_append_left (by omega), h1]; exact hj
attribute [local irreducible] cutL wordsL wordsG isSep
theorem fields_spec (l : List UInt8) (hl : l.length ≤ 8796093022207) : T Tryz.prog W0 77 #[S l, .func (.func 78) #[] #[]] F
    (fun v H' => ∃ bk, v = .slice (some ⟨bk, 0, none⟩) (wordsL l).length (wordsL l).length ∧ H' = (bk, .cells (strs (wordsL l)).toArray 9 (0, 0)) :: F) := by
  have hsepA : ∀ b : UInt8, sepP b.toNat = isSep b := fun b => byte_all (p := fun b => sepP b.toNat = isSep b) (by unfold isSep sepP; decide +kernel) b
  have hsepH : ∀ c, 128 ≤ c → sepP c = false := fun c h => by simp [sepP]; omega
  refine T.intro (args := [_, _]) Tryz.func77 rfl Tryz.ntmps77 rfl ?_
  repeat' first | refine Y.st ?_ | (refine nw ?_; intro _) | refine Y.kn ?_ | fail
  refine G.ef rfl rfl rfl (Eff.makeBuf (c := 32) rfl rfl (by omega) (by omega) (fun v0 B0 hB0 => ?_))
  repeat' first | refine Y.st ?_ | (refine nw ?_; intro _) | refine Y.kn ?_ | fail
  refine G.ef rfl rfl rfl (Eff.rangeS rfl (fun r => ?_))
  repeat' first | refine Y.st ?_ | (refine nw ?_; intro _) | refine Y.kn ?_ | fail
  refine GC.loopE (ι := { i : Nat × List (Nat × Nat) × Int × Value × Heap // Fst l i.1 i.2.1 i.2.2.1 ∧ Buf 166 2 i.2.2.2.1 i.2.1.length (i.2.1.flatMap spC) i.2.2.2.2 })
    (fun i => [(5, i.1.2.2.2.1), (6, .int .i64 i.1.2.2.1)]) [(0, _), (1, _), (14, _)] (fun i => (r, It l i.1.1) :: (i.1.2.2.2.2 ++ F)) (fun i => l.length - i.1.1) ⟨(0, [], -1, v0, B0), Fst.start l, hB0⟩ ⟨rfl, rfl, rfl, rfl, rfl, trivial⟩ (fun _ h => h) ?_
  rintro ⟨⟨k, sp, st, v, B⟩, hF, hB⟩
  dsimp only [List.cons_append, List.nil_append] at hF hB ⊢
  have hkl := hF.kl
  have hlo := hF.lo
  have hspl := hF.len
  have hfl := flat_len spC 2 spC_len sp
  by_cases hlt : k < l.length
  · by_cases ha : (l[k]).toNat < 128
    · repeat' first | refine Y.st ?_ | (refine nw ?_; intro _) | refine Y.kn ?_ | fail
      refine G.ef rfl rfl rfl (Eff.nextA rfl hlt ha ?_)
      repeat' first | refine Y.st ?_ | (refine nw ?_; intro _) | refine Y.kn ?_ | fail
      refine G.ef rfl rfl rfl (Eff.callV rfl rfl ((words_pred W0 _ _ (by omega)).mono ?_))
      rintro v' H' ⟨rfl, rfl⟩
      rw [hsepA]
      cases hs : isSep l[k] with
      | true =>
        by_cases hst : 0 ≤ st
        · obtain ⟨s, rfl⟩ : ∃ s : Nat, st = (s : Int) := ⟨st.toNat, by omega⟩
          have hsk := hF.stl s rfl
          repeat' first | refine Y.st ?_ | (refine nw ?_; intro _) | refine Y.kn ?_ | fail
          refine G.rd (Rd.build (cells := (spC (s, k)).toArray) rfl (by rfl)) rfl rfl ?_
          refine G.ef rfl rfl rfl (Eff.buildSlice (cells := (spC (s, k)).toArray) rfl (by kernel_rfl) (by omega) (fun b7 => ?_))
          have q1 : ((b7, Obj.cells (spC (s, k)).toArray 166 (0, 0)) :: (r, It l (k + 1)) :: (B ++ F)).Perm (B ++ ((b7, Obj.cells (spC (s, k)).toArray 166 (0, 0)) :: (r, It l (k + 1)) :: F)) := by exact permC
          refine G.ef rfl rfl rfl (Eff.app (ys := spC (s, k)) rfl hB rfl (hH := ⟨q1⟩) (by omega) rfl (at_here (cs := spC (s, k))) (by have := spC_one [(s, k)]; simpa using this) (by omega) (by omega) (fun v2 B2 hB2 => ?_))
          repeat' first | refine Y.st ?_ | (refine nw ?_; intro _) | refine Y.kn ?_ | fail
          refine G.rd (Rd.notI rfl (by omega)) rfl rfl ?_
          repeat' first | refine Y.st ?_ | (refine nw ?_; intro _) | refine Y.kn ?_ | fail
          have q2 : (B2 ++ ((b7, Obj.cells (spC (s, k)).toArray 166 (0, 0)) :: (r, It l (k + 1)) :: F)).Perm ((b7, Obj.cells (spC (s, k)).toArray 166 (0, 0)) :: (r, It l (k + 1)) :: (B2 ++ F)) := by exact permC
          exact GQ.back ⟨(k + 1, sp ++ [(s, k)], -(s : Int) - 1, v2, B2), hF.sep_in hlt hs (by omega), by simpa using hB2⟩ (by simp only; omega) ⟨rfl, rfl, rfl, rfl, rfl, trivial⟩ (fun w hw => (hw.perm q2).sub (List.sublist_cons_self _ _))
        · repeat' first | refine Y.st ?_ | (refine nw ?_; intro _) | refine Y.kn ?_ | fail
          exact GQ.back ⟨(k + 1, sp, st, v, B), hF.sep_out (by omega) hlt hs, hB⟩ (by simp only; omega) ⟨rfl, rfl, rfl, rfl, rfl, trivial⟩ (fun _ h => h)
      | false =>
        have hone : ∀ i (hi : i < l.length), k ≤ i → i < k + 1 → isSep l[i] = false := fun i hi h1 h2 => by
          obtain rfl : i = k := by omega
          exact hs
        by_cases hst : 0 ≤ st
        · obtain ⟨s, rfl⟩ : ∃ s : Nat, st = (s : Int) := ⟨st.toNat, by omega⟩
          repeat' first | refine Y.st ?_ | (refine nw ?_; intro _) | refine Y.kn ?_ | fail
          exact GQ.back ⟨(k + 1, sp, (s : Int), v, B), hF.word_in (by omega) (by omega) hone, hB⟩ (by simp only; omega) ⟨rfl, rfl, rfl, rfl, rfl, trivial⟩ (fun _ h => h)
        · repeat' first | refine Y.st ?_ | (refine nw ?_; intro _) | refine Y.kn ?_ | fail
          exact GQ.back ⟨(k + 1, sp, (k : Int), v, B), hF.word_out (by omega) (by omega) (by omega) hone, hB⟩ (by simp only; omega) ⟨rfl, rfl, rfl, rfl, rfl, trivial⟩ (fun _ h => h)
    · repeat' first | refine Y.st ?_ | (refine nw ?_; intro _) | refine Y.kn ?_ | fail
      refine G.ef rfl rfl rfl (Eff.nextC rfl hlt (by omega) (fun c pos' h1 h2 h3 h4 h5 => ?_))
      have hall : ∀ i (hi : i < l.length), k ≤ i → i < pos' → isSep l[i] = false := fun i hi h6 h7 => isSep_high _ (h5 i hi h6 h7)
      repeat' first | refine Y.st ?_ | (refine nw ?_; intro _) | refine Y.kn ?_ | fail
      refine G.ef rfl rfl rfl (Eff.callV rfl rfl ((words_pred W0 _ _ h2).mono ?_))
      rintro v' H' ⟨rfl, rfl⟩
      rw [hsepH c h1]
      by_cases hst : 0 ≤ st
      · obtain ⟨s, rfl⟩ : ∃ s : Nat, st = (s : Int) := ⟨st.toNat, by omega⟩
        repeat' first | refine Y.st ?_ | (refine nw ?_; intro _) | refine Y.kn ?_ | fail
        exact GQ.back ⟨(pos', sp, (s : Int), v, B), hF.word_in h3 h4 hall, hB⟩ (by simp only; omega) ⟨rfl, rfl, rfl, rfl, rfl, trivial⟩ (fun _ h => h)
      · repeat' first | refine Y.st ?_ | (refine nw ?_; intro _) | refine Y.kn ?_ | fail
        exact GQ.back ⟨(pos', sp, (k : Int), v, B), hF.word_out (by omega) h3 h4 hall, hB⟩ (by simp only; omega) ⟨rfl, rfl, rfl, rfl, rfl, trivial⟩ (fun _ h => h)
  · obtain rfl : k = l.length := by omega
    repeat' first | refine Y.st ?_ | (refine nw ?_; intro _) | refine Y.kn ?_ | fail
    refine G.ef rfl rfl rfl (Eff.nextE rfl (by omega) ?_)
    iterate 10 refine Y.one ?_
    refine GC.cutE (ι := { q : List (Nat × Nat) × Value × Heap // (∀ p ∈ q.1, p.1 ≤ p.2 ∧ p.2 ≤ l.length) ∧ Buf 166 2 q.2.1 q.1.length (q.1.flatMap spC) q.2.2 ∧ wordsL l = q.1.map (cutL l) ∧ q.1.length ≤ l.length + 1 }) (fun q => [(5, q.1.2.1)]) [(0, S l)]
      (fun q => (r, It l l.length) :: (q.1.2.2 ++ F)) ?_ ?_
    · by_cases hst : 0 ≤ st
      · obtain ⟨s, rfl⟩ : ∃ s : Nat, st = (s : Int) := ⟨st.toNat, by omega⟩
        have hsk := hF.stl s rfl
        have hend := hF.end_in
        repeat' first | refine Y.st ?_ | (refine nw ?_; intro _) | refine Y.kn ?_ | fail
        refine G.rd (Rd.build (cells := (spC (s, l.length)).toArray) rfl (by rfl)) rfl rfl ?_
        refine G.ef rfl rfl rfl (Eff.buildSlice (cells := (spC (s, l.length)).toArray) rfl (by kernel_rfl) (by omega) (fun b7 => ?_))
        have q1 : ((b7, Obj.cells (spC (s, l.length)).toArray 166 (0, 0)) :: (r, It l l.length) :: (B ++ F)).Perm (B ++ ((b7, Obj.cells (spC (s, l.length)).toArray 166 (0, 0)) :: (r, It l l.length) :: F)) := by exact permC
        refine G.ef rfl rfl rfl (Eff.app (ys := spC (s, l.length)) rfl hB rfl (hH := ⟨q1⟩) (by omega) rfl (at_here (cs := spC (s, l.length))) (by have := spC_one [(s, l.length)]; simpa using this) (by omega) (by omega) (fun v2 B2 hB2 => ?_))
        repeat' first | refine Y.st ?_ | (refine nw ?_; intro _) | refine Y.kn ?_ | fail
        have q2 : (B2 ++ ((b7, Obj.cells (spC (s, l.length)).toArray 166 (0, 0)) :: (r, It l l.length) :: F)).Perm ((b7, Obj.cells (spC (s, l.length)).toArray 166 (0, 0)) :: (r, It l l.length) :: (B2 ++ F)) := by exact permC
        exact GQ.cutEnd ⟨(sp ++ [(s, l.length)], v2, B2), hend.2, by simpa using hB2, hend.1, by simp; omega⟩ ⟨rfl, rfl, trivial⟩ (fun w hw => (hw.perm q2).sub (List.sublist_cons_self _ _))
      · repeat' first | refine Y.st ?_ | (refine nw ?_; intro _) | refine Y.kn ?_ | fail
        have hsl : sp.length ≤ l.length + 1 := by omega
        have hst2 : st < 0 := by omega
        exact GQ.cutEnd ⟨(sp, v, B), hF.sps, hB, hF.end_out hst2, hsl⟩ ⟨rfl, rfl, trivial⟩ (fun _ h => h)
    · rintro ⟨⟨ps, u, C⟩, hps, hC, hwl, hpl⟩
      dsimp only [List.cons_append, List.nil_append] at hps hC hwl hpl ⊢
      obtain ⟨p, cap, rfl, hcap, hat⟩ := Buf.see hC
      have hWl : (wordsL l).length = ps.length := by rw [hwl, List.length_map]
      repeat' first | refine Y.st ?_ | (refine nw ?_; intro _) | refine Y.kn ?_ | fail
      refine G.ef rfl rfl rfl (Eff.make (n := ps.length) rfl rfl rfl rfl (by omega) (by omega) rfl (fun ba => ?_))
      repeat' first | refine Y.st ?_ | (refine nw ?_; intro _) | refine Y.kn ?_ | fail
      refine GC.loopE (ι := { i : Nat // i ≤ ps.length }) (fun i => [(49, .int .i64 (i.1 : Int))]) [(0, _), (9, _), (47, _), (48, _)] (fun i => (ba, .cells (strs ((wordsL l).take i.1) ++ List.replicate (ps.length - i.1) (S [])).toArray 9 (0, 0)) :: (r, It l l.length) :: (C ++ F)) (fun i => ps.length - i.1) ⟨0, Nat.zero_le _⟩ ⟨rfl, rfl, rfl, rfl, rfl, trivial⟩ (fun _ h => by simpa [strs] using h) ?_
      rintro ⟨i, hi⟩
      dsimp only [List.cons_append, List.nil_append] at hi ⊢
      by_cases hil : i < ps.length
      · have hpi := hps ps[i] (by simp)
        have hwi : (wordsL l).take (i + 1) = (wordsL l).take i ++ [cutL l ps[i]] := by
          rw [List.take_succ_eq_append_getElem (by omega)]
          congr 2
          simp [hwl]
        have hdl : ((wordsL l).take i).length = i := by rw [List.length_take]; omega
        have hset := set_strs ((wordsL l).take i) ps.length (by omega) (cutL l ps[i])
        rw [hdl] at hset
        have hlies : Go.Tri.Lies W0 ((ba, .cells (strs ((wordsL l).take i) ++ List.replicate (ps.length - i) (S [])).toArray 9 (0, 0)) :: (r, It l l.length) :: (C ++ F)) p (ps.flatMap spC) := ((hat W0).app ((ba, .cells (strs ((wordsL l).take i) ++ List.replicate (ps.length - i) (S [])).toArray 9 (0, 0)) :: (r, It l l.length) :: F)).perm (by exact permC)
        rcases hlies with h0 | ⟨pb, po, rfl, hro⟩
        · have := congrArg List.length h0; rw [flat_len spC 2 spC_len] at this; simp only [List.length_nil] at this; omega
        have hcell : ∀ w, Own W0 ((ba, .cells (strs ((wordsL l).take i) ++ List.replicate (ps.length - i) (S [])).toArray 9 (0, 0)) :: (r, It l l.length) :: (C ++ F)) w → CellsAt w pb (po + i * 2) (spC ps[i]) := fun w hw j u hj => by
          rw [Nat.add_assoc]
          refine hro.here hw (i * 2 + j) u ?_
          have := sp_get hil [] j u hj
          simpa using this
        repeat' first | refine Y.st ?_ | (refine nw ?_; intro _) | refine Y.kn ?_ | fail
        rw [show List.take (ps[i].snd - ps[i].fst) (List.drop ps[i].fst l) = cutL l ps[i] from (cutL_eq l ps[i].1 ps[i].2).symm]
        refine G.ef rfl rfl rfl (Eff.store rfl rfl rfl (by simp [strs_length]; omega) (by simp [Fz]) ?_)
        rw [hset]
        repeat' first | refine Y.st ?_ | (refine nw ?_; intro _) | refine Y.kn ?_ | fail
        exact GQ.back ⟨i + 1, by omega⟩ (by simp only; omega) ⟨rfl, rfl, rfl, rfl, rfl, trivial⟩ (fun w hw => by rw [hwi]; exact hw.sub (List.sublist_cons_self _ _))
      · obtain rfl : i = ps.length := by omega
        have hfull : strs ((wordsL l).take ps.length) ++ List.replicate (ps.length - ps.length) (S []) = strs (wordsL l) := by
          rw [List.take_of_length_le (by omega), Nat.sub_self]; simp
        rw [hfull]
        repeat' first | refine Y.st ?_ | (refine nw ?_; intro _) | refine Y.kn ?_ | fail
        refine GQ.heap (H' := (ba, Obj.cells (strs (wordsL l)).toArray 9 (0, 0)) :: F) ?_ (fun w hw => hw.sub (((List.sublist_append_right C F).cons _).cons_cons _))
        exact GQ.done1 rfl rfl ⟨ba, by rw [hWl], rfl⟩
end
end Go.Pol
