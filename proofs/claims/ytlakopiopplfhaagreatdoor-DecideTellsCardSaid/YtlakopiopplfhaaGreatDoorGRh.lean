/-
  THE DOCUMENT'S ANSWERS, addresses that begin alike.
  THE DOCUMENT'S ANSWERS, names.
  THE DOCUMENT'S ANSWERS, names: the one form, the labels.
-/
import Derived.Test.YtlakopiopplfhaaGreatDoorGRg
import Derived.Test.YtlakopiopplfhaaGreatDoorGCk
namespace Go.Cid
open Go.Own Go.Proofs Go.RowKit Go.Lib Go.Asc Go.Adr Go.Nam Go.Tri Go.Rfn
attribute [local irreducible] GC GQ G Rd Eff T
set_option maxRecDepth 20000
set_option maxHeartbeats 4000000
/-- A byte with one bit struck out. -/
def clrB (r : Nat) (x : UInt8) : UInt8 := x &&& ([127, 191, 223, 239, 247, 251, 253, 254] : List UInt8).getD r 255
/-- A byte of which the bits from m on, among the first r, are struck out. -/
def stB (m : Nat) (x : UInt8) : Nat → UInt8
  | 0 => x
  | r + 1 => if m ≤ r then clrB r (stB m x r) else stB m x r
theorem stB_end : ∀ m < 9, ∀ x : UInt8, stB m x 8 = x &&& keepB m := by
  have key : ∀ x : UInt8, ∀ m < 9, stB m x 8 = x &&& keepB m := fun x => byte_all (p := fun x => ∀ m < 9, stB m x 8 = x &&& keepB m) (by decide +kernel) x
  exact fun m hm x => key x m hm
/-- The row behind k steps. -/
def stA (a : List UInt8) (N k : Nat) : List UInt8 := (List.range 16).map fun j => stB (min (N - 8 * j) 8) (a.getD j 0) (min (k - 8 * j) 8)
theorem stA_len (a : List UInt8) (N k : Nat) : (stA a N k).length = 16 := by simp [stA]
theorem stA_zero {a : List UInt8} (ha : a.length = 16) (N : Nat) : stA a N 0 = a := by
  refine List.ext_getElem (by rw [stA_len, ha]) fun j h1 h2 => ?_
  simp only [stA, List.getElem_map, List.getElem_range, Nat.zero_sub, Nat.zero_min, stB]
  rw [List.getD_eq_getElem?_getD, List.getElem?_eq_getElem h2]; rfl
theorem stA_end {a : List UInt8} (ha : a.length = 16) (N : Nat) : stA a N 128 = maskL a N := by
  refine List.ext_getElem (by rw [stA_len, maskL_len, ha]) fun j h1 h2 => ?_
  have hj : j < 16 := by rw [stA_len] at h1; exact h1
  have h3 := maskL_get a N j (by omega)
  rw [List.getElem?_eq_getElem h2] at h3
  rw [Option.some.inj h3]
  simp only [stA, List.getElem_map, List.getElem_range]
  rw [show min (128 - 8 * j) 8 = 8 by omega, stB_end _ (by omega)]
theorem stA_get {a : List UInt8} (N : Nat) {k : Nat} (hk : k < 128) : (stA a N k)[k / 8]? = some (stB (min (N - 8 * (k / 8)) 8) (a.getD (k / 8) 0) (k % 8)) := by
  simp only [stA, List.getElem?_map]
  rw [List.getElem?_range (by omega), Option.map_some, show min (k - 8 * (k / 8)) 8 = k % 8 by omega]
theorem stA_keep {a : List UInt8} {N k : Nat} (h : k < N) : stA a N (k + 1) = stA a N k := by
  simp only [stA]
  refine List.map_congr_left fun j hj => ?_
  by_cases h1 : j = k / 8
  · subst h1
    rw [show min (k + 1 - 8 * (k / 8)) 8 = k % 8 + 1 by omega, show min (k - 8 * (k / 8)) 8 = k % 8 by omega]
    simp only [stB]
    rw [if_neg (by omega)]
  · rw [show min (k + 1 - 8 * j) 8 = min (k - 8 * j) 8 by omega]
theorem stA_put {a : List UInt8} {N k : Nat} (_ : k < 128) (h : N ≤ k) : stA a N (k + 1) = (stA a N k).set (k / 8) (clrB (k % 8) (stB (min (N - 8 * (k / 8)) 8) (a.getD (k / 8) 0) (k % 8))) := by
  refine List.ext_getElem (by simp [stA_len]) fun j h1 h2 => ?_
  have hj : j < 16 := by rw [stA_len] at h1; exact h1
  rw [List.getElem_set]
  by_cases h3 : k / 8 = j
  · subst h3
    rw [if_pos rfl]
    simp only [stA, List.getElem_map, List.getElem_range]
    rw [show min (k + 1 - 8 * (k / 8)) 8 = k % 8 + 1 by omega]
    simp only [stB]
    rw [if_pos (by omega)]
  · rw [if_neg h3]
    simp only [stA, List.getElem_map, List.getElem_range]
    rw [show min (k + 1 - 8 * j) 8 = min (k - 8 * j) 8 by omega]
theorem clr_val : ∀ r < 8, ∀ x : UInt8, IntKind.u8.wrap ((BitVec.ofInt IntKind.u8.bits (x.toNat : Int) &&& ~~~BitVec.ofInt IntKind.u8.bits (Int.fdiv 128 (2 ^ r))).toNat : Int) = ((clrB r x).toNat : Int) := by
  have key : ∀ x : UInt8, ∀ r < 8, IntKind.u8.wrap ((BitVec.ofInt IntKind.u8.bits (x.toNat : Int) &&& ~~~BitVec.ofInt IntKind.u8.bits (Int.fdiv 128 (2 ^ r))).toNat : Int) = ((clrB r x).toNat : Int) :=
    fun x => byte_all (p := fun x => ∀ r < 8, IntKind.u8.wrap ((BitVec.ofInt IntKind.u8.bits (x.toNat : Int) &&& ~~~BitVec.ofInt IntKind.u8.bits (Int.fdiv 128 (2 ^ r))).toNat : Int) = ((clrB r x).toNat : Int)) (by decide +kernel) x
  exact fun r hr x => key x r hr
section
variable {W0 : World} {H : Heap} {e : Env} {x y : Operand}
theorem Rd.clrB {t t' : TypeId} {u : UInt8} {r : Nat} (hr : r < 8) (hx : opv e x = some (.int .u8 (u.toNat : Int))) (hy : opv e y = some (.int .u8 (Int.fdiv 128 (2 ^ r)))) : Rd Tryz.prog W0 H e (.binOp .andNot t x y t') (.int .u8 ((Go.Cid.clrB r u).toNat : Int)) := by
  delta Rd
  intro ρ hρ w _ o ho
  have h1 := clr_val r hr u
  simp only [execOp, ho, hρ x _ hx, hρ y _ hy, eqGuard, binOp, Op.intBits]
  rw [← h1]
  simp
end
section
variable {W0 : World} {F : Heap}
theorem rmask_spec (a : List UInt8) (n : Int) (ha : a.length = 16) (_ : (Lit.int .i64 n).wf = true) : T Tryz.prog W0 138 #[.agg (u8s a).toArray, .int .i64 n] F (fun v H' => v = .agg (u8s (maskL a (cl n))).toArray ∧ H' = F) := by
  have hcl := cl_le n
  have hcc := cl_cast n
  refine T.intro (args := [_, _]) Tryz.func138 rfl Tryz.ntmps138 rfl ?_
  repeat' first | refine Y.st ?_ | (refine nw ?_; intro _) | refine Y.kn ?_ | fail
  rename_i b2 b4
  rw [← hcc]
  generalize cl n = N at hcl hcc
  have hml := maskL_len a N
  refine GC.loopE (ι := { k : Nat // k ≤ 128 }) (fun i => [(6, .int .i64 (i.1 : Int))]) [(2, _), (4, _), (5, _)] (fun i => (b4, .cells (u8s zero16).toArray 34 (0, 0)) :: (b2, .cells (u8s (stA a N i.1)).toArray 34 (0, 0)) :: F) (fun i => 128 - i.1) ⟨0, by omega⟩ ⟨rfl, rfl, rfl, rfl, trivial⟩ (fun w hw => by rw [stA_zero ha]; exact hw) ?_
  rintro ⟨k, hk⟩
  dsimp only [List.cons_append, List.nil_append] at hk ⊢
  by_cases hlt : k < 128
  · by_cases hN : N ≤ k
    · have hg := stA_get (a := a) N hlt
      have hlen := stA_len a N k
      have hnext := stA_put (a := a) hlt hN
      generalize hz : stB (min (N - 8 * (k / 8)) 8) (a.getD (k / 8) 0) (k % 8) = z at hg hnext
      have hcell : ((u8s (stA a N k)).toArray : Array Value)[0 + k / 8 * 1]? = some (.int .u8 (z.toNat : Int)) := by
        rw [Nat.zero_add, Nat.mul_one, List.getElem?_toArray, u8s, List.getElem?_map, hg]; rfl
      repeat' first | refine Y.st ?_ | (refine nw ?_; intro _) | refine Y.kn ?_ | fail
      refine G.rd (Rd.conv (j := .u64) (c := (k : Int)) rfl (IntWalk.u64_in _ (by omega))) rfl rfl ?_
      repeat' first | refine Y.st ?_ | (refine nw ?_; intro _) | refine Y.kn ?_ | fail
      refine G.rd (Rd.shr (n := k % 8) rfl rfl (by omega) (by show k % 8 ≤ 8; omega) rfl) rfl rfl ?_
      refine G.rd (Rd.clrB (u := z) (r := k % 8) (by omega) rfl rfl) rfl rfl ?_
      repeat' first | refine Y.st ?_ | (refine nw ?_; intro _) | refine Y.kn ?_ | fail
      exact GQ.back ⟨k + 1, by omega⟩ (by simp only; omega) ⟨rfl, rfl, rfl, rfl, trivial⟩ (fun w hw => by rw [hnext]; exact hw)
    · repeat' first | refine Y.st ?_ | (refine nw ?_; intro _) | refine Y.kn ?_ | fail
      exact GQ.back ⟨k + 1, by omega⟩ (by simp only; omega) ⟨rfl, rfl, rfl, rfl, trivial⟩ (fun w hw => by rw [stA_keep (by omega)]; exact hw)
  · obtain rfl : k = 128 := by omega
    rw [stA_end ha]
    repeat' first | refine Y.st ?_ | (refine nw ?_; intro _) | refine Y.kn ?_ | fail
    refine G.ef rfl rfl rfl (Eff.storeAll (cs := u8s zero16) (vs := u8s (maskL a N)) rfl rfl (u8s_one _) (by rw [u8s_length, u8s_length, hml, ha]; rfl) (by rw [u8s_length, hml, ha]) ?_)
    repeat' first | refine Y.st ?_ | (refine nw ?_; intro _) | refine Y.kn ?_ | fail
    exact GQ.res1h (v := .agg (u8s (maskL a N)).toArray) rfl (.agg rfl (by rw [u8s_length, hml, ha])) F (fun w hw => hw.sub ((List.sublist_cons_self _ _).trans (List.sublist_cons_self _ _))) ⟨rfl, rfl⟩
instance {a : List UInt8} {n : Int} : PureF Tryz.prog W0 138 [.agg (u8s a).toArray, .int .i64 n] (a.length = 16 ∧ (Lit.int .i64 n).wf = true) (.agg (u8s (maskL a (cl n))).toArray) := ⟨fun h _ => rmask_spec a n h.1 h.2⟩
theorem rof_spec (a : List UInt8) (n : Int) (ha : a.length = 16) (_ : (Lit.int .i64 n).wf = true) : T Tryz.prog W0 169 #[.agg (u8s a).toArray, .int .i64 n] F (fun v H' => v = cdV (ofL a n) ∧ H' = F) := by
  have hcl := cl_le n
  have hcc := cl_cast n
  have hcn : cl ((cl n : Nat) : Int) = cl n := cl_nat hcl
  refine T.intro (args := [_, _]) Tryz.func169 rfl Tryz.ntmps169 rfl ?_
  repeat' first | refine Y.st ?_ | (refine nw ?_; intro _) | refine Y.kn ?_ | fail
  rename_i b2 b4
  rw [← hcc]
  have hw : (Lit.int .i64 (cl n : Int)).wf = true := wf_small (by omega) (by omega)
  have hml := maskL_len a (cl n)
  repeat' first | refine Y.st ?_ | (refine nw ?_; intro _) | refine Y.kn ?_ | fail
  rw [hcn]
  refine G.rd (Rd.mkCd (a := maskL a (cl n)) (n := (cl n : Int)) (by omega) rfl rfl) rfl rfl ?_
  refine G.ef rfl rfl rfl (Eff.storeAll (cs := cdC zeroC) (vs := cdC (ofL a n)) rfl rfl (cdC_one _) (by rw [cdC_len (siz_of ha n).1]; rfl) (cdC_len (siz_of ha n).1) ?_)
  repeat' first | refine Y.st ?_ | (refine nw ?_; intro _) | refine Y.kn ?_ | fail
  exact GQ.res1h (v := cdV (ofL a n)) rfl (.agg rfl (cdC_len (siz_of ha n).1)) F (fun w hw => hw.sub ((List.sublist_cons_self _ _).trans (List.sublist_cons_self _ _))) ⟨rfl, rfl⟩
instance {a : List UInt8} {n : Int} : PureF Tryz.prog W0 169 [.agg (u8s a).toArray, .int .i64 n] (a.length = 16 ∧ (Lit.int .i64 n).wf = true) (cdV (ofL a n)) := ⟨fun h _ => rof_spec a n h.1 h.2⟩
theorem rright_spec (c : Cd) (h : SizC c) : T Tryz.prog W0 128 #[cdV c] F (fun v H' => v = .bool (rightC c) ∧ H' = F) := by
  have h1 := h.1
  have h2 := h.2
  refine T.intro (args := [_]) Tryz.func128 rfl Tryz.ntmps128 rfl ?_
  repeat' first | refine Y.st ?_ | (refine nw ?_; intro _) | refine Y.kn ?_ | fail
  rename_i b1
  refine GC.drawnH [(0, .read), (1, .read), (2, .read), (3, .read), (4, .read), (5, .eff), (6, .read), (7, .read)] (by kernel_rfl) (by kernel_rfl) rfl ?_
  repeat' first | refine Y.st ?_ | (refine nw ?_; intro _) | refine Y.kn ?_ | fail
  refine G.rd (Rd.loadAggC rfl (cellsH (fun j u hj => by simpa using hj)) (cdC_len h1)) rfl rfl ?_
  repeat' first | refine Y.st ?_ | (refine nw ?_; intro _) | refine Y.kn ?_ | fail
  refine G.rd (Rd.cdAddr rfl rfl h1) rfl rfl ?_
  repeat' first | refine Y.st ?_ | (refine nw ?_; intro _) | refine Y.kn ?_ | fail
  refine G.rd (Rd.cdBits rfl rfl h1) rfl rfl ?_
  repeat' first | refine Y.st ?_ | (refine nw ?_; intro _) | refine Y.kn ?_ | fail
  refine G.rd (Rd.eqlCd c (ofL c.addr c.bits) rfl rfl h (siz_of h1 _)) rfl rfl ?_
  repeat' first | refine Y.st ?_ | (refine nw ?_; intro _) | refine Y.kn ?_ | fail
  exact GQ.pure1 rfl (.tmp rfl) rfl
instance {a : List UInt8} {n : Int} : PureF Tryz.prog W0 128 [.agg (u8s a ++ [Value.int .i64 n]).toArray] (SizC ⟨a, n⟩) (.bool (rightC ⟨a, n⟩)) := ⟨fun h _ => rright_spec ⟨a, n⟩ h⟩
theorem rhas_spec (c : Cd) (a : List UInt8) (h : SizC c) (ha : a.length = 16) : T Tryz.prog W0 104 #[cdV c, .agg (u8s a).toArray] F (fun v H' => v = .bool (hasC c a) ∧ H' = F) := by
  have h1 := h.1
  have h2 := h.2
  have hml := maskL_len a (cl c.bits)
  refine T.intro (args := [_, _]) Tryz.func104 rfl Tryz.ntmps104 rfl ?_
  repeat' first | refine Y.st ?_ | (refine nw ?_; intro _) | refine Y.kn ?_ | fail
  rename_i b2 b3
  cases hr : rightC c with
  | false =>
    refine GC.drawnH [(0, .read), (1, .eff), (2, .read), (3, .read), (4, .read), (5, .read), (7, .read), (8, .read), (6, .eff), (9, .read), (10, .read), (11, .read)] (by kernel_rfl) (by kernel_rfl) rfl ?_
    repeat' first | refine Y.st ?_ | (refine nw ?_; intro _) | refine Y.kn ?_ | fail
    refine G.rd (Rd.loadAggC rfl (cellsH (fun j u hj => by simpa using hj)) (cdC_len h1)) rfl rfl ?_
    repeat' first | refine Y.st ?_ | (refine nw ?_; intro _) | refine Y.kn ?_ | fail
    exact GQ.pure1 rfl (.tmp rfl) (by rw [hasC, hr]; rfl)
  | true =>
    obtain ⟨p1, p2, _⟩ := right_iff.1 hr
    have hcb : ((cl c.bits : Nat) : Int) = c.bits := by rw [cl_cast]; omega
    refine GC.drawnH [(0, .read), (1, .eff), (2, .read), (3, .read), (4, .read), (5, .read), (7, .read), (8, .read), (6, .eff), (9, .read), (10, .read), (11, .read)] (by kernel_rfl) (by kernel_rfl) rfl ?_
    repeat' first | refine Y.st ?_ | (refine nw ?_; intro _) | refine Y.kn ?_ | fail
    refine G.rd (Rd.loadAggC rfl (cellsH (fun j u hj => by simpa using hj)) (cdC_len h1)) rfl rfl ?_
    repeat' first | refine Y.st ?_ | (refine nw ?_; intro _) | refine Y.kn ?_ | fail
    refine G.rd (Rd.cdBits rfl rfl h1) rfl rfl ?_
    repeat' first | refine Y.st ?_ | (refine nw ?_; intro _) | refine Y.kn ?_ | fail
    refine G.rd (Rd.cdAddr rfl rfl h1) rfl rfl ?_
    repeat' first | refine Y.st ?_ | (refine nw ?_; intro _) | refine Y.kn ?_ | fail
    refine G.rd (Rd.eqlBytes (l := maskL a (cl c.bits)) (m := c.addr) rfl (by kernel_rfl) rfl rfl (by omega) h1) rfl rfl ?_
    repeat' first | refine Y.st ?_ | (refine nw ?_; intro _) | refine Y.kn ?_ | fail
    exact GQ.pure1 rfl (.tmp rfl) (by
      rw [hasC, hr, Bool.true_and, beq_dec]
      congr 1
      rw [Bool.eq_iff_iff, decide_eq_true_iff, decide_eq_true_iff]
      constructor
      · intro e; unfold ofL; rw [e, hcb]
      · intro e; exact congrArg Cd.addr e)
end
end Go.Cid

namespace Go.Rfn
open Go.Own Go.Proofs Go.RowKit Go.Lib Go.Asc Go.Adr Go.Nam
attribute [local irreducible] GC GQ G Rd Eff T
set_option maxRecDepth 20000
set_option maxHeartbeats 4000000
theorem strange_iff (c : Nat) : strangeP c = false ↔ ((97 ≤ c ∧ c ≤ 122) ∨ (65 ≤ c ∧ c ≤ 90) ∨ c = 45 ∨ c = 95 ∨ (48 ≤ c ∧ c ≤ 57)) := by
  simp only [strangeP, fineC, otherP, Bool.and_eq_false_iff, Bool.not_eq_false', Bool.or_eq_true, Bool.or_eq_false_iff, decide_eq_true_eq, decide_eq_false_iff_not]
  omega
theorem last_iff {l : List UInt8} (h : 0 < l.length) (c : UInt8) : l.getLast? = some c ↔ (l[l.length - 1]).toNat = c.toNat := by
  rw [List.getLast?_eq_getElem?, List.getElem?_eq_getElem (by omega)]
  simp only [Option.some.injEq]
  exact ⟨fun h => by rw [h], fun h => UInt8.toNat_inj.1 h⟩
theorem head_iff {l : List UInt8} (h : 0 < l.length) (c : UInt8) : l.head? = some c ↔ (l[0]).toNat = c.toNat := by
  rw [head_get, List.getElem?_eq_getElem h]
  simp only [Option.some.injEq]
  exact ⟨fun h => by rw [h], fun h => UInt8.toNat_inj.1 h⟩
section
variable {W0 : World} {F : Heap}
theorem label_spec (l : List UInt8) (hl : l.length ≤ 140737488351232) : T Tryz.prog W0 167 #[S l] F (fun v H' => v = .bool (!badL l) ∧ H' = F) := by
  refine T.intro (args := [_]) Tryz.func167 rfl Tryz.ntmps167 rfl ?_
  repeat' first | refine st ?_ | (refine nw ?_; intro _) | refine kn ?_ | (refine sp ?_ ?_ <;> intro _) | fail
  refine GC.loopE (ι := { k : Nat // k ≤ l.length ∧ ∀ b ∈ l.take k, strangeP b.toNat = false }) (fun i => [(3, .int .i64 (i.1 : Int))]) [(0, _)] (fun i => F) (fun i => l.length - i.1) ⟨0, Nat.zero_le _, by simp⟩ ⟨rfl, rfl, trivial⟩ (fun _ h => h) ?_
  rintro ⟨k, hk, hf⟩
  dsimp only [List.cons_append, List.nil_append] at hk hf ⊢
  by_cases hlt : k < l.length
  · cases hst : strangeP (l[k]).toNat with
    | false =>
      have hs := (strange_iff _).1 hst
      have hnext : ∀ b ∈ l.take (k + 1), strangeP b.toNat = false := by
        rw [List.take_succ_eq_append_getElem hlt]
        intro b hb
        rcases List.mem_append.1 hb with hb | hb
        · exact hf b hb
        · simp only [List.mem_singleton] at hb; subst hb; exact hst
      repeat' first | refine st ?_ | (refine nw ?_; intro _) | refine kn ?_ | (refine sp ?_ ?_ <;> intro _) | fail
      all_goals first
        | (exfalso; omega)
        | exact GQ.back ⟨k + 1, by omega, hnext⟩ (by simp only; omega) ⟨rfl, rfl, trivial⟩ (fun w hw => hw)
    | true =>
      have hs : ¬ ((97 ≤ (l[k]).toNat ∧ (l[k]).toNat ≤ 122) ∨ (65 ≤ (l[k]).toNat ∧ (l[k]).toNat ≤ 90) ∨ (l[k]).toNat = 45 ∨ (l[k]).toNat = 95 ∨ (48 ≤ (l[k]).toNat ∧ (l[k]).toNat ≤ 57)) := fun h => by
        rw [(strange_iff _).2 h] at hst; cases hst
      have hb : badL l = true := by
        cases hb : badL l with
        | true => rfl
        | false => have := (badL_ne hb).2.2 l[k] (by simp); rw [hst] at this; cases this
      rw [hb]
      repeat' first | refine st ?_ | (refine nw ?_; intro _) | refine kn ?_ | (refine sp ?_ ?_ <;> intro _) | fail
      all_goals first
        | (exfalso; omega)
        | exact GQ.pure1 rfl (.tmp rfl) rfl
  · obtain rfl : k = l.length := by omega
    rw [List.take_length] at hf
    have hany : l.any (fun b => strangeP b.toNat) = false := by
      rw [List.any_eq_false]; intro b hb; rw [hf b hb]; simp
    by_cases h0 : l = []
    · subst h0
      have hb : badL [] = true := by decide
      rw [hb]
      repeat' first | refine st ?_ | (refine nw ?_; intro _) | refine kn ?_ | (refine sp ?_ ?_ <;> intro _) | fail
      exact GQ.pure1 rfl (.tmp rfl) rfl
    have hpos := List.length_pos_iff.2 h0
    have hL : LeN 1 l.length := ⟨hpos⟩
    have h1 := head_iff hpos 45
    have h2 := last_iff hpos 45
    have e45 : (45 : UInt8).toNat = 45 := rfl
    rw [e45] at h1 h2
    have hb : badL l = (decide (63 < l.length) || decide ((l[0]).toNat = 45) || decide ((l[l.length - 1]).toNat = 45)) := by
      unfold badL
      rw [hany]
      simp only [h0, decide_false, Bool.false_or, Bool.or_false, h1, h2]
    rw [hb]
    by_cases c1 : 63 < l.length
    · rw [decide_eq_true c1]
      repeat' first | refine st ?_ | (refine nw ?_; intro _) | refine kn ?_ | (refine sp ?_ ?_ <;> intro _) | fail
      exact GQ.pure1 rfl (.tmp rfl) rfl
    · rw [decide_eq_false c1]
      by_cases c2 : (l[0]).toNat = 45
      · rw [decide_eq_true c2]
        repeat' first | refine st ?_ | (refine nw ?_; intro _) | refine kn ?_ | (refine sp ?_ ?_ <;> intro _) | fail
        exact GQ.pure1 rfl (.tmp rfl) rfl
      · rw [decide_eq_false c2]
        by_cases c3 : (l[l.length - 1]).toNat = 45
        · rw [decide_eq_true c3]
          repeat' first | refine st ?_ | (refine nw ?_; intro _) | refine kn ?_ | (refine sp ?_ ?_ <;> intro _) | fail
          exact GQ.pure1 rfl (.tmp rfl) rfl
        · rw [decide_eq_false c3]
          repeat' first | refine st ?_ | (refine nw ?_; intro _) | refine kn ?_ | (refine sp ?_ ?_ <;> intro _) | fail
          exact GQ.pure1 rfl (.tmp rfl) rfl
instance {l : List UInt8} : PureF Tryz.prog W0 167 [S l] (l.length ≤ 140737488351232) (.bool (!badL l)) := ⟨fun h _ => label_spec l h⟩
theorem digits_spec (l : List UInt8) (hl : l.length ≤ 140737488351232) : T Tryz.prog W0 168 #[S l] F (fun v H' => v = .bool (!l.any (fun b => otherP b.toNat)) ∧ H' = F) := by
  refine T.intro (args := [_]) Tryz.func168 rfl Tryz.ntmps168 rfl ?_
  repeat' first | refine st ?_ | (refine nw ?_; intro _) | refine kn ?_ | (refine sp ?_ ?_ <;> intro _) | fail
  refine GC.loopE (ι := { k : Nat // k ≤ l.length ∧ ∀ b ∈ l.take k, otherP b.toNat = false }) (fun i => [(3, .int .i64 (i.1 : Int))]) [(0, _)] (fun i => F) (fun i => l.length - i.1) ⟨0, Nat.zero_le _, by simp⟩ ⟨rfl, rfl, trivial⟩ (fun _ h => h) ?_
  rintro ⟨k, hk, hf⟩
  dsimp only [List.cons_append, List.nil_append] at hk hf ⊢
  by_cases hlt : k < l.length
  · have hoi : otherP (l[k]).toNat = true ↔ ((l[k]).toNat < 48 ∨ 57 < (l[k]).toNat) := by simp [otherP]
    cases hst : otherP (l[k]).toNat with
    | false =>
      have hs : ¬ ((l[k]).toNat < 48 ∨ 57 < (l[k]).toNat) := fun h => by rw [hoi.2 h] at hst; cases hst
      have hnext : ∀ b ∈ l.take (k + 1), otherP b.toNat = false := by
        rw [List.take_succ_eq_append_getElem hlt]
        intro b hb
        rcases List.mem_append.1 hb with hb | hb
        · exact hf b hb
        · simp only [List.mem_singleton] at hb; subst hb; exact hst
      repeat' first | refine st ?_ | (refine nw ?_; intro _) | refine kn ?_ | (refine sp ?_ ?_ <;> intro _) | fail
      all_goals first
        | (exfalso; omega)
        | exact GQ.back ⟨k + 1, by omega, hnext⟩ (by simp only; omega) ⟨rfl, rfl, trivial⟩ (fun w hw => hw)
    | true =>
      have hs := hoi.1 hst
      have hb : l.any (fun b => otherP b.toNat) = true := List.any_eq_true.2 ⟨l[k], by simp, hst⟩
      rw [hb]
      repeat' first | refine st ?_ | (refine nw ?_; intro _) | refine kn ?_ | (refine sp ?_ ?_ <;> intro _) | fail
      all_goals first
        | (exfalso; omega)
        | exact GQ.pure1 rfl (.tmp rfl) rfl
  · obtain rfl : k = l.length := by omega
    rw [List.take_length] at hf
    have hany : l.any (fun b => otherP b.toNat) = false := by
      rw [List.any_eq_false]; intro b hb; rw [hf b hb]; simp
    rw [hany]
    repeat' first | refine st ?_ | (refine nw ?_; intro _) | refine kn ?_ | (refine sp ?_ ?_ <;> intro _) | fail
    exact GQ.pure1 rfl (.tmp rfl) rfl
instance {l : List UInt8} : PureF Tryz.prog W0 168 [S l] (l.length ≤ 140737488351232) (.bool (!l.any (fun b => otherP b.toNat))) := ⟨fun h _ => digits_spec l h⟩
end
end Go.Rfn

namespace Go.Rfn
open Go.Own Go.Proofs Go.RowKit Go.Lib Go.Asc Go.Adr Go.Nam
attribute [local irreducible] GC GQ G Rd Eff T
set_option maxRecDepth 20000
set_option maxHeartbeats 4000000
theorem drop_last_take {l : List UInt8} : l.take (l.length - 1) = l.dropLast := by rw [List.dropLast_eq_take]
section
variable {W0 : World} {F : Heap}
theorem rNormal_spec (s : List UInt8) (hl : s.length ≤ 8796093022207) : T Tryz.prog W0 127 #[S s] F (fun v H' => v = normalV s ∧ H' = F) := by
  refine T.intro (args := [_]) Tryz.func127 rfl Tryz.ntmps127 rfl ?_
  cases hp : parseL s with
  | some a =>
    have ha := parseL_len hp
    have hps : (parseL s).isSome = true := by rw [hp]; rfl
    have hga : (parseL s).getD zero16 = a := by rw [hp]; rfl
    have hnv : normalV s = .tuple #[S (printL a), .int .i64 0] := by simp only [normalV, normalL, hp]; rfl
    rw [hnv]
    have hgl : ((parseL s).getD zero16).length = 16 := by rw [hga]; exact ha
    repeat' first | refine st ?_ | (refine nw ?_; intro _) | refine kn ?_ | (refine sp ?_ ?_ <;> intro _) | fail
    exact GQ.pure2 rfl (.tmp rfl) (.tmp rfl) (by rw [hga])
  | none =>
    have hps : (parseL s).isSome = false := by rw [hp]; rfl
    have hll : (s.map lowB).length = s.length := List.length_map _
    have hn := normal_eq hp
    have hnv : normalV s = .tuple #[S (normalL s).1, .int .i64 ((normalL s).2 : Int)] := rfl
    rw [hnv, hn]
    clear hn hnv
    have hz : (trimL 46 (s.map lowB)).length ≤ s.length := by have := trimL_le 46 (s.map lowB); omega
    rcases Nat.eq_zero_or_pos (s.map lowB).length with hy | hy
    rotate_left
    have hL : LeN 1 (s.map lowB).length := ⟨hy⟩
    have hlast := last_iff hy 46
    have e46 : (46 : UInt8).toNat = 46 := rfl
    rw [e46] at hlast
    by_cases h46 : ((s.map lowB)[(s.map lowB).length - 1]).toNat = 46
    · have ht : trimL 46 (s.map lowB) = (s.map lowB).take ((s.map lowB).length - 1) := by
        rw [trimL, if_pos (hlast.2 h46), drop_last_take]
      rw [ht] at hz ⊢
      clear ht
      repeat' first | refine st ?_ | (refine nw ?_; intro _) | refine kn ?_ | fail
      refine GC.weak (e' := [(6, S ((s.map lowB).take ((s.map lowB).length - 1))), (37, .bool (decide (((s.map lowB).take ((s.map lowB).length - 1)) = [])))]) ?_ ⟨rfl, rfl, trivial⟩ (fun _ h => h)
      clear hlast h46 hL hps hp
      generalize (s.map lowB).take ((s.map lowB).length - 1) = z at hz ⊢
      by_cases c0 : z = []
      · rw [if_pos c0]
        repeat' first | refine st ?_ | (refine nw ?_; intro _) | refine kn ?_ | (refine sp ?_ ?_ <;> intro _) | fail
        exact GQ.pure2 rfl (.tmp rfl) (.tmp rfl) rfl
      rw [if_neg c0]
      by_cases c1 : 253 < z.length
      · rw [if_pos c1]
        repeat' first | refine st ?_ | (refine nw ?_; intro _) | refine kn ?_ | (refine sp ?_ ?_ <;> intro _) | fail
        exact GQ.pure2 rfl (.tmp rfl) (.tmp rfl) rfl
      rw [if_neg c1]
      have hple : ∀ x ∈ splitB 46 z, x.length ≤ z.length := splitB_le 46 z
      have hne := splitB_ne 46 z
      have hpl : (splitB 46 z).length ≤ z.length + 1 := by rw [splitB_length]; have := List.count_le_length (a := (46 : UInt8)) (l := z); omega
      repeat' first | refine st ?_ | (refine nw ?_; intro _) | refine kn ?_ | (refine sp ?_ ?_ <;> intro _) | fail
      refine G.ef rfl rfl rfl (Eff.callF rfl ((Cut_spec z 46 (by omega)).mono ?_))
      rintro v H' ⟨B, hb, rfl⟩
      generalize Asc.splitB 46 z = ps at hb hple hne hpl ⊢
      rcases Buf.parts hb with ⟨_, h0, _, _⟩ | ⟨bk, cap, extra, rfl, rfl, hcap, hx, hmax⟩
      · exact absurd (List.eq_nil_of_length_eq_zero h0) hne
      have hpos := List.length_pos_iff.2 hne
      have hLp : LeN 1 ps.length := ⟨hpos⟩
      have hlastp : ps.getLast?.getD [] = ps[ps.length - 1] := by rw [List.getLast?_eq_getElem?, List.getElem?_eq_getElem (by omega)]; rfl
      rw [hlastp]
      repeat' first | refine st ?_ | (refine nw ?_; intro _) | refine kn ?_ | (refine sp ?_ ?_ <;> intro _) | fail
      refine GC.loopE (ι := { k : Nat // k ≤ ps.length ∧ (ps.take k).any badL = false }) (fun i => [(8, .int .i64 (i.1 : Int))]) [(6, _), (7, _)] (fun i => (bk, .cells (strs ps ++ extra).toArray 9 (0, 0)) :: (_, .cells (u8s ((parseL s).getD zero16)).toArray 34 (0, 0)) :: F) (fun i => ps.length - i.1) ⟨0, Nat.zero_le _, by simp⟩ ⟨rfl, rfl, rfl, trivial⟩ (fun _ h => h) ?_
      rintro ⟨k, hk, hany⟩
      dsimp only [List.cons_append, List.nil_append] at hk hany ⊢
      by_cases hlt : k < ps.length
      · have hpk := hple ps[k] (by simp)
        cases hbd : badL ps[k] with
        | true =>
          have hall : ps.any badL = true := List.any_eq_true.2 ⟨ps[k], by simp, hbd⟩
          rw [if_pos (.inl hall)]
          repeat' first | refine st ?_ | (refine nw ?_; intro _) | refine kn ?_ | (refine sp ?_ ?_ <;> intro _) | fail
          exact GQ.pure2 rfl (.tmp rfl) (.tmp rfl) rfl
        | false =>
          have hnext : (ps.take (k + 1)).any badL = false := by rw [List.take_succ_eq_append_getElem hlt, List.any_append, hany]; simp [hbd]
          repeat' first | refine st ?_ | (refine nw ?_; intro _) | refine kn ?_ | (refine sp ?_ ?_ <;> intro _) | fail
          exact GQ.back ⟨k + 1, by omega, hnext⟩ (by simp only; omega) ⟨rfl, rfl, rfl, trivial⟩ (fun w hw => hw)
      · obtain rfl : k = ps.length := by omega
        rw [List.take_length] at hany
        have hpk := hple ps[ps.length - 1] (by simp)
        cases hlo : (ps[ps.length - 1]).any (fun b => otherP b.toNat) with
        | false =>
          rw [if_pos (.inr rfl)]
          repeat' first | refine st ?_ | (refine nw ?_; intro _) | refine kn ?_ | (refine sp ?_ ?_ <;> intro _) | fail
          exact GQ.pure2 rfl (.tmp rfl) (.tmp rfl) rfl
        | true =>
          rw [if_neg (by rw [hany]; simp)]
          repeat' first | refine st ?_ | (refine nw ?_; intro _) | refine kn ?_ | (refine sp ?_ ?_ <;> intro _) | fail
          exact GQ.pure2 rfl (.tmp rfl) (.tmp rfl) rfl
    · have ht : trimL 46 (s.map lowB) = s.map lowB := by rw [trimL, if_neg (fun e => h46 (hlast.1 e))]
      rw [ht] at hz ⊢
      clear ht
      repeat' first | refine st ?_ | (refine nw ?_; intro _) | refine kn ?_ | fail
      refine GC.weak (e' := [(6, S (s.map lowB)), (37, .bool (decide ((s.map lowB) = [])))]) ?_ ⟨rfl, rfl, trivial⟩ (fun _ h => h)
      clear hlast h46 hL hps hp hll hy
      generalize s.map lowB = z at hz ⊢
      by_cases c0 : z = []
      · rw [if_pos c0]
        repeat' first | refine st ?_ | (refine nw ?_; intro _) | refine kn ?_ | (refine sp ?_ ?_ <;> intro _) | fail
        exact GQ.pure2 rfl (.tmp rfl) (.tmp rfl) rfl
      rw [if_neg c0]
      by_cases c1 : 253 < z.length
      · rw [if_pos c1]
        repeat' first | refine st ?_ | (refine nw ?_; intro _) | refine kn ?_ | (refine sp ?_ ?_ <;> intro _) | fail
        exact GQ.pure2 rfl (.tmp rfl) (.tmp rfl) rfl
      rw [if_neg c1]
      have hple : ∀ x ∈ splitB 46 z, x.length ≤ z.length := splitB_le 46 z
      have hne := splitB_ne 46 z
      have hpl : (splitB 46 z).length ≤ z.length + 1 := by rw [splitB_length]; have := List.count_le_length (a := (46 : UInt8)) (l := z); omega
      repeat' first | refine st ?_ | (refine nw ?_; intro _) | refine kn ?_ | (refine sp ?_ ?_ <;> intro _) | fail
      refine G.ef rfl rfl rfl (Eff.callF rfl ((Cut_spec z 46 (by omega)).mono ?_))
      rintro v H' ⟨B, hb, rfl⟩
      generalize Asc.splitB 46 z = ps at hb hple hne hpl ⊢
      rcases Buf.parts hb with ⟨_, h0, _, _⟩ | ⟨bk, cap, extra, rfl, rfl, hcap, hx, hmax⟩
      · exact absurd (List.eq_nil_of_length_eq_zero h0) hne
      have hpos := List.length_pos_iff.2 hne
      have hLp : LeN 1 ps.length := ⟨hpos⟩
      have hlastp : ps.getLast?.getD [] = ps[ps.length - 1] := by rw [List.getLast?_eq_getElem?, List.getElem?_eq_getElem (by omega)]; rfl
      rw [hlastp]
      repeat' first | refine st ?_ | (refine nw ?_; intro _) | refine kn ?_ | (refine sp ?_ ?_ <;> intro _) | fail
      refine GC.loopE (ι := { k : Nat // k ≤ ps.length ∧ (ps.take k).any badL = false }) (fun i => [(8, .int .i64 (i.1 : Int))]) [(6, _), (7, _)] (fun i => (bk, .cells (strs ps ++ extra).toArray 9 (0, 0)) :: (_, .cells (u8s ((parseL s).getD zero16)).toArray 34 (0, 0)) :: F) (fun i => ps.length - i.1) ⟨0, Nat.zero_le _, by simp⟩ ⟨rfl, rfl, rfl, trivial⟩ (fun _ h => h) ?_
      rintro ⟨k, hk, hany⟩
      dsimp only [List.cons_append, List.nil_append] at hk hany ⊢
      by_cases hlt : k < ps.length
      · have hpk := hple ps[k] (by simp)
        cases hbd : badL ps[k] with
        | true =>
          have hall : ps.any badL = true := List.any_eq_true.2 ⟨ps[k], by simp, hbd⟩
          rw [if_pos (.inl hall)]
          repeat' first | refine st ?_ | (refine nw ?_; intro _) | refine kn ?_ | (refine sp ?_ ?_ <;> intro _) | fail
          exact GQ.pure2 rfl (.tmp rfl) (.tmp rfl) rfl
        | false =>
          have hnext : (ps.take (k + 1)).any badL = false := by rw [List.take_succ_eq_append_getElem hlt, List.any_append, hany]; simp [hbd]
          repeat' first | refine st ?_ | (refine nw ?_; intro _) | refine kn ?_ | (refine sp ?_ ?_ <;> intro _) | fail
          exact GQ.back ⟨k + 1, by omega, hnext⟩ (by simp only; omega) ⟨rfl, rfl, rfl, trivial⟩ (fun w hw => hw)
      · obtain rfl : k = ps.length := by omega
        rw [List.take_length] at hany
        have hpk := hple ps[ps.length - 1] (by simp)
        cases hlo : (ps[ps.length - 1]).any (fun b => otherP b.toNat) with
        | false =>
          rw [if_pos (.inr rfl)]
          repeat' first | refine st ?_ | (refine nw ?_; intro _) | refine kn ?_ | (refine sp ?_ ?_ <;> intro _) | fail
          exact GQ.pure2 rfl (.tmp rfl) (.tmp rfl) rfl
        | true =>
          rw [if_neg (by rw [hany]; simp)]
          repeat' first | refine st ?_ | (refine nw ?_; intro _) | refine kn ?_ | (refine sp ?_ ?_ <;> intro _) | fail
          exact GQ.pure2 rfl (.tmp rfl) (.tmp rfl) rfl
    · have ht : trimL 46 (s.map lowB) = s.map lowB := by
        have : s.map lowB = [] := List.eq_nil_of_length_eq_zero hy
        rw [this]; rfl
      rw [ht] at hz ⊢
      clear ht
      repeat' first | refine st ?_ | (refine nw ?_; intro _) | refine kn ?_ | fail
      refine GC.weak (e' := [(6, S (s.map lowB)), (37, .bool (decide ((s.map lowB) = [])))]) ?_ ⟨rfl, rfl, trivial⟩ (fun _ h => h)
      clear hps hp hll hy
      generalize s.map lowB = z at hz ⊢
      by_cases c0 : z = []
      · rw [if_pos c0]
        repeat' first | refine st ?_ | (refine nw ?_; intro _) | refine kn ?_ | (refine sp ?_ ?_ <;> intro _) | fail
        exact GQ.pure2 rfl (.tmp rfl) (.tmp rfl) rfl
      rw [if_neg c0]
      by_cases c1 : 253 < z.length
      · rw [if_pos c1]
        repeat' first | refine st ?_ | (refine nw ?_; intro _) | refine kn ?_ | (refine sp ?_ ?_ <;> intro _) | fail
        exact GQ.pure2 rfl (.tmp rfl) (.tmp rfl) rfl
      rw [if_neg c1]
      have hple : ∀ x ∈ splitB 46 z, x.length ≤ z.length := splitB_le 46 z
      have hne := splitB_ne 46 z
      have hpl : (splitB 46 z).length ≤ z.length + 1 := by rw [splitB_length]; have := List.count_le_length (a := (46 : UInt8)) (l := z); omega
      repeat' first | refine st ?_ | (refine nw ?_; intro _) | refine kn ?_ | (refine sp ?_ ?_ <;> intro _) | fail
      refine G.ef rfl rfl rfl (Eff.callF rfl ((Cut_spec z 46 (by omega)).mono ?_))
      rintro v H' ⟨B, hb, rfl⟩
      generalize Asc.splitB 46 z = ps at hb hple hne hpl ⊢
      rcases Buf.parts hb with ⟨_, h0, _, _⟩ | ⟨bk, cap, extra, rfl, rfl, hcap, hx, hmax⟩
      · exact absurd (List.eq_nil_of_length_eq_zero h0) hne
      have hpos := List.length_pos_iff.2 hne
      have hLp : LeN 1 ps.length := ⟨hpos⟩
      have hlastp : ps.getLast?.getD [] = ps[ps.length - 1] := by rw [List.getLast?_eq_getElem?, List.getElem?_eq_getElem (by omega)]; rfl
      rw [hlastp]
      repeat' first | refine st ?_ | (refine nw ?_; intro _) | refine kn ?_ | (refine sp ?_ ?_ <;> intro _) | fail
      refine GC.loopE (ι := { k : Nat // k ≤ ps.length ∧ (ps.take k).any badL = false }) (fun i => [(8, .int .i64 (i.1 : Int))]) [(6, _), (7, _)] (fun i => (bk, .cells (strs ps ++ extra).toArray 9 (0, 0)) :: (_, .cells (u8s ((parseL s).getD zero16)).toArray 34 (0, 0)) :: F) (fun i => ps.length - i.1) ⟨0, Nat.zero_le _, by simp⟩ ⟨rfl, rfl, rfl, trivial⟩ (fun _ h => h) ?_
      rintro ⟨k, hk, hany⟩
      dsimp only [List.cons_append, List.nil_append] at hk hany ⊢
      by_cases hlt : k < ps.length
      · have hpk := hple ps[k] (by simp)
        cases hbd : badL ps[k] with
        | true =>
          have hall : ps.any badL = true := List.any_eq_true.2 ⟨ps[k], by simp, hbd⟩
          rw [if_pos (.inl hall)]
          repeat' first | refine st ?_ | (refine nw ?_; intro _) | refine kn ?_ | (refine sp ?_ ?_ <;> intro _) | fail
          exact GQ.pure2 rfl (.tmp rfl) (.tmp rfl) rfl
        | false =>
          have hnext : (ps.take (k + 1)).any badL = false := by rw [List.take_succ_eq_append_getElem hlt, List.any_append, hany]; simp [hbd]
          repeat' first | refine st ?_ | (refine nw ?_; intro _) | refine kn ?_ | (refine sp ?_ ?_ <;> intro _) | fail
          exact GQ.back ⟨k + 1, by omega, hnext⟩ (by simp only; omega) ⟨rfl, rfl, rfl, trivial⟩ (fun w hw => hw)
      · obtain rfl : k = ps.length := by omega
        rw [List.take_length] at hany
        have hpk := hple ps[ps.length - 1] (by simp)
        cases hlo : (ps[ps.length - 1]).any (fun b => otherP b.toNat) with
        | false =>
          rw [if_pos (.inr rfl)]
          repeat' first | refine st ?_ | (refine nw ?_; intro _) | refine kn ?_ | (refine sp ?_ ?_ <;> intro _) | fail
          exact GQ.pure2 rfl (.tmp rfl) (.tmp rfl) rfl
        | true =>
          rw [if_neg (by rw [hany]; simp)]
          repeat' first | refine st ?_ | (refine nw ?_; intro _) | refine kn ?_ | (refine sp ?_ ?_ <;> intro _) | fail
          exact GQ.pure2 rfl (.tmp rfl) (.tmp rfl) rfl
instance {s : List UInt8} : PureF Tryz.prog W0 127 [S s] (s.length ≤ 8796093022207) (normalV s) := ⟨fun h _ => rNormal_spec s h⟩
end
end Go.Rfn
