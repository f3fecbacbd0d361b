/-
  THE DOCUMENT'S ANSWERS, addresses that begin alike.
-/
import Derived.Test.YtohblhfdgoigdaaGreatDoorGRf
import Derived.Test.YtohblhfdgoigdaaGreatDoorGCk
namespace Go.Cid
open Go.Own Go.Proofs Go.RowKit Go.Lib Go.Asc Go.Adr Go.Nam Go.Tri Go.Rfn
attribute [local irreducible] GC GQ G Rd Eff T
set_option maxRecDepth 20000
set_option maxHeartbeats 4000000
/-- A byte with one bit struck out. -/
def clrB (r : Nat) (x : UInt8) : UInt8 := x &&& ([127, 191, 223, 239, 247, 251, 253, 254] : List UInt8).getD r 255
/-- A byte of which the bits from m on, among the first r, are struck out. -/
def stB (m : Nat) (x : UInt8) : Nat → UInt8
  | 0 => x
  | r + 1 => if m ≤ r then clrB r (stB m x r) else stB m x r
theorem stB_end : ∀ m < 9, ∀ x : UInt8, stB m x 8 = x &&& keepB m := by
  have key : ∀ x : UInt8, ∀ m < 9, stB m x 8 = x &&& keepB m := fun x => byte_all (p := fun x => ∀ m < 9, stB m x 8 = x &&& keepB m) (by decide +kernel) x
  exact fun m hm x => key x m hm
/-- The row behind k steps. -/
def stA (a : List UInt8) (N k : Nat) : List UInt8 := (List.range 16).map fun j => stB (min (N - 8 * j) 8) (a.getD j 0) (min (k - 8 * j) 8)
theorem stA_len (a : List UInt8) (N k : Nat) : (stA a N k).length = 16 := by simp [stA]
theorem stA_zero {a : List UInt8} (ha : a.length = 16) (N : Nat) : stA a N 0 = a := by
  refine List.ext_getElem (by rw [stA_len, ha]) fun j h1 h2 => ?_
  simp only [stA, List.getElem_map, List.getElem_range, Nat.zero_sub, Nat.zero_min, stB]
  rw [List.getD_eq_getElem?_getD, List.getElem?_eq_getElem h2]; rfl
theorem stA_end {a : List UInt8} (ha : a.length = 16) (N : Nat) : stA a N 128 = maskL a N := by
  refine List.ext_getElem (by rw [stA_len, maskL_len, ha]) fun j h1 h2 => ?_
  have hj : j < 16 := by rw [stA_len] at h1; exact h1
  have h3 := maskL_get a N j (by omega)
  rw [List.getElem?_eq_getElem h2] at h3
  rw [Option.some.inj h3]
  simp only [stA, List.getElem_map, List.getElem_range]
  rw [show min (128 - 8 * j) 8 = 8 by omega, stB_end _ (by omega)]
theorem stA_get {a : List UInt8} (N : Nat) {k : Nat} (hk : k < 128) : (stA a N k)[k / 8]? = some (stB (min (N - 8 * (k / 8)) 8) (a.getD (k / 8) 0) (k % 8)) := by
  simp only [stA, List.getElem?_map]
  rw [List.getElem?_range (by omega), Option.map_some, show min (k - 8 * (k / 8)) 8 = k % 8 by omega]
theorem stA_keep {a : List UInt8} {N k : Nat} (h : k < N) : stA a N (k + 1) = stA a N k := by
  simp only [stA]
  refine List.map_congr_left fun j hj => ?_
  by_cases h1 : j = k / 8
  · subst h1
    rw [show min (k + 1 - 8 * (k / 8)) 8 = k % 8 + 1 by omega, show min (k - 8 * (k / 8)) 8 = k % 8 by omega]
    simp only [stB]
    rw [if_neg (by omega)]
  · rw [show min (k + 1 - 8 * j) 8 = min (k - 8 * j) 8 by omega]
theorem stA_put {a : List UInt8} {N k : Nat} (_ : k < 128) (h : N ≤ k) : stA a N (k + 1) = (stA a N k).set (k / 8) (clrB (k % 8) (stB (min (N - 8 * (k / 8)) 8) (a.getD (k / 8) 0) (k % 8))) := by
  refine List.ext_getElem (by simp [stA_len]) fun j h1 h2 => ?_
  have hj : j < 16 := by rw [stA_len] at h1; exact h1
  rw [List.getElem_set]
  by_cases h3 : k / 8 = j
  · subst h3
    rw [if_pos rfl]
    simp only [stA, List.getElem_map, List.getElem_range]
    rw [show min (k + 1 - 8 * (k / 8)) 8 = k % 8 + 1 by omega]
    simp only [stB]
    rw [if_pos (by omega)]
  · rw [if_neg h3]
    simp only [stA, List.getElem_map, List.getElem_range]
    rw [show min (k + 1 - 8 * j) 8 = min (k - 8 * j) 8 by omega]
theorem clr_val : ∀ r < 8, ∀ x : UInt8, IntKind.u8.wrap ((BitVec.ofInt IntKind.u8.bits (x.toNat : Int) &&& ~~~BitVec.ofInt IntKind.u8.bits (Int.fdiv 128 (2 ^ r))).toNat : Int) = ((clrB r x).toNat : Int) := by
  have key : ∀ x : UInt8, ∀ r < 8, IntKind.u8.wrap ((BitVec.ofInt IntKind.u8.bits (x.toNat : Int) &&& ~~~BitVec.ofInt IntKind.u8.bits (Int.fdiv 128 (2 ^ r))).toNat : Int) = ((clrB r x).toNat : Int) :=
    fun x => byte_all (p := fun x => ∀ r < 8, IntKind.u8.wrap ((BitVec.ofInt IntKind.u8.bits (x.toNat : Int) &&& ~~~BitVec.ofInt IntKind.u8.bits (Int.fdiv 128 (2 ^ r))).toNat : Int) = ((clrB r x).toNat : Int)) (by decide +kernel) x
  exact fun r hr x => key x r hr
section
variable {W0 : World} {H : Heap} {e : Env} {x y : Operand}
theorem Rd.clrB {t t' : TypeId} {u : UInt8} {r : Nat} (hr : r < 8) (hx : opv e x = some (.int .u8 (u.toNat : Int))) (hy : opv e y = some (.int .u8 (Int.fdiv 128 (2 ^ r)))) : Rd Tryz.prog W0 H e (.binOp .andNot t x y t') (.int .u8 ((Go.Cid.clrB r u).toNat : Int)) := by
  delta Rd
  intro ρ hρ w _ o ho
  have h1 := clr_val r hr u
  simp only [execOp, ho, hρ x _ hx, hρ y _ hy, eqGuard, binOp, Op.intBits]
  rw [← h1]
  simp
end
section
variable {W0 : World} {F : Heap}
theorem rmask_spec (a : List UInt8) (n : Int) (ha : a.length = 16) (_ : (Lit.int .i64 n).wf = true) : T Tryz.prog W0 59 #[.agg (u8s a).toArray, .int .i64 n] F (fun v H' => v = .agg (u8s (maskL a (cl n))).toArray ∧ H' = F) := by
  have hcl := cl_le n
  have hcc := cl_cast n
  refine T.intro (args := [_, _]) Tryz.func59 rfl Tryz.ntmps59 rfl ?_
  repeat' first | refine Y.st ?_ | (refine nw ?_; intro _) | refine Y.kn ?_ | fail
  rename_i b2 b4
  rw [← hcc]
  generalize cl n = N at hcl hcc
  have hml := maskL_len a N
  refine GC.loopE (ι := { k : Nat // k ≤ 128 }) (fun i => [(6, .int .i64 (i.1 : Int))]) [(2, _), (4, _), (5, _)] (fun i => (b4, .cells (u8s zero16).toArray 39 (0, 0)) :: (b2, .cells (u8s (stA a N i.1)).toArray 39 (0, 0)) :: F) (fun i => 128 - i.1) ⟨0, by omega⟩ ⟨rfl, rfl, rfl, rfl, trivial⟩ (fun w hw => by rw [stA_zero ha]; exact hw) ?_
  rintro ⟨k, hk⟩
  dsimp only [List.cons_append, List.nil_append] at hk ⊢
  by_cases hlt : k < 128
  · by_cases hN : N ≤ k
    · have hg := stA_get (a := a) N hlt
      have hlen := stA_len a N k
      have hnext := stA_put (a := a) hlt hN
      generalize hz : stB (min (N - 8 * (k / 8)) 8) (a.getD (k / 8) 0) (k % 8) = z at hg hnext
      have hcell : ((u8s (stA a N k)).toArray : Array Value)[0 + k / 8 * 1]? = some (.int .u8 (z.toNat : Int)) := by
        rw [Nat.zero_add, Nat.mul_one, List.getElem?_toArray, u8s, List.getElem?_map, hg]; rfl
      repeat' first | refine Y.st ?_ | (refine nw ?_; intro _) | refine Y.kn ?_ | fail
      refine G.rd (Rd.conv (j := .u64) (c := (k : Int)) rfl (IntWalk.u64_in _ (by omega))) rfl rfl ?_
      repeat' first | refine Y.st ?_ | (refine nw ?_; intro _) | refine Y.kn ?_ | fail
      refine G.rd (Rd.shr (n := k % 8) rfl rfl (by omega) (by show k % 8 ≤ 8; omega) rfl) rfl rfl ?_
      refine G.rd (Rd.clrB (u := z) (r := k % 8) (by omega) rfl rfl) rfl rfl ?_
      repeat' first | refine Y.st ?_ | (refine nw ?_; intro _) | refine Y.kn ?_ | fail
      exact GQ.back ⟨k + 1, by omega⟩ (by simp only; omega) ⟨rfl, rfl, rfl, rfl, trivial⟩ (fun w hw => by rw [hnext]; exact hw)
    · repeat' first | refine Y.st ?_ | (refine nw ?_; intro _) | refine Y.kn ?_ | fail
      exact GQ.back ⟨k + 1, by omega⟩ (by simp only; omega) ⟨rfl, rfl, rfl, rfl, trivial⟩ (fun w hw => by rw [stA_keep (by omega)]; exact hw)
  · obtain rfl : k = 128 := by omega
    rw [stA_end ha]
    repeat' first | refine Y.st ?_ | (refine nw ?_; intro _) | refine Y.kn ?_ | fail
    refine G.ef rfl rfl rfl (Eff.storeAll (cs := u8s zero16) (vs := u8s (maskL a N)) rfl rfl (u8s_one _) (by rw [u8s_length, u8s_length, hml, ha]; rfl) (by rw [u8s_length, hml, ha]) ?_)
    repeat' first | refine Y.st ?_ | (refine nw ?_; intro _) | refine Y.kn ?_ | fail
    exact GQ.res1h (v := .agg (u8s (maskL a N)).toArray) rfl (.agg rfl (by rw [u8s_length, hml, ha])) F (fun w hw => hw.sub ((List.sublist_cons_self _ _).trans (List.sublist_cons_self _ _))) ⟨rfl, rfl⟩
instance {a : List UInt8} {n : Int} : PureF Tryz.prog W0 59 [.agg (u8s a).toArray, .int .i64 n] (a.length = 16 ∧ (Lit.int .i64 n).wf = true) (.agg (u8s (maskL a (cl n))).toArray) := ⟨fun h _ => rmask_spec a n h.1 h.2⟩
theorem rof_spec (a : List UInt8) (n : Int) (ha : a.length = 16) (_ : (Lit.int .i64 n).wf = true) : T Tryz.prog W0 23 #[.agg (u8s a).toArray, .int .i64 n] F (fun v H' => v = cdV (ofL a n) ∧ H' = F) := by
  have hcl := cl_le n
  have hcc := cl_cast n
  have hcn : cl ((cl n : Nat) : Int) = cl n := cl_nat hcl
  refine T.intro (args := [_, _]) Tryz.func23 rfl Tryz.ntmps23 rfl ?_
  repeat' first | refine Y.st ?_ | (refine nw ?_; intro _) | refine Y.kn ?_ | fail
  rename_i b2 b4
  rw [← hcc]
  have hw : (Lit.int .i64 (cl n : Int)).wf = true := wf_small (by omega) (by omega)
  have hml := maskL_len a (cl n)
  repeat' first | refine Y.st ?_ | (refine nw ?_; intro _) | refine Y.kn ?_ | fail
  rw [hcn]
  refine G.rd (Rd.mkCd (a := maskL a (cl n)) (n := (cl n : Int)) (by omega) rfl rfl) rfl rfl ?_
  refine G.ef rfl rfl rfl (Eff.storeAll (cs := cdC zeroC) (vs := cdC (ofL a n)) rfl rfl (cdC_one _) (by rw [cdC_len (siz_of ha n).1]; rfl) (cdC_len (siz_of ha n).1) ?_)
  repeat' first | refine Y.st ?_ | (refine nw ?_; intro _) | refine Y.kn ?_ | fail
  exact GQ.res1h (v := cdV (ofL a n)) rfl (.agg rfl (cdC_len (siz_of ha n).1)) F (fun w hw => hw.sub ((List.sublist_cons_self _ _).trans (List.sublist_cons_self _ _))) ⟨rfl, rfl⟩
instance {a : List UInt8} {n : Int} : PureF Tryz.prog W0 23 [.agg (u8s a).toArray, .int .i64 n] (a.length = 16 ∧ (Lit.int .i64 n).wf = true) (cdV (ofL a n)) := ⟨fun h _ => rof_spec a n h.1 h.2⟩
theorem rright_spec (c : Cd) (h : SizC c) : T Tryz.prog W0 25 #[cdV c] F (fun v H' => v = .bool (rightC c) ∧ H' = F) := by
  have h1 := h.1
  have h2 := h.2
  refine T.intro (args := [_]) Tryz.func25 rfl Tryz.ntmps25 rfl ?_
  repeat' first | refine Y.st ?_ | (refine nw ?_; intro _) | refine Y.kn ?_ | fail
  rename_i b1
  refine GC.drawnH [(0, .read), (1, .read), (2, .read), (3, .read), (4, .read), (5, .eff), (6, .read), (7, .read)] (by kernel_rfl) (by kernel_rfl) rfl ?_
  repeat' first | refine Y.st ?_ | (refine nw ?_; intro _) | refine Y.kn ?_ | fail
  refine G.rd (Rd.loadAggC rfl (cellsH (fun j u hj => by simpa using hj)) (cdC_len h1)) rfl rfl ?_
  repeat' first | refine Y.st ?_ | (refine nw ?_; intro _) | refine Y.kn ?_ | fail
  refine G.rd (Rd.cdAddr rfl rfl h1) rfl rfl ?_
  repeat' first | refine Y.st ?_ | (refine nw ?_; intro _) | refine Y.kn ?_ | fail
  refine G.rd (Rd.cdBits rfl rfl h1) rfl rfl ?_
  repeat' first | refine Y.st ?_ | (refine nw ?_; intro _) | refine Y.kn ?_ | fail
  refine G.rd (Rd.eqlCd c (ofL c.addr c.bits) rfl rfl h (siz_of h1 _)) rfl rfl ?_
  repeat' first | refine Y.st ?_ | (refine nw ?_; intro _) | refine Y.kn ?_ | fail
  exact GQ.pure1 rfl (.tmp rfl) rfl
instance {a : List UInt8} {n : Int} : PureF Tryz.prog W0 25 [.agg (u8s a ++ [Value.int .i64 n]).toArray] (SizC ⟨a, n⟩) (.bool (rightC ⟨a, n⟩)) := ⟨fun h _ => rright_spec ⟨a, n⟩ h⟩
theorem rhas_spec (c : Cd) (a : List UInt8) (h : SizC c) (ha : a.length = 16) : T Tryz.prog W0 27 #[cdV c, .agg (u8s a).toArray] F (fun v H' => v = .bool (hasC c a) ∧ H' = F) := by
  have h1 := h.1
  have h2 := h.2
  have hml := maskL_len a (cl c.bits)
  refine T.intro (args := [_, _]) Tryz.func27 rfl Tryz.ntmps27 rfl ?_
  repeat' first | refine Y.st ?_ | (refine nw ?_; intro _) | refine Y.kn ?_ | fail
  rename_i b2 b3
  cases hr : rightC c with
  | false =>
    refine GC.drawnH [(0, .read), (1, .eff), (2, .read), (3, .read), (4, .read), (5, .read), (7, .read), (8, .read), (6, .eff), (9, .read), (10, .read), (11, .read)] (by kernel_rfl) (by kernel_rfl) rfl ?_
    repeat' first | refine Y.st ?_ | (refine nw ?_; intro _) | refine Y.kn ?_ | fail
    refine G.rd (Rd.loadAggC rfl (cellsH (fun j u hj => by simpa using hj)) (cdC_len h1)) rfl rfl ?_
    repeat' first | refine Y.st ?_ | (refine nw ?_; intro _) | refine Y.kn ?_ | fail
    exact GQ.pure1 rfl (.tmp rfl) (by rw [hasC, hr]; rfl)
  | true =>
    obtain ⟨p1, p2, _⟩ := right_iff.1 hr
    have hcb : ((cl c.bits : Nat) : Int) = c.bits := by rw [cl_cast]; omega
    refine GC.drawnH [(0, .read), (1, .eff), (2, .read), (3, .read), (4, .read), (5, .read), (7, .read), (8, .read), (6, .eff), (9, .read), (10, .read), (11, .read)] (by kernel_rfl) (by kernel_rfl) rfl ?_
    repeat' first | refine Y.st ?_ | (refine nw ?_; intro _) | refine Y.kn ?_ | fail
    refine G.rd (Rd.loadAggC rfl (cellsH (fun j u hj => by simpa using hj)) (cdC_len h1)) rfl rfl ?_
    repeat' first | refine Y.st ?_ | (refine nw ?_; intro _) | refine Y.kn ?_ | fail
    refine G.rd (Rd.cdBits rfl rfl h1) rfl rfl ?_
    repeat' first | refine Y.st ?_ | (refine nw ?_; intro _) | refine Y.kn ?_ | fail
    refine G.rd (Rd.cdAddr rfl rfl h1) rfl rfl ?_
    repeat' first | refine Y.st ?_ | (refine nw ?_; intro _) | refine Y.kn ?_ | fail
    refine G.rd (Rd.eqlBytes (l := maskL a (cl c.bits)) (m := c.addr) rfl (by kernel_rfl) rfl rfl (by omega) h1) rfl rfl ?_
    repeat' first | refine Y.st ?_ | (refine nw ?_; intro _) | refine Y.kn ?_ | fail
    exact GQ.pure1 rfl (.tmp rfl) (by
      rw [hasC, hr, Bool.true_and, beq_dec]
      congr 1
      rw [Bool.eq_iff_iff, decide_eq_true_iff, decide_eq_true_iff]
      constructor
      · intro e; unfold ofL; rw [e, hcb]
      · intro e; exact congrArg Cd.addr e)
instance {b a : List UInt8} {n : Int} : PureF Tryz.prog W0 27 [.agg (u8s b ++ [Value.int .i64 n]).toArray, .agg (u8s a).toArray] (SizC ⟨b, n⟩ ∧ a.length = 16) (.bool (hasC ⟨b, n⟩ a)) := ⟨fun h _ => rhas_spec ⟨b, n⟩ a h.1 h.2⟩
theorem itoa_nat (n : Nat) : itoa (n : Int) = decDigits n := by rw [itoa, if_neg (by omega)]; rfl
theorem itoa_neg (n : Nat) (h : 0 < n) : itoa (-(n : Int)) = 45 :: decDigits n := by rw [itoa, if_pos (by omega)]; rw [show (-(n : Int)).natAbs = n by omega]
theorem dec_split {n : Nat} (h : 10 ≤ n) : decDigits n = decDigits (n / 10) ++ decDigits (n % 10) := by
  conv => lhs; rw [decDigits, dif_neg (by omega)]
  congr 1
  rw [decDigits, dif_pos (by omega)]
theorem rtext_spec (n : Int) (h0 : -9223372036854775808 ≤ n) (h1 : n ≤ 9223372036854775807) : T Tryz.prog W0 64 #[.int .i64 n] F (fun v H' => v = S (itoa n) ∧ H' = F) := by
  obtain ⟨m, hm⟩ : ∃ m, m = n.natAbs := ⟨_, rfl⟩
  induction m using Nat.strongRecOn generalizing n F with
  | _ m ih =>
    refine T.intro (args := [_]) Tryz.func64 rfl Tryz.ntmps64 rfl ?_
    by_cases hn : n < 0
    · by_cases hk : n < -1000
      · obtain ⟨q, r, hq, hr, hqr⟩ : ∃ q r : Nat, n.tdiv 10 = -(q : Int) ∧ n.tmod 10 = -(r : Int) ∧ m = q * 10 + r ∧ r < 10 := by
          obtain ⟨d, rfl⟩ : ∃ d : Nat, n = -(d : Int) := ⟨m, by omega⟩
          refine ⟨d / 10, d % 10, by rw [Int.neg_tdiv]; rfl, by rw [Int.neg_tmod]; rfl, by omega, by omega⟩
        have e1 : itoa (-(q : Int)) = 45 :: decDigits q := itoa_neg q (by omega)
        have e2 : itoa n = 45 :: decDigits m := by rw [show n = -(m : Int) by omega]; exact itoa_neg m (by omega)
        have e3 : decDigits m = decDigits q ++ decDigits r := by
          rw [dec_split (by omega), show m / 10 = q by omega, show m % 10 = r by omega]
        have hl1 := dec_le q (by omega)
        have hl2 := dec_le r (by omega)
        repeat' first | refine Y.st ?_ | (refine nw ?_; intro _) | refine Y.kn ?_ | fail
        refine G.isBin .quo ?_
        refine G.rd (Rd.quo (c := -(q : Int)) rfl rfl (by omega) (by rw [hq]; exact IntWalk.i64_in _ (by omega))) rfl rfl ?_
        refine G.ef rfl rfl rfl (Eff.callF rfl ((ih q (by omega) (-(q : Int)) (by omega) (by omega) (by omega)).mono ?_))
        rintro v H' ⟨rfl, rfl⟩
        rw [e1]
        repeat' first | refine Y.st ?_ | (refine nw ?_; intro _) | refine Y.kn ?_ | fail
        refine G.isBin .rem ?_
        refine G.rd (Rd.rem (c := -(r : Int)) rfl rfl (by omega) hr) rfl rfl ?_
        refine G.rd (Rd.neg (c := (r : Int)) rfl (by rw [show (0 : Int) - -(r : Int) = r by omega]; exact IntWalk.i64_in _ (by omega))) rfl rfl ?_
        refine G.ef rfl rfl rfl (Eff.callF rfl ((ih r (by omega) (r : Int) (by omega) (by omega) (by omega)).mono ?_))
        rintro v H' ⟨rfl, rfl⟩
        rw [itoa_nat]
        repeat' first | refine Y.st ?_ | (refine nw ?_; intro _) | refine Y.kn ?_ | fail
        exact GQ.done1 rfl rfl ⟨by rw [e2, e3]; rfl, rfl⟩
      · obtain ⟨d, rfl⟩ : ∃ d : Nat, n = -(d : Int) := ⟨m, by omega⟩
        have hl := dec_le d (by omega)
        repeat' first | refine Y.st ?_ | (refine nw ?_; intro _) | refine Y.kn ?_ | fail
        refine G.rd (Rd.neg (c := (d : Int)) rfl (by rw [show (0 : Int) - -(d : Int) = d by omega]; exact IntWalk.i64_in _ (by omega))) rfl rfl ?_
        repeat' first | refine Y.st ?_ | (refine nw ?_; intro _) | refine Y.kn ?_ | fail
        rw [itoa_nat]
        repeat' first | refine Y.st ?_ | (refine nw ?_; intro _) | refine Y.kn ?_ | fail
        exact GQ.done1 rfl rfl ⟨by rw [itoa_neg d (by omega)]; rfl, rfl⟩
    · obtain ⟨d, rfl⟩ : ∃ d : Nat, n = (d : Int) := ⟨m, by omega⟩
      repeat' first | refine Y.st ?_ | (refine nw ?_; intro _) | refine Y.kn ?_ | fail
      exact GQ.done1 rfl rfl ⟨rfl, rfl⟩
instance {n : Int} : PureF Tryz.prog W0 64 [.int .i64 n] (-9223372036854775808 ≤ n ∧ n ≤ 9223372036854775807) (S (itoa n)) := ⟨fun h _ => rtext_spec n h.1 h.2⟩
theorem rcprint_spec (c : Cd) (h : SizC c) : T Tryz.prog W0 29 #[cdV c] F (fun v H' => v = S (printC c) ∧ H' = F) := by
  have h1 := h.1
  obtain ⟨w1, w2⟩ := wf_i64 h.2
  have hpl := print_len h1
  have hfl : fourL c.addr = (c.addr.take 12 == aheadL) := by unfold fourL; exact (beq_dec _ _).symm
  refine T.intro (args := [_]) Tryz.func29 rfl Tryz.ntmps29 rfl ?_
  repeat' first | refine Y.st ?_ | (refine nw ?_; intro _) | refine Y.kn ?_ | fail
  refine G.rd (Rd.cdAddr rfl rfl h1) rfl rfl ?_
  repeat' first | refine Y.st ?_ | (refine nw ?_; intro _) | refine Y.kn ?_ | fail
  rw [← hfl]
  cases hf : fourL c.addr with
  | false =>
    have hil := itoa_le (n := c.bits) (by omega) (by omega)
    have hb : bitsP c = c.bits := by rw [bitsP, if_neg (by rw [hf]; simp)]
    repeat' first | refine Y.st ?_ | (refine nw ?_; intro _) | refine Y.kn ?_ | fail
    refine GC.drawnH [(0, .read), (1, .read), (4, .read), (5, .read), (2, .eff), (3, .read), (6, .eff), (7, .read), (8, .read)] (by kernel_rfl) (by kernel_rfl) rfl ?_
    repeat' first | refine Y.st ?_ | (refine nw ?_; intro _) | refine Y.kn ?_ | fail
    refine G.rd (Rd.cdAddr rfl rfl h1) rfl rfl ?_
    repeat' first | refine Y.st ?_ | (refine nw ?_; intro _) | refine Y.kn ?_ | fail
    refine G.rd (Rd.cdBits rfl rfl h1) rfl rfl ?_
    repeat' first | refine Y.st ?_ | (refine nw ?_; intro _) | refine Y.kn ?_ | fail
    exact GQ.pure1 rfl (.tmp rfl) (by rw [printC, hb])
  | true =>
    repeat' first | refine Y.st ?_ | (refine nw ?_; intro _) | refine Y.kn ?_ | fail
    refine G.rd (Rd.cdBits rfl rfl h1) rfl rfl ?_
    by_cases hb : 96 ≤ c.bits
    · have hil := itoa_le (n := c.bits - 96) (by omega) (by omega)
      repeat' first | refine Y.st ?_ | (refine nw ?_; intro _) | refine Y.kn ?_ | fail
      refine GC.drawnH [(0, .read), (1, .read), (4, .read), (5, .read), (6, .read), (2, .eff), (3, .read), (7, .eff), (8, .read), (9, .read)] (by kernel_rfl) (by kernel_rfl) rfl ?_
      repeat' first | refine Y.st ?_ | (refine nw ?_; intro _) | refine Y.kn ?_ | fail
      refine G.rd (Rd.cdAddr rfl rfl h1) rfl rfl ?_
      repeat' first | refine Y.st ?_ | (refine nw ?_; intro _) | refine Y.kn ?_ | fail
      refine G.rd (Rd.cdBits rfl rfl h1) rfl rfl ?_
      repeat' first | refine Y.st ?_ | (refine nw ?_; intro _) | refine Y.kn ?_ | fail
      exact GQ.pure1 rfl (.tmp rfl) (by rw [printC, bitsP, if_pos ⟨hf, hb⟩])
    · have hil := itoa_le (n := c.bits) (by omega) (by omega)
      repeat' first | refine Y.st ?_ | (refine nw ?_; intro _) | refine Y.kn ?_ | fail
      refine GC.drawnH [(0, .read), (1, .read), (4, .read), (5, .read), (2, .eff), (3, .read), (6, .eff), (7, .read), (8, .read)] (by kernel_rfl) (by kernel_rfl) rfl ?_
      repeat' first | refine Y.st ?_ | (refine nw ?_; intro _) | refine Y.kn ?_ | fail
      refine G.rd (Rd.cdAddr rfl rfl h1) rfl rfl ?_
      repeat' first | refine Y.st ?_ | (refine nw ?_; intro _) | refine Y.kn ?_ | fail
      refine G.rd (Rd.cdBits rfl rfl h1) rfl rfl ?_
      repeat' first | refine Y.st ?_ | (refine nw ?_; intro _) | refine Y.kn ?_ | fail
      exact GQ.pure1 rfl (.tmp rfl) (by rw [printC, bitsP, if_neg (fun h => hb h.2)])
instance {a : List UInt8} {n : Int} : PureF Tryz.prog W0 29 [.agg (u8s a ++ [Value.int .i64 n]).toArray] (SizC ⟨a, n⟩) (S (printC ⟨a, n⟩)) := ⟨fun h _ => rcprint_spec ⟨a, n⟩ h⟩
theorem two_parts (s : List UInt8) : (47 ∉ s ∧ splitB 47 s = [s] ∧ cut s [47] = (s, [], false)) ∨ ∃ x y, s = x ++ 47 :: y ∧ 47 ∉ x ∧ splitB 47 s = x :: splitB 47 y ∧ cut s [47] = (x, y, true) := by
  by_cases h : 47 ∈ s
  · obtain ⟨x, y, rfl, hx⟩ := List.eq_append_cons_of_mem h
    exact .inr ⟨x, y, rfl, hx, by rw [splitB_append, splitB_nosep hx]; rfl, cut_here y hx⟩
  · exact .inl ⟨h, splitB_nosep h, cut_none h⟩
theorem slash_no (b : UInt8) : isDig b.toNat = true → b ≠ 47 := byte_all (p := fun b => isDig b.toNat = true → b ≠ 47) (by decide +kernel) b
theorem parseC_none {s : List UInt8} (h : (splitB 47 s).length ≠ 2) : parseC s = none := by
  have key : ∀ m, number (cut s [47]).2.1 m = none := by
    intro m
    rcases two_parts s with ⟨_, _, h2⟩ | ⟨x, y, rfl, hx, h1, h2⟩
    · rw [h2]; exact number_zero (by rintro ⟨h, _⟩; exact h rfl)
    · rw [h2]
      refine number_zero ?_
      rintro ⟨_, h3, _⟩
      rw [h1, List.length_cons, splitB_length] at h
      have h4 : 0 < y.count 47 := by omega
      have h5 := List.all_eq_true.1 h3 47 (List.count_pos_iff.1 h4)
      exact slash_no 47 h5 rfl
  unfold parseC
  rw [key]
  cases parseL (cut s [47]).1 <;> rfl
theorem parseC_two {s : List UInt8} (h : (splitB 47 s).length = 2) : ∃ x y, splitB 47 s = [x, y] ∧ (cut s [47]).1 = x ∧ (cut s [47]).2.1 = y ∧ x.length ≤ s.length ∧ y.length ≤ s.length := by
  rcases two_parts s with ⟨_, h1, _⟩ | ⟨x, y, rfl, hx, h1, h2⟩
  · rw [h1] at h; cases h
  · rw [h1, List.length_cons, splitB_length] at h
    refine ⟨x, y, by rw [h1, splitB_zero (by omega)], by rw [h2], by rw [h2], by simp, by simp; omega⟩
def seenL (l : List UInt8) : Int := if 58 ∈ l then 0 else 96
theorem rcparse_spec (s : List UInt8) (hs : s.length ≤ 1000000) : T Tryz.prog W0 21 #[S s] F (fun v H' => v = parseCV s ∧ H' = F) := by
  refine T.intro (args := [_]) Tryz.func21 rfl Tryz.ntmps21 rfl ?_
  repeat' first | refine Y.st ?_ | (refine nw ?_; intro _) | refine Y.kn ?_ | fail
  rename_i b2
  refine G.ef rfl rfl rfl (Eff.callF rfl ((Cut_spec s 47 (by omega)).mono ?_))
  rintro v H' ⟨B, hB, rfl⟩
  by_cases h2 : (splitB 47 s).length = 2
  · obtain ⟨x, y, hxy, hx, hy, hxl, hyl⟩ := parseC_two h2
    rw [hxy] at hB
    rcases Buf.parts hB with ⟨_, h0, _, _⟩ | ⟨b, cap, extra, rfl, rfl, hcap, _, _⟩
    · cases h0
    have c0 : ((strs [x, y] ++ extra).toArray : Array Value)[0 + 0 * 1]? = some (S x) := rfl
    have c1 : ((strs [x, y] ++ extra).toArray : Array Value)[0 + 1 * 1]? = some (S y) := rfl
    simp only [List.cons_append, List.nil_append]
    rw [show ([x, y] : List (List UInt8)).length = 2 from rfl] at hcap ⊢
    have hal := addr_len x
    have hml := moreL_le x
    have hpc : parseCV s = match parseL x with
      | none => .tuple #[cdV zeroC, .bool false]
      | some a => match number y (128 - (moreL x : Int)) with
        | none => .tuple #[cdV zeroC, .bool false]
        | some n => .tuple #[cdV (ofL a ((n : Int) + moreL x)), .bool true] := by
      unfold parseCV parseC
      rw [hx, hy]
      cases parseL x with
      | none => rfl
      | some a => cases number y (128 - (moreL x : Int)) <;> rfl
    repeat' first | refine Y.st ?_ | (refine nw ?_; intro _) | refine Y.kn ?_ | fail
    rename_i b5
    refine GC.loopE (ι := { k : Nat // k ≤ x.length }) (fun i => [(7, .int .i64 (seenL (x.take i.1))), (8, .int .i64 (i.1 : Int))]) [(2, _), (4, _), (5, _), (6, _)] (fun _ => (b5, .cells (u8s ((parseL x).getD zero16)).toArray 39 (0, 0)) :: (b, .cells (strs [x, y] ++ extra).toArray 9 (0, 0)) :: (b2, .cells (cdC zeroC).toArray 41 (0, 0)) :: F) (fun i => x.length - i.1) ⟨0, Nat.zero_le _⟩ ⟨rfl, rfl, rfl, rfl, rfl, rfl, trivial⟩ (fun _ h => h) ?_
    rintro ⟨k, hk⟩
    dsimp only [List.cons_append, List.nil_append] at hk ⊢
    by_cases hlt : k < x.length
    · have hts := List.take_succ_eq_append_getElem hlt
      by_cases hc : (x[k]).toNat = 58
      · have hx58 : x[k] = 58 := UInt8.toNat_inj.1 hc
        have hnext : seenL (x.take (k + 1)) = 0 := by unfold seenL; rw [hts, hx58]; simp
        repeat' first | refine Y.st ?_ | (refine nw ?_; intro _) | refine Y.kn ?_ | fail
        exact GQ.back ⟨k + 1, by omega⟩ (by simp only; omega) ⟨(by first | rfl | (simp only [hnext]; rfl)), (by first | rfl | (simp only [hnext]; rfl)), (by first | rfl | (simp only [hnext]; rfl)), (by first | rfl | (simp only [hnext]; rfl)), (by first | rfl | (simp only [hnext]; rfl)), (by first | rfl | (simp only [hnext]; rfl)), trivial⟩ (fun w hw => hw)
      · have hx58 : ¬ x[k] = 58 := fun h => hc (by rw [h]; rfl)
        have hnext : seenL (x.take (k + 1)) = seenL (x.take k) := by unfold seenL; rw [hts]; simp only [List.mem_append, List.mem_singleton, Ne.symm hx58, or_false]
        repeat' first | refine Y.st ?_ | (refine nw ?_; intro _) | refine Y.kn ?_ | fail
        exact GQ.back ⟨k + 1, by omega⟩ (by simp only; omega) ⟨(by first | rfl | (simp only [hnext]; rfl)), (by first | rfl | (simp only [hnext]; rfl)), (by first | rfl | (simp only [hnext]; rfl)), (by first | rfl | (simp only [hnext]; rfl)), (by first | rfl | (simp only [hnext]; rfl)), (by first | rfl | (simp only [hnext]; rfl)), trivial⟩ (fun w hw => hw)
    · obtain rfl : k = x.length := by omega
      rw [show seenL (x.take x.length) = (moreL x : Int) by rw [List.take_length]; unfold seenL moreL; split <;> rfl]
      generalize hm : moreL x = m at hml hpc
      repeat' first | refine Y.st ?_ | (refine nw ?_; intro _) | refine Y.kn ?_ | fail
      cases hp : parseL x with
      | none =>
        rw [hp] at hpc
        cases hn : number y (128 - (m : Int)) with
        | none =>
          repeat' first | refine Y.st ?_ | (refine nw ?_; intro _) | refine Y.kn ?_ | fail
          refine G.rd (Rd.build (vs := []) (cells := (cdC zeroC).toArray) rfl (by kernel_rfl)) rfl rfl ?_
          refine G.ef rfl rfl rfl (Eff.storeAll (cs := cdC zeroC) (vs := cdC zeroC) rfl rfl (cdC_one _) rfl rfl ?_)
          repeat' first | refine Y.st ?_ | (refine nw ?_; intro _) | refine Y.kn ?_ | fail
          exact GQ.res2h (v := cdV zeroC) rfl (.agg (cs := cdC zeroC) rfl rfl) (.tmp rfl) F (fun w hw => hw.sub ((List.sublist_cons_self _ _).trans ((List.sublist_cons_self _ _).trans (List.sublist_cons_self _ _)))) ⟨hpc.symm, rfl⟩
        | some n =>
          repeat' first | refine Y.st ?_ | (refine nw ?_; intro _) | refine Y.kn ?_ | fail
          refine G.rd (Rd.build (vs := []) (cells := (cdC zeroC).toArray) rfl (by kernel_rfl)) rfl rfl ?_
          refine G.ef rfl rfl rfl (Eff.storeAll (cs := cdC zeroC) (vs := cdC zeroC) rfl rfl (cdC_one _) rfl rfl ?_)
          repeat' first | refine Y.st ?_ | (refine nw ?_; intro _) | refine Y.kn ?_ | fail
          exact GQ.res2h (v := cdV zeroC) rfl (.agg (cs := cdC zeroC) rfl rfl) (.tmp rfl) F (fun w hw => hw.sub ((List.sublist_cons_self _ _).trans ((List.sublist_cons_self _ _).trans (List.sublist_cons_self _ _)))) ⟨hpc.symm, rfl⟩
      | some a =>
        rw [hp] at hpc hal
        simp only [Option.getD_some] at hal ⊢
        cases hn : number y (128 - (m : Int)) with
        | none =>
          rw [hn] at hpc
          repeat' first | refine Y.st ?_ | (refine nw ?_; intro _) | refine Y.kn ?_ | fail
          refine G.rd (Rd.build (vs := []) (cells := (cdC zeroC).toArray) rfl (by kernel_rfl)) rfl rfl ?_
          refine G.ef rfl rfl rfl (Eff.storeAll (cs := cdC zeroC) (vs := cdC zeroC) rfl rfl (cdC_one _) rfl rfl ?_)
          repeat' first | refine Y.st ?_ | (refine nw ?_; intro _) | refine Y.kn ?_ | fail
          exact GQ.res2h (v := cdV zeroC) rfl (.agg (cs := cdC zeroC) rfl rfl) (.tmp rfl) F (fun w hw => hw.sub ((List.sublist_cons_self _ _).trans ((List.sublist_cons_self _ _).trans (List.sublist_cons_self _ _)))) ⟨hpc.symm, rfl⟩
        | some n =>
          rw [hn] at hpc
          have hnl := number_le hn
          have hwf : (Lit.int .i64 ((n : Int) + (m : Int))).wf = true := wf_small (by omega) (by omega)
          have hside := And.intro hal hwf
          have hlo := cdC_len (siz_of hal ((n : Int) + m)).1
          repeat' first | refine Y.st ?_ | (refine nw ?_; intro _) | refine Y.kn ?_ | fail
          refine G.ef rfl rfl rfl (Eff.storeAll (cs := cdC zeroC) (vs := cdC (ofL a ((n : Int) + m))) rfl rfl (cdC_one _) (by rw [hlo]; rfl) hlo ?_)
          repeat' first | refine Y.st ?_ | (refine nw ?_; intro _) | refine Y.kn ?_ | fail
          exact GQ.res2h (v := cdV (ofL a ((n : Int) + m))) rfl (.agg (cs := cdC (ofL a ((n : Int) + m))) rfl hlo) (.tmp rfl) F (fun w hw => hw.sub ((List.sublist_cons_self _ _).trans ((List.sublist_cons_self _ _).trans (List.sublist_cons_self _ _)))) ⟨hpc.symm, rfl⟩
  · have hn := parseC_none h2
    obtain ⟨p, cap, rfl, hcap, _⟩ := Go.Tri.Buf.see hB
    repeat' first | refine Y.st ?_ | (refine nw ?_; intro _) | refine Y.kn ?_ | fail
    refine G.rd (Rd.build (vs := []) (cells := (cdC zeroC).toArray) rfl (by kernel_rfl)) rfl rfl ?_
    refine G.ef rfl rfl rfl (Eff.storeAll (cs := cdC zeroC) (vs := cdC zeroC) rfl rfl (cdC_one _) rfl rfl ?_)
    repeat' first | refine Y.st ?_ | (refine nw ?_; intro _) | refine Y.kn ?_ | fail
    exact GQ.res2h (v := cdV zeroC) rfl (.agg (cs := cdC zeroC) rfl rfl) (.tmp rfl) F (fun w hw => hw.sub ((List.sublist_cons_self _ _).trans (List.sublist_append_right _ _))) ⟨by rw [parseCV, hn]; rfl, rfl⟩
instance {s : List UInt8} : PureF Tryz.prog W0 21 [S s] (s.length ≤ 1000000) (parseCV s) := ⟨fun h _ => rcparse_spec s h⟩
end
end Go.Cid
