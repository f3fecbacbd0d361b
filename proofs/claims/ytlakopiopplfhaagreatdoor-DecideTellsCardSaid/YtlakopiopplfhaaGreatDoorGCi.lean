/-
  ADDRESSES THAT BEGIN ALIKE, in memory: keys, equality; addr.Mask, cidr.Of, Right, Has.
  CIDRS OF TEXTS, AND BACK: strings.Contains; cidr.Parse, cidr.Print.
  ADDRESSES AND RANGES THAT COME IN.
-/
import Derived.Test.YtlakopiopplfhaaGreatDoorGOwn
import Derived.Test.YtlakopiopplfhaaGreatDoorGPt
import Derived.Test.YtlakopiopplfhaaGreatDoorGPl
import Derived.DeepKeys4
import Derived.Test.YtlakopiopplfhaaGreatDoorGNm
import Derived.Test.YtlakopiopplfhaaGreatDoorLib2
import Derived.Test.YtlakopiopplfhaaGreatDoorGTb
namespace Go.Cid
open Go.Own Go.Proofs Go.RowKit Go.Lib Go.Asc Go.Adr Go.Nam
attribute [local irreducible] GC GQ G Rd Eff T
set_option maxRecDepth 20000
set_option maxHeartbeats 4000000

abbrev cdC (c : Cd) : List Value := u8s c.addr ++ [.int .i64 c.bits]
abbrev cdV (c : Cd) : Value := .agg (u8s c.addr ++ [Value.int .i64 c.bits]).toArray
theorem cdC_len {c : Cd} (h : c.addr.length = 16) : (cdC c).length = 17 := by simp [u8s_length, h]
theorem cdC_one (c : Cd) : ∀ u ∈ cdC c, u.oneCell' = true := by
  intro u hu
  rcases List.mem_append.1 hu with h | h
  · exact u8s_one _ u h
  · have : u = .int .i64 c.bits := by simpa using h
    subst this; rfl
def SizC (c : Cd) : Prop := c.addr.length = 16 ∧ (Lit.int .i64 c.bits).wf = true
theorem wf_small {n : Int} (h0 : -9223372036854775808 ≤ n) (h1 : n ≤ 9223372036854775807) : (Lit.int .i64 n).wf = true := by
  simp [Lit.wf, IntKind.min, IntKind.max, IntKind.signed, IntKind.bits]; omega
theorem wf_i64 {n : Int} (h : (Lit.int .i64 n).wf = true) : -9223372036854775808 ≤ n ∧ n ≤ 9223372036854775807 := by
  simp [Lit.wf, IntKind.min, IntKind.max, IntKind.signed, IntKind.bits] at h; omega
theorem siz_of {a : List UInt8} (ha : a.length = 16) (n : Int) : SizC (ofL a n) := by
  have := cl_le n
  refine ⟨by simp only [ofL]; rw [maskL_len, ha], wf_small (by simp only [ofL]; omega) (by simp only [ofL]; omega)⟩
theorem u8s_inj : ∀ a b : List UInt8, u8s a = u8s b → a = b
  | [], [], _ => rfl
  | [], _ :: _, h => by simp [u8s] at h
  | _ :: _, [], h => by simp [u8s] at h
  | x :: a, y :: b, h => by
    simp only [u8s, List.map_cons, List.cons.injEq, Value.int.injEq, true_and] at h
    have h1 : x = y := by
      have : x.toNat = y.toNat := by omega
      exact UInt8.toNat_inj.1 this
    rw [h1, u8s_inj a b (by simpa [u8s] using h.2)]
theorem cdC_inj {a b : Cd} (h : cdC a = cdC b) : a = b := by
  have h1 := List.append_inj' h rfl
  have h2 := u8s_inj _ _ h1.1
  have h3 : a.bits = b.bits := by simpa using h1.2
  cases a; cases b; simp only at h2 h3; rw [h2, h3]
theorem cdV_inj {a b : Cd} (h : cdV a = cdV b) : a = b := cdC_inj (congrArg Array.toList (Value.agg.inj h))
theorem mapM_some {α β : Type} {f : α → Option β} : ∀ {l : List α}, (∀ x ∈ l, ∃ y, f x = some y) → ∃ ys, l.mapM f = some ys
  | [], _ => ⟨[], rfl⟩
  | x :: l, h => by
    obtain ⟨y, hy⟩ := h x (by simp)
    obtain ⟨ys, hys⟩ := mapM_some (l := l) (fun z hz => h z (by simp [hz]))
    exact ⟨y :: ys, by simp [List.mapM_cons, hy, hys]⟩
theorem u8s_get (a : List UInt8) {i : Nat} (h : i < a.length) : ((u8s a).drop (i * 1)).take 1 = [.int .u8 ((a[i]).toNat : Int)] := by
  rw [Nat.mul_one, List.drop_eq_getElem_cons (by rw [u8s_length]; exact h)]
  simp [u8s]
theorem addr_lits (d : Nat) {a : List UInt8} (h : a.length = 16) : ∃ ls, Tryz.prog.keyLits (d + 2) 34 (u8s a) = some ls := by
  have c1 : Tryz.prog.cellsOf 34 = 16 := by kernel_rfl
  have c2 : Tryz.prog.cellsOf 5 = 1 := by kernel_rfl
  have hstep : Tryz.prog.keyLits (d + 2) 34 (u8s a) = ((List.range 16).mapM fun i => Tryz.prog.keyLits (d + 1) 5 (((u8s a).drop (i * 1)).take 1)).map List.flatten := by
    conv => lhs; unfold Program.keyLits
    rw [Tryz.underlying34]
    simp only [u8s_length, h, c1, c2, if_true]
  rw [hstep]
  obtain ⟨ys, hys⟩ := mapM_some (l := List.range 16) (f := fun i => Tryz.prog.keyLits (d + 1) 5 (((u8s a).drop (i * 1)).take 1)) (fun i hi => by
    have hlt : i < a.length := by rw [h]; exact List.mem_range.1 hi
    rw [u8s_get a hlt]
    have hw : (Lit.int .u8 ((a[i]).toNat : Int)).wf = true := by
      have := (a[i]).toNat_lt
      simp [Lit.wf, IntKind.min, IntKind.max, IntKind.signed, IntKind.bits]; omega
    exact ⟨_, by unfold Program.keyLits; rw [Tryz.underlying5]; simp only [hw, and_self, if_true]; rfl⟩)
  rw [hys]
  exact ⟨_, rfl⟩
theorem cd_lits (d : Nat) {c : Cd} (h : SizC c) : ∃ ls, Tryz.prog.keyLits (d + 3) 50 (cdC c) = some ls := by
  obtain ⟨h1, h2⟩ := h
  have c1 : Tryz.prog.cellsOf 34 = 16 := by kernel_rfl
  have c2 : Tryz.prog.cellsOf 3 = 1 := by kernel_rfl
  have c3 : Tryz.prog.cellsOf 50 = 17 := by kernel_rfl
  obtain ⟨ls, hls⟩ := addr_lits d h1
  have e1 : (cdC c).take 16 = u8s c.addr := List.take_left' (by rw [u8s_length, h1])
  have e2 : (cdC c).drop 16 = [.int .i64 c.bits] := List.drop_left' (by rw [u8s_length, h1])
  have e3 : Tryz.prog.keyLits (d + 2) 3 [.int .i64 c.bits] = some [.int .i64 c.bits] := by unfold Program.keyLits; rw [Tryz.underlying3]; simp only [h2, and_self, if_true]
  unfold Program.keyLits
  rw [Tryz.underlying50]
  have hl := cdC_len h1
  simp only [hl, c3]
  simp only [List.mapM_cons, List.mapM_nil, List.drop_zero, c1, c2, e1, e2, hls, e3, List.take_succ_cons, List.take_nil]
  rw [if_pos ⟨trivial, by kernel_rfl⟩]
  exact ⟨_, rfl⟩
theorem cd_key (c : Cd) (h : SizC c) : isK Tryz.prog 50 (cdV c) := by
  have hk : Tryz.prog.keyType 50 = true := by kernel_rfl
  have hc : Tryz.prog.cellsOf 50 = 17 := by kernel_rfl
  obtain ⟨d, hd⟩ : ∃ d, Tryz.prog.types.size + 1 = d + 3 := ⟨Tryz.prog.types.size - 2, by kernel_rfl⟩
  obtain ⟨ls, hls⟩ := cd_lits d h
  have hl := cdC_len h.1
  unfold isK keyOf
  rw [Tryz.underlying50]
  simp only [hk, Value.formed, Tryz.underlying50, hc, hd, List.size_toArray, hl, Value.cells]
  rw [show (u8s c.addr ++ [Value.int .i64 c.bits]) = cdC c from rfl, hls]
  exact ⟨_, rfl⟩

section
variable {W0 : World} {H : Heap} {e : Env} {x y : Operand}
theorem run_sameC (a b : Cd) (ha : SizC a) (hb : SizC b) (w : World) : (Op.equal 50 (cdV a) (cdV b)).run Tryz.prog w = .ok (decide (a = b)) w := by
  obtain ⟨la, hla⟩ := cd_key a ha
  obtain ⟨lb, hlb⟩ := cd_key b hb
  obtain ⟨r, hr, hiff⟩ := run_equal_deep (P := Tryz.prog) w (m := 4) (by omega) (k := 50) (by kernel_rfl) (by kernel_rfl) hla hlb
  rw [hr]
  congr 1
  rw [Bool.eq_iff_iff, hiff, decide_eq_true_eq]
  constructor
  · rintro rfl
    have K := Maps.Keyed.of_law (deep_law_laid (P := Tryz.prog) (by kernel_rfl) (m := 4) (by omega) (k := 50) (of_decide_eq_true (by kernel_rfl)) (by kernel_rfl) (by kernel_rfl))
    exact cdV_inj (K.inj hla hlb)
  · rintro rfl
    rw [hla] at hlb; exact Option.some.inj hlb
theorem Rd.eqlCd (a b : Cd) (hx : opv e x = some (cdV a)) (hy : opv e y = some (cdV b)) (ha : SizC a) (hb : SizC b) {t' : TypeId} : Rd Tryz.prog W0 H e (.binOp .eql 50 x y t') (.bool (decide (a = b))) := by
    delta Rd
    intro ρ hρ w _ op ho
    have hg : Tryz.prog.eqGuardType Tryz.prog.depth 50 = false := by kernel_rfl
    have h : (binOp .eql 50 (cdV a) (cdV b)).run Tryz.prog w = .ok (.bool (decide (a = b))) w := by
      simp only [binOp]; simp [run_sameC a b ha hb w]
    simp [execOp, ho, hρ x _ hx, hρ y _ hy, eqGuard, hg, h]
theorem Rd.mkCd {a : List UInt8} {n : Int} (ha : a.length = 16) (hx : opv e x = some (.agg (u8s a).toArray)) (hy : opv e y = some (.int .i64 n)) : Rd Tryz.prog W0 H e (.build 50 #[(0, x), (1, y)]) (cdV ⟨a, n⟩) := by
  match a, ha with
  | [a0, a1, a2, a3, a4, a5, a6, a7, a8, a9, b0, b1, b2, b3, b4, b5], _ =>
    exact Rd.build (vs := [(0, .agg (u8s [a0, a1, a2, a3, a4, a5, a6, a7, a8, a9, b0, b1, b2, b3, b4, b5]).toArray), (1, .int .i64 n)]) (by simp [List.mapM_cons, hx, hy]) (by kernel_rfl)
/-- The address of one that lies alone in its block. -/
theorem Rd.cdAddr {b o : Nat} {c : Cd} {el : TypeId} {fr : Nat × Nat} (hx : opv e x = some (.pointer (some ⟨b, o, none⟩))) (ho : o = 0) [h : Has H b (.cells (cdC c).toArray el fr)] (ha : c.addr.length = 16) : Rd Tryz.prog W0 H e (.load 34 x) (.agg (u8s c.addr).toArray) :=
  Rd.loadAggC hx (cellsH (h := h) (fun j u hj => by
    have hlt := (List.getElem?_eq_some_iff.1 hj).1
    subst ho
    rw [List.getElem?_toArray, Nat.zero_add, List.getElem?_append_left hlt]; exact hj)) (by rw [u8s_length, ha])
theorem Rd.cdBits {b o : Nat} {c : Cd} {el : TypeId} {fr : Nat × Nat} (hx : opv e x = some (.pointer (some ⟨b, o, none⟩))) (ho : o = 16) [h : Has H b (.cells (cdC c).toArray el fr)] (ha : c.addr.length = 16) : Rd Tryz.prog W0 H e (.load 3 x) (.int .i64 c.bits) :=
  Rd.load hx (cellH (h := h) (by subst ho; rw [List.getElem?_toArray, List.getElem?_append_right (by rw [u8s_length, ha]; exact Nat.le_refl _), u8s_length, ha]; rfl))
theorem Rd.notKeep {t : TypeId} {v : Value} {kp : Nat} (hk : kp ≤ 8) (hx : opv e x = some v) (hv : v = .int .u8 (Int.fdiv 255 (2 ^ kp))) : Rd Tryz.prog W0 H e (.unOp .xor t x) (.int .u8 ((keepB kp).toNat : Int)) := by
  delta Rd
  intro ρ hρ w _ op ho
  subst hv
  have key : ∀ k < 9, IntKind.u8.wrap ((BitVec.ofInt IntKind.u8.bits IntKind.u8.max ^^^ BitVec.ofInt IntKind.u8.bits (Int.fdiv 255 (2 ^ k))).toNat : Int) = ((keepB k).toNat : Int) := by decide +kernel
  have h1 := key kp (by omega)
  have h2 : (Op.unary .xor (.int .u8 (Int.fdiv 255 (2 ^ kp)))).run Tryz.prog w = .ok (.int .u8 ((keepB kp).toNat : Int)) w := by
    simp only [Op.unary, Op.intBits, show IntKind.u8.signed = false from rfl, Bool.false_eq_true, if_false]
    rw [← h1]; rfl
  simp [execOp, ho, hρ x _ hx, h2]
end
section
variable {W0 : World} {F : Heap}
theorem mask_spec (a : List UInt8) (n : Int) (ha : a.length = 16) (_ : (Lit.int .i64 n).wf = true) : T Tryz.prog W0 88 #[.agg (u8s a).toArray, .int .i64 n] F (fun v H' => v = .agg (u8s (maskL a (cl n))).toArray ∧ H' = F) := by
  have hcl := cl_le n
  have hcc := cl_cast n
  refine T.intro (args := [_, _]) Tryz.func88 rfl Tryz.ntmps88 rfl ?_
  repeat' first | refine Y.st ?_ | (refine nw ?_; intro _) | refine Y.kn ?_ | fail
  rename_i b2 b4
  rw [← hcc]
  generalize cl n = N at hcl hcc
  have hml := maskL_len a N
  have hz16 : zero16.length = 16 := rfl
  have hm16 : (maskL a N).length = 16 := by omega
  refine GC.loopE (ι := { k : Nat // k ≤ 16 }) (fun i => [(10, .int .i64 (i.1 : Int))]) [(1, _), (2, _), (4, _)] (fun i => (b4, .cells (u8s zero16).toArray 34 (0, 0)) :: (b2, .cells (u8s ((maskL a N).take i.1 ++ a.drop i.1)).toArray 34 (0, 0)) :: F) (fun i => 16 - i.1) ⟨0, by omega⟩ ⟨rfl, rfl, rfl, rfl, trivial⟩ (fun _ h => h) ?_
  rintro ⟨k, hk⟩
  dsimp only [List.cons_append, List.nil_append] at hk ⊢
  by_cases hlt : k < 16
  · have hkl : k < a.length := by omega
    have hhalf : ((maskL a N).take k ++ a.drop k)[k]? = some a[k] := half_get a (maskL a N) hml k hkl
    have hlen : ((maskL a N).take k ++ a.drop k).length = 16 := by rw [List.length_append, List.length_take, List.length_drop, hml]; omega
    have hcell : ((u8s ((maskL a N).take k ++ a.drop k)).toArray : Array Value)[0 + k * 1]? = some (.int .u8 ((a[k]).toNat : Int)) := by
      rw [Nat.zero_add, Nat.mul_one, List.getElem?_toArray, u8s, List.getElem?_map, hhalf]; rfl
    repeat' first | refine Y.st ?_ | (refine nw ?_; intro _) | refine Y.kn ?_ | fail
    refine GC.drawnH [(0, .read), (1, .read), (2, .read), (3, .read), (4, .read), (5, .read), (6, .read), (7, .read), (8, .tail)] (by kernel_rfl) (by kernel_rfl) rfl ?_
    repeat' first | refine Y.st ?_ | (refine nw ?_; intro _) | refine Y.kn ?_ | fail
    refine G.rd (Rd.shr (n := min (N - 8 * k) 8) rfl rfl (by omega) (by show min (N - 8 * k) 8 ≤ 8; omega) rfl) rfl rfl ?_
    refine G.rd (Rd.notKeep (kp := min (N - 8 * k) 8) (by omega) rfl rfl) rfl rfl ?_
    refine G.rd (Rd.and (m := (a[k]).toNat) (n := (keepB (min (N - 8 * k) 8)).toNat) (r := (a[k] &&& keepB (min (N - 8 * k) 8)).toNat) rfl rfl rfl rfl (UInt8.toNat_lt _) (UInt8.toNat_lt _) (UInt8.toNat_and _ _).symm (by have := UInt8.toNat_lt (a[k] &&& keepB (min (N - 8 * k) 8)); exact IntWalk.u8_in _ (by omega))) rfl rfl ?_
    repeat' first | refine Y.st ?_ | (refine nw ?_; intro _) | refine Y.kn ?_ | fail
    have hnext := half_set a (maskL a N) hml k hkl (a[k] &&& keepB (min (N - 8 * k) 8)) (by rw [maskL_get a N k hkl, List.getD_eq_getElem?_getD, List.getElem?_eq_getElem hkl]; rfl)
    exact GQ.back ⟨k + 1, by omega⟩ (by simp only; omega) ⟨rfl, rfl, rfl, rfl, trivial⟩ (fun w hw => by rw [hnext] at hw; exact hw)
  · obtain rfl : k = 16 := by omega
    rw [show (maskL a N).take 16 ++ a.drop 16 = maskL a N by rw [List.take_of_length_le (by omega), List.drop_eq_nil_of_le (by omega), List.append_nil]]
    repeat' first | refine Y.st ?_ | (refine nw ?_; intro _) | refine Y.kn ?_ | fail
    refine GQ.res1h (v := .agg (u8s (maskL a N)).toArray) rfl (.agg rfl (by rw [u8s_length, hml, ha])) F (fun w hw => hw.sub ((List.sublist_cons_self _ _).trans (List.sublist_cons_self _ _))) ⟨rfl, rfl⟩
instance {a : List UInt8} {n : Int} : PureF Tryz.prog W0 88 [.agg (u8s a).toArray, .int .i64 n] (a.length = 16 ∧ (Lit.int .i64 n).wf = true) (.agg (u8s (maskL a (cl n))).toArray) := ⟨fun h _ => mask_spec a n h.1 h.2⟩
theorem of_spec (a : List UInt8) (n : Int) (ha : a.length = 16) (_ : (Lit.int .i64 n).wf = true) : T Tryz.prog W0 43 #[.agg (u8s a).toArray, .int .i64 n] F (fun v H' => v = cdV (ofL a n) ∧ H' = F) := by
  have hcl := cl_le n
  have hcc := cl_cast n
  have hcn : cl ((cl n : Nat) : Int) = cl n := cl_nat hcl
  refine T.intro (args := [_, _]) Tryz.func43 rfl Tryz.ntmps43 rfl ?_
  repeat' first | refine Y.st ?_ | (refine nw ?_; intro _) | refine Y.kn ?_ | fail
  rename_i b2 b4
  rw [← hcc]
  have hw : (Lit.int .i64 (cl n : Int)).wf = true := wf_small (by omega) (by omega)
  have hml := maskL_len a (cl n)
  repeat' first | refine Y.st ?_ | (refine nw ?_; intro _) | refine Y.kn ?_ | fail
  rw [hcn]
  refine G.rd (Rd.mkCd (a := maskL a (cl n)) (n := (cl n : Int)) (by omega) rfl rfl) rfl rfl ?_
  refine G.ef rfl rfl rfl (Eff.storeAll (cs := cdC zeroC) (vs := cdC (ofL a n)) rfl rfl (cdC_one _) (by rw [cdC_len (siz_of ha n).1]; rfl) (cdC_len (siz_of ha n).1) ?_)
  repeat' first | refine Y.st ?_ | (refine nw ?_; intro _) | refine Y.kn ?_ | fail
  exact GQ.res1h (v := cdV (ofL a n)) rfl (.agg rfl (cdC_len (siz_of ha n).1)) F (fun w hw => hw.sub ((List.sublist_cons_self _ _).trans (List.sublist_cons_self _ _))) ⟨rfl, rfl⟩
instance {a : List UInt8} {n : Int} : PureF Tryz.prog W0 43 [.agg (u8s a).toArray, .int .i64 n] (a.length = 16 ∧ (Lit.int .i64 n).wf = true) (cdV (ofL a n)) := ⟨fun h _ => of_spec a n h.1 h.2⟩
theorem right_spec (c : Cd) (h : SizC c) : T Tryz.prog W0 121 #[cdV c] F (fun v H' => v = .bool (rightC c) ∧ H' = F) := by
  have h1 := h.1
  have h2 := h.2
  refine T.intro (args := [_]) Tryz.func121 rfl Tryz.ntmps121 rfl ?_
  repeat' first | refine Y.st ?_ | (refine nw ?_; intro _) | refine Y.kn ?_ | fail
  rename_i b1
  refine GC.drawnH [(0, .read), (1, .read), (2, .read), (3, .read), (4, .read), (5, .eff), (6, .read), (7, .read)] (by kernel_rfl) (by kernel_rfl) rfl ?_
  repeat' first | refine Y.st ?_ | (refine nw ?_; intro _) | refine Y.kn ?_ | fail
  refine G.rd (Rd.loadAggC rfl (cellsH (fun j u hj => by simpa using hj)) (cdC_len h1)) rfl rfl ?_
  repeat' first | refine Y.st ?_ | (refine nw ?_; intro _) | refine Y.kn ?_ | fail
  refine G.rd (Rd.cdAddr rfl rfl h1) rfl rfl ?_
  repeat' first | refine Y.st ?_ | (refine nw ?_; intro _) | refine Y.kn ?_ | fail
  refine G.rd (Rd.cdBits rfl rfl h1) rfl rfl ?_
  repeat' first | refine Y.st ?_ | (refine nw ?_; intro _) | refine Y.kn ?_ | fail
  refine G.rd (Rd.eqlCd c (ofL c.addr c.bits) rfl rfl h (siz_of h1 _)) rfl rfl ?_
  repeat' first | refine Y.st ?_ | (refine nw ?_; intro _) | refine Y.kn ?_ | fail
  exact GQ.pure1 rfl (.tmp rfl) rfl
instance {a : List UInt8} {n : Int} : PureF Tryz.prog W0 121 [.agg (u8s a ++ [Value.int .i64 n]).toArray] (SizC ⟨a, n⟩) (.bool (rightC ⟨a, n⟩)) := ⟨fun h _ => right_spec ⟨a, n⟩ h⟩
theorem has_spec (c : Cd) (a : List UInt8) (h : SizC c) (ha : a.length = 16) : T Tryz.prog W0 134 #[cdV c, .agg (u8s a).toArray] F (fun v H' => v = .bool (hasC c a) ∧ H' = F) := by
  have h1 := h.1
  have h2 := h.2
  refine T.intro (args := [_, _]) Tryz.func134 rfl Tryz.ntmps134 rfl ?_
  repeat' first | refine Y.st ?_ | (refine nw ?_; intro _) | refine Y.kn ?_ | fail
  rename_i b2 b3
  cases hr : rightC c with
  | false =>
    refine GC.drawnH [(0, .read), (1, .eff), (2, .read), (3, .read), (4, .read), (5, .read), (7, .read), (6, .eff), (8, .read), (9, .read), (10, .read)] (by kernel_rfl) (by kernel_rfl) rfl ?_
    repeat' first | refine Y.st ?_ | (refine nw ?_; intro _) | refine Y.kn ?_ | fail
    refine G.rd (Rd.loadAggC rfl (cellsH (fun j u hj => by simpa using hj)) (cdC_len h1)) rfl rfl ?_
    repeat' first | refine Y.st ?_ | (refine nw ?_; intro _) | refine Y.kn ?_ | fail
    exact GQ.pure1 rfl (.tmp rfl) (by rw [hasC, hr]; rfl)
  | true =>
    refine GC.drawnH [(0, .read), (1, .eff), (2, .read), (3, .read), (4, .read), (5, .read), (7, .read), (6, .eff), (8, .read), (9, .read), (10, .read)] (by kernel_rfl) (by kernel_rfl) rfl ?_
    repeat' first | refine Y.st ?_ | (refine nw ?_; intro _) | refine Y.kn ?_ | fail
    refine G.rd (Rd.loadAggC rfl (cellsH (fun j u hj => by simpa using hj)) (cdC_len h1)) rfl rfl ?_
    repeat' first | refine Y.st ?_ | (refine nw ?_; intro _) | refine Y.kn ?_ | fail
    refine G.rd (Rd.cdBits rfl rfl h1) rfl rfl ?_
    repeat' first | refine Y.st ?_ | (refine nw ?_; intro _) | refine Y.kn ?_ | fail
    refine G.rd (Rd.loadAggC rfl (cellsH (fun j u hj => by simpa using hj)) (cdC_len h1)) rfl rfl ?_
    repeat' first | refine Y.st ?_ | (refine nw ?_; intro _) | refine Y.kn ?_ | fail
    refine G.rd (Rd.eqlCd (ofL a c.bits) c rfl rfl (siz_of ha _) h) rfl rfl ?_
    repeat' first | refine Y.st ?_ | (refine nw ?_; intro _) | refine Y.kn ?_ | fail
    exact GQ.pure1 rfl (.tmp rfl) (by rw [hasC, hr]; rfl)
instance {b a : List UInt8} {n : Int} : PureF Tryz.prog W0 134 [.agg (u8s b ++ [Value.int .i64 n]).toArray, .agg (u8s a).toArray] (SizC ⟨b, n⟩ ∧ a.length = 16) (.bool (hasC ⟨b, n⟩ a)) := ⟨fun h _ => has_spec ⟨b, n⟩ a h.1 h.2⟩
end
end Go.Cid

namespace Go.Cid
open Go.Own Go.Proofs Go.RowKit Go.Lib Go.Asc Go.Adr Go.Nam
attribute [local irreducible] GC GQ G Rd Eff T
set_option maxRecDepth 20000
set_option maxHeartbeats 4000000
theorem indexByte_mem (c : UInt8) : ∀ l : List UInt8, decide (0 ≤ indexByte l c) = decide (c ∈ l)
  | [] => by simp [indexByte]
  | b :: l => by
    have ih := indexByte_mem c l
    have hg := indexByte_ge l c
    unfold indexByte
    by_cases h : b = c
    · subst h; simp
    · have h1 : (b == c) = false := by simp [h]
      rw [h1]
      by_cases h2 : indexByte l c = -1
      · simp only [h2] at ih ⊢
        have : c ∉ l := by simpa using ih
        simp [this, Ne.symm h]
      · have h3 : (indexByte l c == -1) = false := by simp [h2]
        have h4 : c ∈ l := by
          have : 0 ≤ indexByte l c := by omega
          rw [decide_eq_true this] at ih
          simpa using ih.symm
        rw [h3]
        simp only [Bool.false_eq_true, if_false]
        rw [decide_eq_true (by omega), decide_eq_true (List.mem_cons_of_mem _ h4)]
theorem number_le {l : List UInt8} {m : Int} {n : Nat} (h : number l m = some n) : (n : Int) ≤ m := by
  unfold number at h
  split at h
  · rename_i hc; cases h; exact hc.2.2.2.2
  · cases h
section
variable {W0 : World} {F : Heap}
theorem contains_spec (l : List UInt8) (c : UInt8) : T Tryz.prog W0 361 #[S l, S [c]] F (fun v H' => v = .bool (decide (c ∈ l)) ∧ H' = F) := by
  refine T.intro (args := [_, _]) Tryz.func361 rfl Tryz.ntmps361 rfl ?_
  repeat' first | refine Y.st ?_ | (refine nw ?_; intro _) | refine Y.kn ?_ | fail
  refine G.ef rfl rfl rfl (Eff.callF rfl ((index_spec l c).mono ?_))
  rintro v H' ⟨rfl, rfl⟩
  repeat' first | refine Y.st ?_ | (refine nw ?_; intro _) | refine Y.kn ?_ | fail
  exact GQ.pure1 rfl (.tmp rfl) (by rw [indexByte_mem])
attribute [local irreducible] ofL Lit.wf
end
end Go.Cid

namespace Go.Cid
open Go.Own Go.Proofs Go.RowKit Go.Lib Go.Asc Go.Adr Go.Nam Go.Tri
attribute [local irreducible] GC GQ G Rd Eff T
set_option maxRecDepth 20000
set_option maxHeartbeats 4000000
section
variable {W : World}
theorem lies_addr {v : VT} (h : VT.Lies Tryz.prog W 34 v) : ∃ a : List UInt8, a.length = 16 ∧ v.val = .agg (u8s a).toArray ∧ v.cells = u8s a := by
  obtain ⟨ps, rfl, hl, h1⟩ := Go.Own.Lies.array h
  obtain ⟨l, h2, h3⟩ := lies_bytes h1
  exact ⟨l, by rw [h2, hl], by simp [VT.val, h3], by simp [VT.cells, h3]⟩
theorem lies_cidr {v : VT} (h : VT.Lies Tryz.prog W 50 v) : ∃ c : Cd, SizC c ∧ v.val = cdV c ∧ v.cells = cdC c := by
  obtain ⟨ps, rfl, h1⟩ := Go.Own.Lies.agg h
  obtain ⟨a1, r1, rfl, k1, h1⟩ := lies_one h1
  obtain ⟨a2, r2, rfl, k2, h1⟩ := lies_one h1
  obtain rfl := lies_nil h1
  obtain ⟨a, ha, e1, e2⟩ := lies_addr k1
  obtain ⟨n, rfl, hn⟩ := Go.Own.Lies.int k2
  exact ⟨⟨a, n⟩, ⟨ha, hn⟩, by simp [VT.val, VT.cells, VT.cellsL, e2], by simp [VT.cells, VT.cellsL, e2]⟩
end
end Go.Cid
