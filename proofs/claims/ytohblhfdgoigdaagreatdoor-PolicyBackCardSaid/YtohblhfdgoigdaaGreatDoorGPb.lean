/-
  strings.Builder OVER WHAT IS OWNED: copyCheck, WriteString, String.
  A TENANT'S FILE: policy.reader.line, fresh, Parse, Right.
  A TENANT'S FILE, PRINTED: policy.verb, option, a line said.
  A TENANT'S FILE, PRINTED: policy.Print.
  IS A TENANT'S FILE RIGHT: policy.Right.
-/
import Derived.Test.YtohblhfdgoigdaaGreatDoorGTb
import Derived.Test.YtohblhfdgoigdaaGreatDoorGOwn
import Derived.Test.YtohblhfdgoigdaaGreatDoorGPa
namespace Go.Bld
open Go.Own Go.Proofs Go.RowKit Go.Lib Go.Asc Go.Adr
attribute [local irreducible] GC GQ G Rd Eff T
set_option maxRecDepth 20000
set_option maxHeartbeats 4000000
instance : ExtF Tryz.prog 120 Extern.AbiNoEscape.same := ⟨fun xs w => run_callFunc_extern Tryz.func120 (by kernel_rfl) (by kernel_rfl) (by kernel_rfl) (by kernel_rfl) xs w⟩
instance : UnderT Tryz.prog 170 .unsafePointer := ⟨Tryz.underlying170⟩
theorem one_buf {el size n : Nat} {v : Value} {xs : List Value} {B : Heap} (h : Buf el size v n xs B) : v.oneCell' = true := by cases h <;> rfl
theorem _root_.Go.Own.Buf.shape {el n : Nat} {v : Value} {xs : List Value} {B : Heap} (h : Buf el 1 v n xs B) : (n = 0 ∧ v = .slice none 0 0 ∧ B = [] ∧ xs = []) ∨
    ∃ b cap extra, v = .slice (some ⟨b, 0, none⟩) n cap ∧ B = [(b, .cells (xs ++ extra).toArray el (0, 0))] ∧ n ≤ cap := by
  cases h with
  | nil => exact .inl ⟨rfl, rfl, rfl, rfl⟩
  | row b n cap xs extra h1 h2 h3 h4 => exact .inr ⟨b, cap, extra, rfl, rfl, h3⟩
/-- A builder's block and its buffer. -/
def BldQ (l : List UInt8) (bb : Nat) (H : Heap) : Prop := ∃ p bv B, H = (bb, .cells #[.pointer p, bv] 82 (0, 0)) :: B ∧ (p = none ∨ p = some ⟨bb, 0, none⟩) ∧ Buf 5 1 bv l.length (byteCells l) B
section
variable {W0 : World} {F : Heap}
theorem copyCheck_spec (bb : Nat) (p : Option Addr) (bv : Value) (hp : p = none ∨ p = some ⟨bb, 0, none⟩) : T Tryz.prog W0 83 #[.pointer (some ⟨bb, 0, none⟩)] ((bb, .cells #[.pointer p, bv] 82 (0, 0)) :: F)
    (fun _ H' => H' = (bb, .cells #[.pointer (some ⟨bb, 0, none⟩), bv] 82 (0, 0)) :: F) := by
  refine T.intro (args := [_]) Tryz.func83 rfl Tryz.ntmps83 rfl ?_
  rcases hp with rfl | rfl
  · repeat' first | refine Y.st ?_ | (refine nw ?_; intro _) | refine Y.kn ?_ | fail
    refine G.rd (Rd.toUnsafe rfl ⟨_, rfl, by decide⟩ (by simp)) rfl rfl ?_
    refine G.rd (Rd.ext rfl (fun w _ => run_noEscape w _)) rfl rfl ?_
    refine G.rd (Rd.fromUnsafe rfl (by kernel_rfl) (by kernel_rfl)) rfl rfl ?_
    repeat' first | refine Y.st ?_ | (refine nw ?_; intro _) | refine Y.kn ?_ | fail
    exact GQ.done0n rfl rfl
  · repeat' first | refine Y.st ?_ | (refine nw ?_; intro _) | refine Y.kn ?_ | fail
    refine G.rd (Rd.neSame rfl rfl (by kernel_rfl)) rfl rfl ?_
    repeat' first | refine Y.st ?_ | (refine nw ?_; intro _) | refine Y.kn ?_ | fail
    exact GQ.done0n rfl rfl
theorem writeString_spec {l : List UInt8} {bb : Nat} {H : Heap} (hb : BldQ l bb H) (s : List UInt8) (hlen : l.length + s.length ≤ 140737488355328) :
    T Tryz.prog W0 43 #[.pointer (some ⟨bb, 0, none⟩), S s] (H ++ F) (fun _ H' => ∃ H2, BldQ (l ++ s) bb H2 ∧ H' = H2 ++ F) := by
  obtain ⟨p, bv, B, rfl, hp, hB⟩ := hb
  simp only [List.cons_append]
  have hbv : bv.oneCell' = true := one_buf hB
  refine T.intro (args := [_, _]) Tryz.func43 rfl Tryz.ntmps43 rfl ?_
  repeat' first | refine Y.st ?_ | (refine nw ?_; intro _) | refine Y.kn ?_ | fail
  refine G.ef rfl rfl rfl (Eff.callF rfl ((copyCheck_spec bb p bv hp).mono ?_))
  rintro v H' rfl
  repeat' first | refine Y.st ?_ | (refine nw ?_; intro _) | refine Y.kn ?_ | fail
  refine G.ef rfl rfl rfl (Eff.appendS (F := (bb, .cells #[.pointer (some ⟨bb, 0, none⟩), bv] 82 (0, 0)) :: F) rfl hB rfl (by exact permC) (by omega) (by omega) (fun v' B' hB' => ?_))
  have hbv' : v'.oneCell' = true := one_buf hB'
  repeat' first | refine Y.st ?_ | (refine nw ?_; intro _) | refine Y.kn ?_ | fail
  refine G.ef rfl rfl rfl (Eff.store rfl rfl hbv' (by simp) (by simp [Fz]) ?_)
  repeat' first | refine Y.st ?_ | (refine nw ?_; intro _) | refine Y.kn ?_ | fail
  refine GQ.heap (H' := ((bb, .cells #[.pointer (some ⟨bb, 0, none⟩), v'] 82 (0, 0)) :: B') ++ F) ?_ (fun w hw => hw.perm (by simp))
  exact GQ.done2 rfl rfl rfl ⟨_, ⟨_, v', B', rfl, .inr rfl, by rw [List.length_append]; have := byteCells_append l s; rw [this]; exact hB'⟩, rfl⟩
theorem string_spec {l : List UInt8} {bb : Nat} {H : Heap} (hb : BldQ l bb H) (h0 : l ≠ []) (hl : l.length ≤ 140737488355328) : T Tryz.prog W0 48 #[.pointer (some ⟨bb, 0, none⟩)] (H ++ F) (fun v H' => v = S l ∧ H' = F) := by
  obtain ⟨p, bv, B, rfl, hp, hB⟩ := hb
  simp only [List.cons_append]
  have hlp : 0 < l.length := List.length_pos_iff.2 h0
  rcases hB.shape with ⟨h1, _⟩ | ⟨b, cap, extra, rfl, rfl, hc⟩
  · omega
  refine T.intro (args := [_]) Tryz.func48 rfl Tryz.ntmps48 rfl ?_
  repeat' first | refine Y.st ?_ | (refine nw ?_; intro _) | refine Y.kn ?_ | fail
  refine GC.drawnH [(0, .read), (1, .read), (2, .read), (3, .read), (4, .read), (5, .read), (6, .read), (7, .read), (8, .read), (9, .read), (10, .tail), (11, .tail)] (by kernel_rfl) (by kernel_rfl) rfl ?_
  repeat' first | refine Y.st ?_ | (refine nw ?_; intro _) | refine Y.kn ?_ | fail
  refine G.rd (Rd.sliceData rfl (by omega)) rfl rfl ?_
  repeat' first | refine Y.st ?_ | (refine nw ?_; intro _) | refine Y.kn ?_ | fail
  refine G.ef rfl rfl rfl (Eff.unsafeString (l := l) (extra := extra) (F := (bb, .cells #[.pointer p, .slice (some ⟨b, 0, none⟩) l.length cap] 82 (0, 0)) :: F) (by kernel_rfl) rfl rfl (by exact permC) h0 (by omega) ?_)
  repeat' first | refine Y.st ?_ | (refine nw ?_; intro _) | refine Y.kn ?_ | fail
  refine GQ.heap (H' := F) ?_ (fun w hw => hw.sub (List.sublist_cons_self _ _))
  exact GQ.done1 rfl rfl ⟨rfl, rfl⟩
end
end Go.Bld

namespace Go.Pol
open Go.Own Go.Proofs Go.RowKit Go.Lib Go.Asc Go.Adr Go.Nam Go.Tri Go.Cid
attribute [local irreducible] GC GQ G Rd Eff T
set_option maxRecDepth 20000
set_option maxHeartbeats 4000000
instance : UnderT Tryz.prog 132 (.func #[76] #[28] false) := ⟨Tryz.underlying132⟩
def fnV (f : FuncId) (br : Nat) : Value := .func (.func f) #[.pointer (some ⟨br, 0, none⟩)] #[]
def readsL (br : Nat) : List (Lb × Value) := [(kDefault, fnV 80 br), (kAllow, fnV 81 br), (kDeny, fnV 81 br), (kPin, fnV 82 br)]
instance : MapT Tryz.prog 133 9 132 isStr .nilFunc := ⟨Tryz.underlying133, strLaws Tryz.underlying9, Tryz.zeroValue132⟩
theorem buf_one {el size n : Nat} {v : Value} {xs : List Value} {B : Heap} (h : Buf el size v n xs B) : v.oneCell' = true := by cases h <;> rfl
theorem words_len : ∀ (l w : Lb), (wordsG l w).length ≤ l.length + 1
  | [], w => by simp only [wordsG]; split <;> simp
  | b :: l, w => by
    simp only [wordsG]
    split
    · split
      · have := words_len l []; simp only [List.length_cons]; omega
      · have := words_len l []; simp only [List.length_cons]; omega
    · have := words_len l (w ++ [b]); simp only [List.length_cons]; omega
theorem words_each : ∀ (l w : Lb), ∀ x ∈ wordsG l w, x.length ≤ l.length + w.length
  | [], w, x, h => by
    simp only [wordsG] at h
    split at h
    · cases h
    · have : x = w := by simpa using h
      subst this; simp
  | b :: l, w, x, h => by
    simp only [wordsG] at h
    split at h
    · split at h
      · have := words_each l [] x h; simp only [List.length_cons, List.length_nil] at this ⊢; omega
      · rcases List.mem_cons.1 h with rfl | h
        · simp only [List.length_cons]; omega
        · have := words_each l [] x h; simp only [List.length_cons, List.length_nil] at this ⊢; omega
    · have := words_each l (w ++ [b]) x h
      simp only [List.length_append, List.length_cons, List.length_nil] at this ⊢; omega
section
variable {W0 : World} {F : Heap}
theorem hasPre_spec (l : Lb) (hl : l.length ≤ 140737488351232) : T Tryz.prog W0 79 #[S l, S [35]] F (fun v H' => v = .bool (decide (l.head? = some 35)) ∧ H' = F) := by
  refine T.intro (args := [_, _]) Tryz.func79 rfl Tryz.ntmps79 rfl ?_
  have h1 : [(35 : UInt8)].length = 1 := rfl
  repeat' first | refine Y.st ?_ | (refine nw ?_; intro _) | refine Y.kn ?_ | fail
  exact GQ.pure1 rfl (.tmp rfl) (by
    congr 1
    refine decide_eq_decide.2 ?_
    cases l with
    | nil => simp
    | cons a r => simp)
instance {l : Lb} : PureF Tryz.prog W0 79 [S l, .string ⟨#[35]⟩] (l.length ≤ 140737488351232) (.bool (decide (l.head? = some 35))) := ⟨fun h _ => hasPre_spec l h⟩
theorem lineW_split (p : Pol) (w0 : Lb) (r : List Lb) (h : w0.head? ≠ some 35) : lineW p (w0 :: r) = if w0 = kDefault then presetOut p (w0 :: r) else if w0 = kAllow ∨ w0 = kDeny then ruleOut p (w0 :: r) else if w0 = kPin then pinOut p (w0 :: r) else (p, 3) := by
  unfold lineW
  simp only
  rw [if_neg h]
  split
  · unfold presetOut
    cases r with
    | nil => rfl
    | cons a r => cases r <;> rfl
  · split
    · unfold ruleOut
      split <;> rename_i h <;> rw [h]
    · split
      · unfold pinOut
        split <;> rename_i h <;> rw [h]
      · rfl
theorem ResR.drop {o : Pol × Int} {br : Nat} {x y : Nat × Obj} {v : Value} {H' : Heap} (h : ResR o br (x :: y :: F) v H') : ∃ H'', ResR o br F v H'' ∧ ∀ w, Own W0 H' w → Own W0 H'' w := by
  obtain ⟨hv, h0, X, hX⟩ := h
  have hs : ∀ A : Heap, (A ++ F).Sublist (A ++ (x :: y :: F)) := fun A => List.Sublist.append_left ((List.sublist_cons_self _ _).trans (List.sublist_cons_self _ _)) A
  by_cases he : o.2 = 0
  · obtain ⟨RH, hR, hp⟩ := h0 he
    exact ⟨RH ++ F, ⟨hv, fun _ => ⟨RH, hR, .refl _⟩, RH, .refl _⟩, fun w hw => (hw.perm hp).sub (hs RH)⟩
  · exact ⟨X ++ F, ⟨hv, fun h => absurd h he, X, .refl _⟩, fun w hw => (hw.perm hX).sub (hs X)⟩
attribute [local irreducible] wordsL lineW presetOut ruleOut pinOut
theorem line_spec (hv : Vars W0) {p : Pol} {br : Nat} {RH : Heap} (h : RdrQ p br RH) (l : Lb) (hl : l.length ≤ 900000) :
    T Tryz.prog W0 41 #[.pointer (some ⟨br, 0, none⟩), S l] (RH ++ F) (ResR (lineW p (wordsL l)) br F) := by
  have hwl : (wordsL l).length ≤ l.length + 1 := by unfold wordsL; exact words_len l []
  have hwe : ∀ w ∈ wordsL l, w.length ≤ l.length := fun w hw => by unfold wordsL at hw; have := words_each l [] w hw; simpa using this
  refine T.intro (args := [_, _]) Tryz.func41 rfl Tryz.ntmps41 rfl ?_
  repeat' first | refine Y.st ?_ | (refine nw ?_; intro _) | refine Y.kn ?_ | fail
  refine G.ef rfl rfl rfl (Eff.callF (vs := [S l, .func (.func 78) #[] #[]]) rfl ((fields_spec l (by omega)).mono ?_))
  rintro v H' ⟨bk, rfl, rfl⟩
  cases hws : wordsL l with
  | nil =>
    have ho : lineW p [] = (p, 0) := by unfold lineW; rfl
    repeat' first | refine Y.st ?_ | (refine nw ?_; intro _) | refine Y.kn ?_ | fail
    refine GQ.heap (H' := RH ++ F) ?_ (fun w hw => hw.sub (List.sublist_cons_self _ _))
    exact GQ.done1 rfl rfl (by rw [ho]; exact ⟨rfl, fun _ => ⟨RH, h, .refl _⟩, RH, .refl _⟩)
  | cons w0 r =>
    rw [hws] at hwl hwe
    have hw0 := hwe w0 (by simp)
    have hlen : (w0 :: r).length = r.length + 1 := rfl
    have hc0 : ((strs (w0 :: r)).toArray : Array Value)[0 + 0 * 1]? = some (S w0) := by simp [strs]
    by_cases hc : w0.head? = some 35
    · have ho := line_note p w0 r hc
      repeat' first | refine Y.st ?_ | (refine nw ?_; intro _) | refine Y.kn ?_ | fail
      refine GQ.heap (H' := RH ++ F) ?_ (fun w hw => hw.sub (List.sublist_cons_self _ _))
      exact GQ.done1 rfl rfl (by rw [ho]; exact ⟨rfl, fun _ => ⟨RH, h, .refl _⟩, RH, .refl _⟩)
    · have hsp := lineW_split p w0 r hc
      repeat' first | refine Y.st ?_ | (refine nw ?_; intro _) | refine Y.kn ?_ | fail
      refine G.ef rfl rfl rfl (Eff.makeMap (fun mm => ?_))
      repeat' first | refine Y.st ?_ | (refine nw ?_; intro _) | refine Y.kn ?_ | fail
      refine G.ef rfl rfl rfl (Eff.insertM (key := S) (val := id) (a := kDefault) (v := fnV 80 br) rfl rfl rfl (MapIs.empty (fun a b h => S_inj a b h)) ⟨_, rfl⟩ (fun o1 h1 => ?_))
      repeat' first | refine Y.st ?_ | (refine nw ?_; intro _) | refine Y.kn ?_ | fail
      refine G.ef rfl rfl rfl (Eff.insertM (key := S) (val := id) (a := kAllow) (v := fnV 81 br) rfl rfl rfl h1 ⟨_, rfl⟩ (fun o2 h2 => ?_))
      repeat' first | refine Y.st ?_ | (refine nw ?_; intro _) | refine Y.kn ?_ | fail
      refine G.ef rfl rfl rfl (Eff.insertM (key := S) (val := id) (a := kDeny) (v := fnV 81 br) rfl rfl rfl h2 ⟨_, rfl⟩ (fun o3 h3 => ?_))
      repeat' first | refine Y.st ?_ | (refine nw ?_; intro _) | refine Y.kn ?_ | fail
      refine G.ef rfl rfl rfl (Eff.insertM (key := S) (val := id) (a := kPin) (v := fnV 82 br) rfl rfl rfl h3 ⟨_, rfl⟩ (fun o4 h4 => ?_))
      have hrl : putK (putK (putK (putK ([] : List (Lb × Value)) kDefault (fnV 80 br)) kAllow (fnV 81 br)) kDeny (fnV 81 br)) kPin (fnV 82 br) = readsL br := rfl
      rw [hrl] at h4
      repeat' first | refine Y.st ?_ | (refine nw ?_; intro _) | refine Y.kn ?_ | fail
      refine G.rd (Rd.look (key := S) (val := id) (a := w0) rfl rfl h4 ⟨w0, rfl⟩) rfl rfl ?_
      have q1 : ((mm, o4) :: (bk, .cells (strs (w0 :: r)).toArray 9 (0, 0)) :: (RH ++ F)).Perm (RH ++ ((mm, o4) :: (bk, .cells (strs (w0 :: r)).toArray 9 (0, 0)) :: F)) := by exact permC
      have hrow : SlS W0 ((mm, o4) :: (bk, .cells (strs (w0 :: r)).toArray 9 (0, 0)) :: F) (.slice (some ⟨bk, 0, none⟩) (w0 :: r).length (w0 :: r).length) (w0 :: r) :=
        ⟨_, _, rfl, Nat.le_refl _, .inr ⟨bk, 0, rfl, RO.cells (fun j u hj => by simpa using hj)⟩⟩
      have hwe' : ∀ w ∈ w0 :: r, w.length ≤ 1000000 := fun w hw => by have := hwe w hw; omega
      by_cases hd : w0 = kDefault
      · have : lookV id (readsL br) w0 .nilFunc = fnV 80 br := by rw [hd]; rfl
        rw [this]
        repeat' first | refine Y.st ?_ | (refine nw ?_; intro _) | refine Y.kn ?_ | fail
        refine G.rd (Rd.eqFN rfl rfl) rfl rfl ?_
        repeat' first | refine Y.st ?_ | (refine nw ?_; intro _) | refine Y.kn ?_ | fail
        refine G.ef rfl rfl rfl (Eff.callP (first := #[.pointer (some ⟨br, 0, none⟩)]) (captured := #[]) rfl rfl q1 ((preset_spec h (w0 :: r) _ hrow).mono ?_))
        intro v H' hR
        obtain ⟨H2, hR2, hsub⟩ := ResR.drop hR
        repeat' first | refine Y.st ?_ | (refine nw ?_; intro _) | refine Y.kn ?_ | fail
        refine GQ.heap ?_ hsub
        exact GQ.done1 rfl rfl (by rw [hsp, if_pos hd]; exact hR2)
      by_cases ha : w0 = kAllow
      · have : lookV id (readsL br) w0 .nilFunc = fnV 81 br := by rw [ha]; rfl
        rw [this]
        repeat' first | refine Y.st ?_ | (refine nw ?_; intro _) | refine Y.kn ?_ | fail
        refine G.rd (Rd.eqFN rfl rfl) rfl rfl ?_
        repeat' first | refine Y.st ?_ | (refine nw ?_; intro _) | refine Y.kn ?_ | fail
        refine G.ef rfl rfl rfl (Eff.callP (first := #[.pointer (some ⟨br, 0, none⟩)]) (captured := #[]) rfl rfl q1 ((rule_spec hv h (w0 :: r) _ hrow (by omega) hwe').mono ?_))
        intro v H' hR
        obtain ⟨H2, hR2, hsub⟩ := ResR.drop hR
        repeat' first | refine Y.st ?_ | (refine nw ?_; intro _) | refine Y.kn ?_ | fail
        refine GQ.heap ?_ hsub
        exact GQ.done1 rfl rfl (by rw [hsp, if_neg hd, if_pos (.inl ha)]; exact hR2)
      by_cases hn : w0 = kDeny
      · have : lookV id (readsL br) w0 .nilFunc = fnV 81 br := by rw [hn]; rfl
        rw [this]
        repeat' first | refine Y.st ?_ | (refine nw ?_; intro _) | refine Y.kn ?_ | fail
        refine G.rd (Rd.eqFN rfl rfl) rfl rfl ?_
        repeat' first | refine Y.st ?_ | (refine nw ?_; intro _) | refine Y.kn ?_ | fail
        refine G.ef rfl rfl rfl (Eff.callP (first := #[.pointer (some ⟨br, 0, none⟩)]) (captured := #[]) rfl rfl q1 ((rule_spec hv h (w0 :: r) _ hrow (by omega) hwe').mono ?_))
        intro v H' hR
        obtain ⟨H2, hR2, hsub⟩ := ResR.drop hR
        repeat' first | refine Y.st ?_ | (refine nw ?_; intro _) | refine Y.kn ?_ | fail
        refine GQ.heap ?_ hsub
        exact GQ.done1 rfl rfl (by rw [hsp, if_neg hd, if_pos (.inr hn)]; exact hR2)
      by_cases hp : w0 = kPin
      · have : lookV id (readsL br) w0 .nilFunc = fnV 82 br := by rw [hp]; rfl
        rw [this]
        repeat' first | refine Y.st ?_ | (refine nw ?_; intro _) | refine Y.kn ?_ | fail
        refine G.rd (Rd.eqFN rfl rfl) rfl rfl ?_
        repeat' first | refine Y.st ?_ | (refine nw ?_; intro _) | refine Y.kn ?_ | fail
        refine G.ef rfl rfl rfl (Eff.callP (first := #[.pointer (some ⟨br, 0, none⟩)]) (captured := #[]) rfl rfl q1 ((pinl_spec hv h (w0 :: r) _ hrow (by omega) hwe').mono ?_))
        intro v H' hR
        obtain ⟨H2, hR2, hsub⟩ := ResR.drop hR
        repeat' first | refine Y.st ?_ | (refine nw ?_; intro _) | refine Y.kn ?_ | fail
        refine GQ.heap ?_ hsub
        exact GQ.done1 rfl rfl (by rw [hsp, if_neg hd, if_neg (fun h => h.elim ha hn), if_pos hp]; exact hR2)
      have : lookV id (readsL br) w0 .nilFunc = .nilFunc := by
        simp only [lookV, readsL, getK, if_neg (Ne.symm hd), if_neg (Ne.symm ha), if_neg (Ne.symm hn), if_neg (Ne.symm hp)]
      rw [this]
      repeat' first | refine Y.st ?_ | (refine nw ?_; intro _) | refine Y.kn ?_ | fail
      refine G.rd (Rd.eqFNN rfl rfl) rfl rfl ?_
      repeat' first | refine Y.st ?_ | (refine nw ?_; intro _) | refine Y.kn ?_ | fail
      refine GQ.heap (H' := RH ++ F) ?_ (fun w hw => hw.sub ((List.sublist_cons_self _ _).trans (List.sublist_cons_self _ _)))
      exact GQ.done1 rfl rfl (by rw [hsp, if_neg hd, if_neg (fun h => h.elim ha hn), if_neg hp]; exact ResR.bad (by omega))
theorem fresh_spec : T Tryz.prog W0 37 #[] F (fun v H' => ∃ bc CH, v = .pointer (some ⟨bc, 0, none⟩) ∧ ChkQ [] [] bc CH ∧ H' = CH ++ F) := by
  refine T.intro (args := []) Tryz.func37 rfl Tryz.ntmps37 rfl ?_
  repeat' first | refine Y.st ?_ | (refine nw ?_; intro _) | refine Y.kn ?_ | fail
  refine G.ef rfl rfl rfl (Eff.callF rfl (new_spec.mono ?_))
  rintro v H' ⟨bt, TH, rfl, hT, rfl⟩
  repeat' first | refine Y.st ?_ | (refine nw ?_; intro _) | refine Y.kn ?_ | fail
  refine G.ef rfl rfl rfl (Eff.makeMap (fun mp => ?_))
  repeat' first | refine Y.st ?_ | (refine nw ?_; intro _) | refine Y.kn ?_ | fail
  refine G.rd (Rd.build (cells := #[.pointer (some ⟨bt, 0, none⟩), .map (some mp)]) rfl (by rfl)) rfl rfl ?_
  refine G.ef rfl rfl rfl (Eff.boxA rfl (fun bc => ?_))
  repeat' first | refine Y.st ?_ | (refine nw ?_; intro _) | refine Y.kn ?_ | (refine sp ?_ ?_ <;> intro _) | fail
  exact GQ.done1 rfl rfl ⟨bc, _, rfl, ⟨bt, mp, .map #[] 0, TH, rfl, hT, .empty plV_inj⟩, rfl⟩
abbrev polV (p : Pol) (rv pv : Value) : Value := .agg #[.bool p.allow, rv, pv]
/-- What Parse answers. -/
def ParseR (s : Lb) (F : Heap) : Value → Heap → Prop := fun v H' => ∃ rv pv Br Bp, v = .tuple #[polV (parseP s).1 rv pv, .int .i64 ((parseP s).2.1 : Int), .int .i64 (parseP s).2.2] ∧
  Buf 61 5 rv (parseP s).1.rules.length ((parseP s).1.rules.flatMap ruC) Br ∧ Buf 63 19 pv (parseP s).1.pins.length ((parseP s).1.pins.flatMap pnC) Bp ∧ H' = Br ++ (Bp ++ F)
theorem runL_take (s : Lb) (ls : List Lb) (hls : ls = splitB 10 s) {k : Nat} (hk : k < ls.length) {p : Pol} (h : runL polZ 0 (ls.take k) = (p, 0, 0)) :
    ((lineW p (wordsL ls[k])).2 = 0 → runL polZ 0 (ls.take (k + 1)) = ((lineW p (wordsL ls[k])).1, 0, 0)) ∧ ((lineW p (wordsL ls[k])).2 ≠ 0 → parseP s = (polZ, k + 1, (lineW p (wordsL ls[k])).2)) := by
  have e1 : (runL polZ 0 (ls.take k)).2.2 = 0 := by rw [h]
  have hl : (ls.take k).length = k := by rw [List.length_take]; omega
  constructor
  · intro h0
    rw [List.take_succ_eq_append_getElem hk, run_app_ok _ _ _ _ e1, h]
    simp only [runL, h0, if_true]
  · intro h0
    unfold parseP
    rw [← hls]
    conv => lhs; rw [← List.take_append_drop k ls]
    rw [run_app_ok _ _ _ _ e1, h, List.drop_eq_getElem_cons hk]
    simp only [runL, if_neg h0, hl]
    rw [Nat.zero_add]
theorem pparse_spec (hv : Vars W0) (s : Lb) (hl : s.length ≤ 900000) : T Tryz.prog W0 15 #[S s] F (ParseR s F) := by
  have hsl := splitB_length 10 s
  have hcl : s.count 10 ≤ s.length := List.count_le_length
  have hse := splitB_le 10 s
  refine T.intro (args := [_]) Tryz.func15 rfl Tryz.ntmps15 rfl ?_
  repeat' first | refine Y.st ?_ | (refine nw ?_; intro _) | refine Y.kn ?_ | fail
  rename_i b2
  refine G.ef rfl rfl rfl (Eff.callF rfl (fresh_spec.mono ?_))
  rintro v H' ⟨bc, CH, rfl, hC, rfl⟩
  repeat' first | refine Y.st ?_ | (refine nw ?_; intro _) | refine Y.kn ?_ | fail
  refine G.rd (Rd.build (cells := #[.pointer (some ⟨bc, 0, none⟩), .bool false, .slice none 0 0, .slice none 0 0]) rfl (by rfl)) rfl rfl ?_
  refine G.ef rfl rfl rfl (Eff.boxA rfl (fun br => ?_))
  repeat' first | refine Y.st ?_ | (refine nw ?_; intro _) | refine Y.kn ?_ | fail
  refine G.ef rfl rfl rfl (Eff.callF (vs := [S s, S [10]]) rfl ((split_spec s 10 (by omega)).mono ?_))
  rintro v H' ⟨bk, rfl, rfl⟩
  have hR0 : RdrQ polZ br ((br, .cells (rdC bc polZ (.slice none 0 0) (.slice none 0 0)) 75 (0, 0)) :: (CH ++ ([] ++ []))) := ⟨bc, _, _, CH, [], [], ⟨hC, .nil, .nil, Nat.zero_le _, Nat.zero_le _⟩, rfl⟩
  repeat' first | refine Y.st ?_ | (refine nw ?_; intro _) | refine Y.kn ?_ | fail
  refine GC.heap (H' := (bk, .cells (strs (splitB 10 s)).toArray 9 (0, 0)) :: ((br, .cells (rdC bc polZ (.slice none 0 0) (.slice none 0 0)) 75 (0, 0)) :: (CH ++ ((b2, .cells #[.bool false, .slice none 0 0, .slice none 0 0] 25 (0, 0)) :: F)))) ?_ (fun _ h => h)
  refine GC.loopE (ι := { q : Nat × Pol × Heap // q.1 ≤ (splitB 10 s).length ∧ RdrQ q.2.1 br q.2.2 ∧ runL polZ 0 ((splitB 10 s).take q.1) = (q.2.1, 0, 0) }) (fun i => [(15, .int .i64 (i.1.1 : Int))]) [(2, _), (5, _), (13, _), (14, _)]
    (fun q => q.1.2.2 ++ ((bk, .cells (strs (splitB 10 s)).toArray 9 (0, 0)) :: (b2, .cells #[.bool false, .slice none 0 0, .slice none 0 0] 25 (0, 0)) :: F)) (fun q => (splitB 10 s).length - q.1.1) ⟨(0, polZ, _), Nat.zero_le _, hR0, rfl⟩ ⟨rfl, rfl, rfl, rfl, rfl, trivial⟩ (fun w hw => hw.perm (by simp only [List.append_nil]; exact permC)) ?_
  rintro ⟨⟨k, p, RH⟩, hk, hR, hrun⟩
  dsimp only [List.cons_append, List.nil_append] at hk hR hrun ⊢
  by_cases hlt : k < (splitB 10 s).length
  · have hck : ((strs (splitB 10 s)).toArray : Array Value)[0 + k * 1]? = some (S (splitB 10 s)[k]) := by simp [strs, hlt]
    have hle := hse (splitB 10 s)[k] (List.getElem_mem hlt)
    obtain ⟨g1, g2⟩ := runL_take s _ rfl hlt hrun
    repeat' first | refine Y.st ?_ | (refine nw ?_; intro _) | refine Y.kn ?_ | fail
    refine G.ef rfl rfl rfl (Eff.callF rfl ((line_spec hv hR (splitB 10 s)[k] (by omega)).mono ?_))
    rintro v H' ⟨rfl, h0, X, hX⟩
    by_cases he : (lineW p (wordsL (splitB 10 s)[k])).2 = 0
    · obtain ⟨RH', hR', hp⟩ := h0 he
      refine G.heap ?_ (fun w hw => hw.perm hp)
      rw [he]
      repeat' first | refine Y.st ?_ | (refine nw ?_; intro _) | refine Y.kn ?_ | fail
      exact GQ.back ⟨(k + 1, _, RH'), by omega, hR', g1 he⟩ (by simp only; omega) ⟨rfl, rfl, rfl, rfl, rfl, trivial⟩ (fun _ h => h)
    · have hps := g2 he
      refine G.heap ?_ (fun w hw => hw.perm hX)
      repeat' first | refine Y.st ?_ | (refine nw ?_; intro _) | refine Y.kn ?_ | fail
      refine G.rd (Rd.build (cells := #[.bool false, .slice none 0 0, .slice none 0 0]) rfl (by rfl)) rfl rfl ?_
      repeat' first | refine Y.st ?_ | (refine nw ?_; intro _) | refine Y.kn ?_ | fail
      refine GQ.res3h (v := polV polZ (.slice none 0 0) (.slice none 0 0)) rfl (.aggA rfl rfl) (.tmp rfl) (.tmp rfl) F (fun w hw => hw.sub (((List.sublist_cons_self _ _).trans (List.sublist_cons_self _ _)).trans (List.sublist_append_right _ _))) ?_
      exact ⟨_, _, [], [], by rw [hps]; rfl, by rw [hps]; exact .nil, by rw [hps]; exact .nil, rfl⟩
  · obtain rfl : k = (splitB 10 s).length := by omega
    rw [List.take_length] at hrun
    have hps : parseP s = (p, 0, 0) := hrun
    obtain ⟨bc', rv, pv, CH', Br, Bp, ha, rfl⟩ := hR
    have hrv : rv.oneCell' = true := buf_one ha.rules
    have hpv : pv.oneCell' = true := buf_one ha.pins
    repeat' first | refine Y.st ?_ | (refine nw ?_; intro _) | refine Y.kn ?_ | fail
    refine G.rd (Rd.loadAggC (cs := [.bool p.allow, rv, pv]) rfl (cellsH (fun j u hj => by
      rcases j with _ | _ | _ | j
      · simpa using hj
      · simpa using hj
      · simpa using hj
      · simp at hj)) rfl) rfl rfl ?_
    refine G.ef rfl rfl rfl (Eff.storeAll (cs := [.bool false, .slice none 0 0, .slice none 0 0]) (vs := [.bool p.allow, rv, pv]) rfl rfl (fun u hu => by
      simp only [List.mem_cons, List.not_mem_nil, or_false] at hu
      rcases hu with rfl | rfl | rfl
      · rfl
      · exact hrv
      · exact hpv) rfl rfl ?_)
    repeat' first | refine Y.st ?_ | (refine nw ?_; intro _) | refine Y.kn ?_ | fail
    refine GQ.res3h (v := polV p rv pv) rfl (.agg rfl rfl) (.tmp rfl) (.tmp rfl) (Br ++ (Bp ++ F)) (fun w hw => ?_) ⟨rv, pv, Br, Bp, by rw [hps]; rfl, by rw [hps]; exact ha.rules, by rw [hps]; exact ha.pins, rfl⟩
    rw [← List.append_assoc]
    exact hw.sub (List.Sublist.append ((List.sublist_append_right CH' (Br ++ Bp)).cons _) ((List.sublist_cons_self _ _).trans (List.sublist_cons_self _ _)))
end
end Go.Pol

namespace Go.Pol
open Go.Own Go.Proofs Go.RowKit Go.Lib Go.Asc Go.Adr Go.Nam Go.Tri Go.Cid Go.Bld
attribute [local irreducible] GC GQ G Rd Eff T
set_option maxRecDepth 20000
set_option maxHeartbeats 4000000
theorem printC_le {c : Cd} (h : SizC c) : (printC c).length ≤ 100 := by
  obtain ⟨w1, w2⟩ := wf_i64 h.2
  have h2 := print_len h.1
  have h3 : (itoa (bitsP c)).length ≤ 20 := by unfold bitsP; split <;> exact itoa_le (by omega) (by omega)
  rw [printC]
  simp only [List.length_append, List.length_cons, List.length_nil]
  omega
theorem at_row {el n : Nat} {v : Value} {xs : List (List UInt8)} {B : Heap} (h : Buf el 1 v n (strs xs) B) (hn : xs ≠ []) : ∃ b cap, v = .slice (some ⟨b, 0, none⟩) xs.length cap ∧ xs.length ≤ cap ∧ ∀ W0 (X Y : Heap) w, Own W0 (X ++ (B ++ Y)) w → CellsAt w b 0 (strs xs) := by
  have hl := h.len
  rw [strs_length, Nat.mul_one] at hl
  subst hl
  rcases Buf.parts h with ⟨_, h0, _, _⟩ | ⟨b, cap, extra, rfl, rfl, hcap, hx, hmax⟩
  · exact absurd (List.eq_nil_of_length_eq_zero h0) hn
  · refine ⟨b, cap, rfl, hcap, fun W0 X Y w hw => ?_⟩
    have hh : Has (X ++ ([(b, Obj.cells (strs xs ++ extra).toArray el (0, 0))] ++ Y)) b (.cells (strs xs ++ extra).toArray el (0, 0)) := ⟨by simp⟩
    exact cellsH (h := hh) (fun j u hj => by
      have hlt := (List.getElem?_eq_some_iff.1 hj).1
      simp [List.getElem?_append_left hlt, hj]) w hw
section
variable {W0 : World} {F : Heap}
theorem verb_spec (b : Bool) : T Tryz.prog W0 45 #[.bool b] F (fun v H' => v = S (verbL b) ∧ H' = F) := by
  refine T.intro (args := [_]) Tryz.func45 rfl Tryz.ntmps45 rfl ?_
  cases b
  · repeat' first | refine Y.st ?_ | (refine nw ?_; intro _) | refine Y.kn ?_ | fail
    exact GQ.pure1 rfl (.tmp rfl) rfl
  · repeat' first | refine Y.st ?_ | (refine nw ?_; intro _) | refine Y.kn ?_ | fail
    exact GQ.pure1 rfl (.tmp rfl) rfl
instance {b : Bool} : PureF Tryz.prog W0 45 [.bool b] True (S (verbL b)) := ⟨fun _ _ => verb_spec b⟩
/-- A row of words, and where it lies. -/
def WsQ (ws : List Lb) (v : Value) (B : Heap) : Prop := Buf 9 1 v ws.length (strs ws) B
theorem WsQ.lit (b : Nat) (ws : List Lb) (h : ws.length ≤ 1000) : WsQ ws (.slice (some ⟨b, 0, none⟩) ws.length ws.length) [(b, .cells (strs ws).toArray 9 (0, 0))] := by
  have := Buf.row (el := 9) (size := 1) b ws.length ws.length (strs ws) [] (by rw [strs_length, Nat.mul_one]) (by rw [strs_length, Nat.mul_one]; rfl) (Nat.le_refl _) (by omega)
  rwa [List.append_nil] at this
theorem option_spec {ws : List Lb} {v : Value} {B : Heap} (h : WsQ ws v B) (key word : Lb) (c : Bool) (hl : ws.length ≤ 1000) :
    T Tryz.prog W0 47 #[v, S key, S word, .bool c] (B ++ F) (fun u H' => ∃ B', WsQ (ws ++ (if c then [key, word] else [])) u B' ∧ H' = B' ++ F) := by
  refine T.intro (args := [_, _, _, _]) Tryz.func47 rfl Tryz.ntmps47 rfl ?_
  cases c
  · repeat' first | refine Y.st ?_ | (refine nw ?_; intro _) | refine Y.kn ?_ | fail
    exact GQ.done1 rfl rfl ⟨B, by simpa using h, rfl⟩
  · repeat' first | refine Y.st ?_ | (refine nw ?_; intro _) | refine Y.kn ?_ | fail
    refine G.ef rfl rfl rfl (Eff.buildSlice (cells := (strs [key, word]).toArray) rfl (by kernel_rfl) (by omega) (fun bk => ?_))
    refine G.ef rfl rfl rfl (Eff.append (ys := strs [key, word]) (F := (bk, .cells (strs [key, word]).toArray 9 (0, 0)) :: F) (by omega) rfl h rfl (by exact permC) rfl (fun w hw => ?_) (fun u hu => ?_) (by omega) (by omega) (fun v' B' hB' => ?_))
    · exact .inr ⟨bk, 0, rfl, cellsH (fun j u hj => by rw [Nat.zero_add, List.getElem?_toArray]; exact hj) w hw⟩
    · simp only [strs, List.map_cons, List.map_nil, List.mem_cons, List.not_mem_nil, or_false] at hu
      rcases hu with rfl | rfl <;> rfl
    repeat' first | refine Y.st ?_ | (refine nw ?_; intro _) | refine Y.kn ?_ | fail
    refine GQ.heap (H' := B' ++ F) ?_ (fun w hw => hw.sub (List.Sublist.append_left (List.sublist_cons_self _ _) _))
    exact GQ.done1 rfl rfl ⟨B', by unfold WsQ; rw [if_pos rfl, List.length_append, show strs (ws ++ [key, word]) = strs ws ++ strs [key, word] by simp [strs]]; exact hB', rfl⟩
theorem say_spec [hv : Vars W0] {ws : List Lb} {v : Value} {B : Heap} (h : WsQ ws v B) (hn : ws ≠ []) (hl : ws.length ≤ 1000) {l : Lb} {bb : Nat} {BH : Heap} (hb : BldQ l bb BH) (hlen : l.length + (sayL ws).length ≤ 100000000) :
    T Tryz.prog W0 42 #[v, .pointer (some ⟨bb, 0, none⟩)] (BH ++ (B ++ F)) (fun _ H' => ∃ BH', BldQ (l ++ sayL ws) bb BH' ∧ H' = BH' ++ F) := by
  obtain ⟨b, cap, rfl, hcap, hat⟩ := at_row h hn
  have hs : (join ws [32]).length + 1 = (sayL ws).length := by simp [sayL]
  refine T.intro (args := [_, _]) Tryz.func42 rfl Tryz.ntmps42 rfl ?_
  repeat' first | refine Y.st ?_ | (refine nw ?_; intro _) | refine Y.kn ?_ | fail
  refine G.ef rfl rfl rfl (Eff.callF rfl ((join_spec ws [32] b cap hn hcap (by omega) (by omega) (fun w hw => hat W0 BH F w hw)).mono ?_))
  rintro v H' ⟨rfl, rfl⟩
  repeat' first | refine Y.st ?_ | (refine nw ?_; intro _) | refine Y.kn ?_ | fail
  refine G.ef rfl rfl rfl (Eff.callF rfl ((writeString_spec hb (sayL ws) (by omega)).mono ?_))
  rintro v H' ⟨H2, hb2, rfl⟩
  repeat' first | refine Y.st ?_ | (refine nw ?_; intro _) | refine Y.kn ?_ | fail
  refine GQ.heap (H' := H2 ++ F) ?_ (fun w hw => hw.sub (List.Sublist.append_left (List.sublist_append_right _ _) _))
  exact GQ.done0n rfl ⟨H2, hb2, rfl⟩
end
end Go.Pol

namespace Go.Pol
open Go.Own Go.Proofs Go.RowKit Go.Lib Go.Asc Go.Adr Go.Nam Go.Tri Go.Cid Go.Bld
attribute [local irreducible] GC GQ G Rd Eff T
set_option maxRecDepth 20000
set_option maxHeartbeats 4000000
theorem flat_get_mem {α : Type} (f : α → List Value) (m : Nat) : ∀ (l : List α) (_ : ∀ a ∈ l, (f a).length = m) (k j : Nat), j < m → (l.flatMap f)[k * m + j]? = (l[k]?).bind fun a => (f a)[j]?
  | [], _, k, j, _ => by simp
  | a :: l, hf, 0, j, hj => by
    simp only [List.flatMap_cons, Nat.zero_mul, Nat.zero_add, List.getElem?_cons_zero, Option.bind_some]
    exact List.getElem?_append_left (by rw [hf a (by simp)]; exact hj)
  | a :: l, hf, k + 1, j, hj => by
    simp only [List.flatMap_cons, List.getElem?_cons_succ]
    rw [List.getElem?_append_right (by rw [hf a (by simp), Nat.add_mul]; omega), hf a (by simp), ← flat_get_mem f m l (fun x hx => hf x (List.mem_cons_of_mem _ hx)) k j hj]
    congr 1
    rw [Nat.add_mul]; omega
theorem flat_len_mem {α : Type} (f : α → List Value) (m : Nat) : ∀ (l : List α) (_ : ∀ a ∈ l, (f a).length = m), (l.flatMap f).length = l.length * m
  | [], _ => by simp
  | a :: l, hf => by simp only [List.flatMap_cons, List.length_append, hf a (by simp), flat_len_mem f m l (fun x hx => hf x (List.mem_cons_of_mem _ hx)), List.length_cons, Nat.add_mul]; omega
def zeroP : Pn := ⟨[], zeroC, 0⟩
/-- Where pins lie. -/
def PinsAt (W0 : World) (F : Heap) (v : Value) (ps : List Pn) : Prop := ∃ p c, v = .slice p ps.length c ∧ ps.length ≤ c ∧ Go.Tri.Lies W0 F p (ps.flatMap pnC)
theorem pins_get {W0 : World} {H : Heap} {p : Option Addr} {ps : List Pn} (h16 : ∀ x ∈ ps, SizP x) (h : Go.Tri.Lies W0 H p (ps.flatMap pnC)) {k : Nat} (hk : k < ps.length) : ∃ b o, p = some ⟨b, o, none⟩ ∧ ∀ m, m < ps.length → ∀ w, Own W0 H w → CellsAt w b (o + m * 19) (pnC (ps.getD m zeroP)) := by
  have hl : ∀ x ∈ ps, (pnC x).length = 19 := fun x hx => pnC_len (h16 x hx).1.1
  rcases h with h0 | ⟨b, o, h1, h2⟩
  · have := congrArg List.length h0; rw [flat_len_mem pnC 19 ps hl] at this; simp only [List.length_nil] at this; omega
  · refine ⟨b, o, h1, fun m hm w hw j u hj => ?_⟩
    have hmem : ps.getD m zeroP ∈ ps := by rw [List.getD_eq_getElem?_getD, List.getElem?_eq_getElem hm]; exact List.getElem_mem hm
    have hj19 : j < 19 := by have := (List.getElem?_eq_some_iff.1 hj).1; rw [hl _ hmem] at this; exact this
    rw [Nat.add_assoc]
    refine h2.here hw (m * 19 + j) u ?_
    rw [flat_get_mem pnC 19 ps hl m j hj19, List.getElem?_eq_getElem hm]
    rw [List.getD_eq_getElem?_getD, List.getElem?_eq_getElem hm] at hj
    exact hj
theorem getD_siz {ps : List Pn} (h : ∀ x ∈ ps, SizP x) {k : Nat} (hk : k < ps.length) : SizP (ps.getD k zeroP) := h _ (by rw [List.getD_eq_getElem?_getD, List.getElem?_eq_getElem hk]; exact List.getElem_mem hk)
theorem take_flat {α : Type} (f : α → Lb) (l : List α) (d : α) {k : Nat} (hk : k < l.length) : (l.take (k + 1)).flatMap f = (l.take k).flatMap f ++ f (l.getD k d) := by
  rw [List.take_succ_eq_append_getElem hk, List.flatMap_append, List.getD_eq_getElem?_getD, List.getElem?_eq_getElem hk]
  simp
theorem take_flat_le {α : Type} (f : α → Lb) (l : List α) (k : Nat) : ((l.take k).flatMap f).length ≤ (l.flatMap f).length := by
  conv => rhs; rw [← List.take_append_drop k l]
  rw [List.flatMap_append, List.length_append]; omega
theorem ruleWs_cut (r : Ru) : ruleWs r = (([verbL r.allow, itoa r.prio, r.pat] ++ (if (!decide (r.port = 0)) then [kPort, itoa r.port] else [])) ++ (if (!decide (r.alpn = [])) then [kAlpn, r.alpn] else [])) := by
  unfold ruleWs
  by_cases h1 : r.port = 0 <;> by_cases h2 : r.alpn = [] <;> simp [h1, h2]
theorem pinWs_cut (x : Pn) : pinWs x = ([kPin, x.name, printC x.cidr] ++ (if (!decide (x.till = 0)) then [kUntil, itoa x.till] else [])) := by
  unfold pinWs
  by_cases h1 : x.till = 0 <;> simp [h1]
theorem ruleWs_few (r : Ru) : (ruleWs r).length ≤ 7 := by unfold ruleWs; split <;> split <;> simp
theorem pinWs_few (r : Pn) : (pinWs r).length ≤ 5 := by unfold pinWs; split <;> simp
section
variable {W0 : World} {F : Heap}
attribute [local irreducible] ruleWs pinWs sayL Lit.wf printC
theorem print_spec (hv : Vars W0) (p : Pol) (rv pv : Value) (hr : RulesAt W0 F rv p.rules) (hp : PinsAt W0 F pv p.pins) (sr : ∀ r ∈ p.rules, Sized r) (sp : ∀ x ∈ p.pins, SizP x) (hlen : (printP p).length ≤ 900000) (hrl : p.rules.length ≤ 1000000) (hpl : p.pins.length ≤ 1000000) :
    T Tryz.prog W0 16 #[polV p rv pv] F (fun v H' => v = S (printP p) ∧ H' = F) := by
  obtain ⟨pa, ca, rfl, hca, hat⟩ := hr
  obtain ⟨pb, cb, rfl, hcb, hbt⟩ := hp
  have hl1 : (printP p).length = (sayL [kDefault, verbL p.allow]).length + ((p.rules.flatMap (fun r => sayL (ruleWs r))).length + (p.pins.flatMap (fun x => sayL (pinWs x))).length) := by simp only [printP, List.length_append]
  refine T.intro (args := [_]) Tryz.func16 rfl Tryz.ntmps16 rfl ?_
  repeat' first | refine Y.st ?_ | (refine nw ?_; intro _) | refine Y.kn ?_ | fail
  rename_i b1 bb
  refine G.ef rfl rfl rfl (Eff.buildSlice (cells := (strs [kDefault, verbL p.allow]).toArray) rfl (by kernel_rfl) (by omega) (fun bk => ?_))
  have hb0 : BldQ [] bb [(bb, .cells #[.pointer none, .slice none 0 0] 82 (0, 0))] := ⟨none, _, [], rfl, .inl rfl, .nil⟩
  refine G.ef rfl rfl rfl (Eff.callP (first := #[]) (captured := #[.pointer (some ⟨bb, 0, none⟩)]) rfl rfl (by exact permC) ((say_spec (F := (b1, .cells #[.bool p.allow, .slice pa p.rules.length ca, .slice pb p.pins.length cb] 25 (0, 0)) :: F) (WsQ.lit bk [kDefault, verbL p.allow] (by simp)) (by simp) (by simp) hb0 (by simp only [List.length_nil]; omega)).mono ?_))
  rintro v H' ⟨BH0, hb1, rfl⟩
  rw [List.nil_append] at hb1
  repeat' first | refine Y.st ?_ | (refine nw ?_; intro _) | refine Y.kn ?_ | fail
  refine GC.loopE (ι := { q : Nat × Heap // q.1 ≤ p.rules.length ∧ BldQ (sayL [kDefault, verbL p.allow] ++ (p.rules.take q.1).flatMap (fun r => sayL (ruleWs r))) bb q.2 }) (fun i => [(20, .int .i64 (i.1.1 : Int))]) [(1, _), (3, _), (4, _), (18, _), (19, _)]
    (fun q => q.1.2 ++ ((b1, .cells #[.bool p.allow, .slice pa p.rules.length ca, .slice pb p.pins.length cb] 25 (0, 0)) :: F)) (fun q => p.rules.length - q.1.1) ⟨(0, BH0), Nat.zero_le _, by simpa using hb1⟩ ⟨rfl, rfl, rfl, rfl, rfl, rfl, trivial⟩ (fun _ h => h) ?_
  rintro ⟨⟨k, BH⟩, hk, hb⟩
  dsimp only [List.cons_append, List.nil_append] at hk hb ⊢
  by_cases hlt : k < p.rules.length
  · obtain ⟨b, o, rfl, hc1⟩ := lies_get ((hat.cons (b1, .cells #[.bool p.allow, .slice pa p.rules.length ca, .slice pb p.pins.length cb] 25 (0, 0))).app BH) hlt
    have h1 := hc1 k hlt
    have hS := sr _ (getD_mem hlt)
    have htk := take_flat (fun r => sayL (ruleWs r)) p.rules zeroR hlt
    have hle := take_flat_le (fun r => sayL (ruleWs r)) p.rules (k + 1)
    generalize hrk : p.rules.getD k zeroR = r at h1 hS htk
    obtain ⟨hq1, hq2⟩ := wf_i64 hS.1
    obtain ⟨hq3, hq4⟩ := wf_i64 hS.2.1
    repeat' first | refine Y.st ?_ | (refine nw ?_; intro _) | refine Y.kn ?_ | fail
    rename_i b6
    refine GC.drawn [(0, .read), (1, .read), (3, .read), (4, .read), (6, .read), (7, .read), (2, .eff), (5, .eff), (8, .tail), (9, .tail)] ([(b6, .cells (ruA r) 61 (0, 0))]) (by kernel_rfl) (by kernel_rfl) rfl ?_
    repeat' first | refine Y.st ?_ | (refine nw ?_; intro _) | refine Y.kn ?_ | fail
    refine G.ef rfl rfl rfl (Eff.buildSlice (cells := (strs [verbL r.allow, itoa r.prio, r.pat]).toArray) rfl (by kernel_rfl) (by omega) (fun b7 => ?_))
    repeat' first | refine Y.st ?_ | (refine nw ?_; intro _) | refine Y.kn ?_ | fail
    refine GC.drawn [(0, .read), (1, .read), (2, .read), (4, .read), (5, .read), (6, .read), (3, .eff), (7, .tail), (8, .tail)] ([(b6, .cells (ruA r) 61 (0, 0))]) (by kernel_rfl) (by kernel_rfl) rfl ?_
    repeat' first | refine Y.st ?_ | (refine nw ?_; intro _) | refine Y.kn ?_ | fail
    refine G.ef rfl rfl rfl (Eff.callP (first := #[]) (captured := #[]) rfl rfl (by exact permC) ((option_spec (F := (b6, .cells (ruC r).toArray 61 (0, 0)) :: (BH ++ ((b1, .cells #[.bool p.allow, .slice (some ⟨b, o, none⟩) p.rules.length ca, .slice pb p.pins.length cb] 25 (0, 0)) :: F))) (WsQ.lit b7 [verbL r.allow, itoa r.prio, r.pat] (by simp)) kPort (itoa r.port) (!decide (r.port = 0)) (by simp)).mono ?_))
    rintro v H' ⟨B1, hw1, rfl⟩
    repeat' first | refine Y.st ?_ | (refine nw ?_; intro _) | refine Y.kn ?_ | fail
    refine G.ef rfl rfl rfl (Eff.callP (first := #[]) (captured := #[]) rfl rfl (.refl _) ((option_spec hw1 kAlpn r.alpn (!decide (r.alpn = [])) (by split <;> simp)).mono ?_))
    rintro v H' ⟨B2, hw2, rfl⟩
    rw [← ruleWs_cut r] at hw2
    repeat' first | refine Y.st ?_ | (refine nw ?_; intro _) | refine Y.kn ?_ | fail
    refine G.ef rfl rfl rfl (Eff.callP (first := #[]) (captured := #[.pointer (some ⟨bb, 0, none⟩)]) rfl rfl (by exact permC) ((say_spec (F := (b6, .cells (ruC r).toArray 61 (0, 0)) :: (b1, .cells #[.bool p.allow, .slice (some ⟨b, o, none⟩) p.rules.length ca, .slice pb p.pins.length cb] 25 (0, 0)) :: F) hw2 (by rw [ruleWs_cut]; simp) (by have := ruleWs_few r; omega) hb ?_).mono ?_))
    · rw [List.length_append]
      rw [htk, List.length_append] at hle
      omega
    rintro v H' ⟨BH', hb', rfl⟩
    repeat' first | refine Y.st ?_ | (refine nw ?_; intro _) | refine Y.kn ?_ | fail
    exact GQ.back ⟨(k + 1, BH'), by omega, by rw [htk, ← List.append_assoc]; exact hb'⟩ (by simp only; omega) ⟨rfl, rfl, rfl, rfl, rfl, rfl, trivial⟩ (fun w hw => hw.sub (List.Sublist.append_left (List.sublist_cons_self _ _) _))
  · obtain rfl : k = p.rules.length := by omega
    rw [List.take_length] at hb
    repeat' first | refine Y.st ?_ | (refine nw ?_; intro _) | refine Y.kn ?_ | fail
    refine GC.loopE (ι := { q : Nat × Heap // q.1 ≤ p.pins.length ∧ BldQ ((sayL [kDefault, verbL p.allow] ++ p.rules.flatMap (fun r => sayL (ruleWs r))) ++ (p.pins.take q.1).flatMap (fun x => sayL (pinWs x))) bb q.2 }) (fun i => [(54, .int .i64 (i.1.1 : Int))]) [(3, _), (4, _), (52, _), (53, _)]
      (fun q => q.1.2 ++ ((b1, .cells #[.bool p.allow, .slice pa p.rules.length ca, .slice pb p.pins.length cb] 25 (0, 0)) :: F)) (fun q => p.pins.length - q.1.1) ⟨(0, BH), Nat.zero_le _, by simpa using hb⟩ ⟨rfl, rfl, rfl, rfl, rfl, trivial⟩ (fun _ h => h) ?_
    rintro ⟨⟨k, BP⟩, hk2, hb2⟩
    dsimp only [List.cons_append, List.nil_append] at hk2 hb2 ⊢
    by_cases hlt : k < p.pins.length
    · obtain ⟨b, o, rfl, hc1⟩ := pins_get sp ((hbt.cons (b1, .cells #[.bool p.allow, .slice pa p.rules.length ca, .slice pb p.pins.length cb] 25 (0, 0))).app BP) hlt
      have h1 := hc1 k hlt
      have hS := getD_siz sp hlt
      have htk := take_flat (fun x => sayL (pinWs x)) p.pins zeroP hlt
      have hle := take_flat_le (fun x => sayL (pinWs x)) p.pins (k + 1)
      generalize hxk : p.pins.getD k zeroP = x at h1 hS htk
      have ha := hS.1.1
      have hpc := pnC_len ha
      obtain ⟨hq1, hq2⟩ := wf_i64 hS.2.1
      have hSc : SizC ⟨x.cidr.addr, x.cidr.bits⟩ := hS.1
      repeat' first | refine Y.st ?_ | (refine nw ?_; intro _) | refine Y.kn ?_ | fail
      refine G.rd (Rd.loadAggC rfl h1 hpc) rfl rfl ?_
      refine G.ef rfl rfl rfl (Eff.allocA (cs := pnC zeroP) (fun b9 => ?_))
      refine G.ef rfl rfl rfl (Eff.storeAll (cs := pnC zeroP) (vs := pnC x) rfl rfl (pnC_one _) (by rw [hpc]; rfl) hpc ?_)
      repeat' first | refine Y.st ?_ | (refine nw ?_; intro _) | refine Y.kn ?_ | fail
      have hne : pinWs x ≠ [] := by rw [pinWs_cut]; simp
      have hroom : (sayL [kDefault, verbL p.allow] ++ p.rules.flatMap (fun r => sayL (ruleWs r)) ++ (p.pins.take k).flatMap (fun x => sayL (pinWs x))).length + (sayL (pinWs x)).length ≤ 100000000 := by
        rw [List.length_append, List.length_append]
        rw [htk, List.length_append] at hle
        omega
      have keepS : ∀ (b7 : Nat) (o7 : Obj) w, Own W0 ((b7, o7) :: (b9, Obj.cells (pnC x).toArray 63 (0, 0)) :: (BP ++ ((b1, .cells #[.bool p.allow, .slice pa p.rules.length ca, .slice (some ⟨b, o, none⟩) p.pins.length cb] 25 (0, 0)) :: F))) w → Own W0 [(b9, Obj.cells (pnC x).toArray 63 (0, 0))] w :=
        fun _ _ w hw => hw.sub ((List.Sublist.cons_cons _ (List.nil_sublist _)).trans (List.sublist_cons_self _ _))
      have keep0 : ∀ w, Own W0 ((b9, Obj.cells (pnC x).toArray 63 (0, 0)) :: (BP ++ ((b1, .cells #[.bool p.allow, .slice pa p.rules.length ca, .slice (some ⟨b, o, none⟩) p.pins.length cb] 25 (0, 0)) :: F))) w → Own W0 [(b9, Obj.cells (pnC x).toArray 63 (0, 0))] w :=
        fun w hw => hw.sub (List.Sublist.cons_cons _ (List.nil_sublist _))
      refine GC.any [14] [(b9, Obj.cells (pnC x).toArray 63 (0, 0))] 15 rfl (by kernel_rfl) ?_
      refine GA.read 0 rfl (by kernel_rfl) (by kernel_rfl) (keep0) (Rd.move rfl) rfl rfl ?_
      refine GA.read 1 rfl (by kernel_rfl) (by kernel_rfl) (keep0) (Rd.fieldAddr rfl) rfl rfl ?_
      refine GA.read 2 rfl (by kernel_rfl) (by kernel_rfl) (keep0) (Rd.load rfl (cellH rfl)) rfl rfl ?_
      refine GA.read 3 rfl (by kernel_rfl) (by kernel_rfl) (keep0) (Rd.fieldAddr rfl) rfl rfl ?_
      refine GA.read 4 rfl (by kernel_rfl) (by kernel_rfl) (keep0) (Rd.pnCidr rfl rfl ha) rfl rfl ?_
      refine GA.read 7 rfl (by kernel_rfl) (by kernel_rfl) (keep0) (Rd.fieldAddr rfl) rfl rfl ?_
      refine GA.read 8 rfl (by kernel_rfl) (by kernel_rfl) (keep0) (Rd.pnTill rfl rfl ha) rfl rfl ?_
      refine GA.read 10 rfl (by kernel_rfl) (by kernel_rfl) (keep0) (Rd.fieldAddr rfl) rfl rfl ?_
      refine GA.read 11 rfl (by kernel_rfl) (by kernel_rfl) (keep0) (Rd.pnTill rfl rfl ha) rfl rfl ?_
      refine GA.read 12 rfl (by kernel_rfl) (by kernel_rfl) (keep0) (Rd.neq rfl rfl) rfl rfl ?_
      refine GA.one 5 (by kernel_rfl) rfl rfl rfl (Eff.callPure rfl hSc ⟨fun _ => keep0, ?_⟩) 
      refine GA.two 6 9 (by kernel_rfl) rfl rfl rfl rfl rfl rfl (Eff.buildSlice (cells := (strs [kPin, x.name, printC x.cidr]).toArray) rfl (by kernel_rfl) (by omega) (fun b7 => ⟨fun _ => keepS _ _, ?_⟩)) (Eff.callPure rfl (by exact ⟨hq1, hq2⟩) ⟨fun _ => keep0, ?_⟩)
      · refine GA.toG [(9, .eff), (13, .eff), (14, .tail)] (by kernel_rfl) rfl ?_
        refine G.eeP rfl rfl rfl (Eff.callPure rfl (by exact ⟨hq1, hq2⟩) ⟨keepS _ _, ?_⟩)
        refine G.eeP rfl rfl rfl (Eff.callP (first := #[]) (captured := #[]) rfl rfl (by exact permC) ((option_spec (F := (b9, .cells (pnC x).toArray 63 (0, 0)) :: (BP ++ ((b1, .cells #[.bool p.allow, .slice pa p.rules.length ca, .slice (some ⟨b, o, none⟩) p.pins.length cb] 25 (0, 0)) :: F))) (WsQ.lit b7 [kPin, x.name, printC x.cidr] (by simp)) kUntil (itoa x.till) (!decide (x.till = 0)) (by simp)).mono ?_))
        rintro v H' ⟨B2, hw2, rfl⟩
        refine ⟨fun w hw => hw.sub (List.Sublist.trans (List.Sublist.cons_cons _ (List.nil_sublist _)) (List.sublist_append_right _ _)), ?_⟩
        have hw2' : WsQ (pinWs x) v B2 := by rw [pinWs_cut x]; exact hw2
        repeat' first | refine Y.st ?_ | (refine nw ?_; intro _) | refine Y.kn ?_ | fail
        refine G.ef rfl rfl rfl (Eff.callP (first := #[]) (captured := #[.pointer (some ⟨bb, 0, none⟩)]) rfl rfl (by exact permC) ((say_spec (F := (b9, .cells (pnC x).toArray 63 (0, 0)) :: (b1, .cells #[.bool p.allow, .slice pa p.rules.length ca, .slice (some ⟨b, o, none⟩) p.pins.length cb] 25 (0, 0)) :: F) hw2' hne (by have := pinWs_few x; omega) hb2 hroom).mono ?_))
        rintro v H' ⟨BH', hb', rfl⟩
        repeat' first | refine Y.st ?_ | (refine nw ?_; intro _) | refine Y.kn ?_ | fail
        exact GQ.back ⟨(k + 1, BH'), by omega, by rw [htk, ← List.append_assoc]; exact hb'⟩ (by simp only; omega) ⟨rfl, rfl, rfl, rfl, rfl, trivial⟩ (fun w hw => hw.sub (List.Sublist.append_left (List.sublist_cons_self _ _) _))
      · refine GA.toG [(6, .eff), (13, .eff), (14, .tail)] (by kernel_rfl) rfl ?_
        refine G.eeP rfl rfl rfl (Eff.buildSlice (cells := (strs [kPin, x.name, printC x.cidr]).toArray) rfl (by kernel_rfl) (by omega) (fun b7 => ⟨keepS _ _, ?_⟩))
        refine G.eeP rfl rfl rfl (Eff.callP (first := #[]) (captured := #[]) rfl rfl (by exact permC) ((option_spec (F := (b9, .cells (pnC x).toArray 63 (0, 0)) :: (BP ++ ((b1, .cells #[.bool p.allow, .slice pa p.rules.length ca, .slice (some ⟨b, o, none⟩) p.pins.length cb] 25 (0, 0)) :: F))) (WsQ.lit b7 [kPin, x.name, printC x.cidr] (by simp)) kUntil (itoa x.till) (!decide (x.till = 0)) (by simp)).mono ?_))
        rintro v H' ⟨B2, hw2, rfl⟩
        refine ⟨fun w hw => hw.sub (List.Sublist.trans (List.Sublist.cons_cons _ (List.nil_sublist _)) (List.sublist_append_right _ _)), ?_⟩
        have hw2' : WsQ (pinWs x) v B2 := by rw [pinWs_cut x]; exact hw2
        repeat' first | refine Y.st ?_ | (refine nw ?_; intro _) | refine Y.kn ?_ | fail
        refine G.ef rfl rfl rfl (Eff.callP (first := #[]) (captured := #[.pointer (some ⟨bb, 0, none⟩)]) rfl rfl (by exact permC) ((say_spec (F := (b9, .cells (pnC x).toArray 63 (0, 0)) :: (b1, .cells #[.bool p.allow, .slice pa p.rules.length ca, .slice (some ⟨b, o, none⟩) p.pins.length cb] 25 (0, 0)) :: F) hw2' hne (by have := pinWs_few x; omega) hb2 hroom).mono ?_))
        rintro v H' ⟨BH', hb', rfl⟩
        repeat' first | refine Y.st ?_ | (refine nw ?_; intro _) | refine Y.kn ?_ | fail
        exact GQ.back ⟨(k + 1, BH'), by omega, by rw [htk, ← List.append_assoc]; exact hb'⟩ (by simp only; omega) ⟨rfl, rfl, rfl, rfl, rfl, trivial⟩ (fun w hw => hw.sub (List.Sublist.append_left (List.sublist_cons_self _ _) _))
    · obtain rfl : k = p.pins.length := by omega
      rw [List.take_length] at hb2
      have e1 : ((sayL [kDefault, verbL p.allow] ++ p.rules.flatMap (fun r => sayL (ruleWs r))) ++ p.pins.flatMap (fun x => sayL (pinWs x))) = printP p := by simp only [printP, List.append_assoc]
      rw [e1] at hb2
      repeat' first | refine Y.st ?_ | (refine nw ?_; intro _) | refine Y.kn ?_ | fail
      refine G.ef rfl rfl rfl (Eff.callF rfl ((string_spec hb2 (by rw [← e1]; unfold sayL; simp) (by omega)).mono ?_))
      rintro v H' ⟨rfl, rfl⟩
      repeat' first | refine Y.st ?_ | (refine nw ?_; intro _) | refine Y.kn ?_ | fail
      exact GQ.pure1 rfl (.tmp rfl) rfl
end
end Go.Pol

namespace Go.Pol
open Go.Own Go.Proofs Go.RowKit Go.Lib Go.Asc Go.Adr Go.Nam Go.Tri Go.Cid Go.Bld
attribute [local irreducible] GC GQ G Rd Eff T
set_option maxRecDepth 20000
set_option maxHeartbeats 4000000
theorem drop_getD {α : Type} (l : List α) (d : α) {k : Nat} (hk : k < l.length) : l.drop k = l.getD k d :: l.drop (k + 1) := by
  rw [List.getD_eq_getElem?_getD, List.getElem?_eq_getElem hk]
  exact (List.drop_eq_getElem_cons hk)
theorem take_getD {α : Type} (l : List α) (d : α) {k : Nat} (hk : k < l.length) : l.take (k + 1) = l.take k ++ [l.getD k d] := by
  rw [List.take_succ_eq_append_getElem hk, List.getD_eq_getElem?_getD, List.getElem?_eq_getElem hk]; rfl
theorem rulesErr_step {l : List Ru} {k : Nat} (hk : k < l.length) (h : rulesErr [] l = rulesErr (l.take k) (l.drop k)) :
    ((addL (l.take k) (l.getD k zeroR)).2 = 0 → rulesErr [] l = rulesErr (l.take (k + 1)) (l.drop (k + 1))) ∧ ((addL (l.take k) (l.getD k zeroR)).2 ≠ 0 → rulesErr [] l = (addL (l.take k) (l.getD k zeroR)).2) := by
  rw [drop_getD l zeroR hk] at h
  simp only [rulesErr] at h
  constructor
  · intro h0; rw [h, if_pos h0, take_getD l zeroR hk]
  · intro h0; rw [h, if_neg h0]
theorem pinsErr_step {l : List Pn} {k : Nat} (hk : k < l.length) (h : pinsErr [] l = pinsErr (l.take k) (l.drop k)) :
    (pinErr (l.take k) (l.getD k zeroP) = 0 → pinsErr [] l = pinsErr (l.take (k + 1)) (l.drop (k + 1))) ∧ (pinErr (l.take k) (l.getD k zeroP) ≠ 0 → pinsErr [] l = pinErr (l.take k) (l.getD k zeroP)) := by
  rw [drop_getD l zeroP hk] at h
  simp only [pinsErr] at h
  constructor
  · intro h0; rw [h, if_pos h0, take_getD l zeroP hk]
  · intro h0; rw [h, if_neg h0]
section
variable {W0 : World} {F : Heap}
attribute [local irreducible] Lit.wf addL pinErr rulesErr pinsErr
theorem pright_spec (hv : Vars W0) (p : Pol) (rv pv : Value) (hr : RulesAt W0 F rv p.rules) (hp : PinsAt W0 F pv p.pins) (sr : ∀ r ∈ p.rules, Sized r ∧ r.pat.length ≤ 1000000) (sp : ∀ x ∈ p.pins, SizP x) (sn : ∀ x ∈ p.pins, x.name.length ≤ 1000000)
    (hrl : p.rules.length ≤ 1000000) (hpl : p.pins.length ≤ 1000000) : T Tryz.prog W0 14 #[polV p rv pv] F (fun v H' => v = .int .i64 (rightP p) ∧ H' = F) := by
  obtain ⟨pa, ca, rfl, hca, hat⟩ := hr
  obtain ⟨pb, cb, rfl, hcb, hbt⟩ := hp
  refine T.intro (args := [_]) Tryz.func14 rfl Tryz.ntmps14 rfl ?_
  repeat' first | refine Y.st ?_ | (refine nw ?_; intro _) | refine Y.kn ?_ | fail
  rename_i b1
  refine G.ef rfl rfl rfl (Eff.callF rfl (fresh_spec.mono ?_))
  rintro v H' ⟨bc, CH0, rfl, hC0, rfl⟩
  repeat' first | refine Y.st ?_ | (refine nw ?_; intro _) | refine Y.kn ?_ | fail
  refine GC.loopE (ι := { q : Nat × Heap // q.1 ≤ p.rules.length ∧ ChkQ (p.rules.take q.1) [] bc q.2 ∧ rulesErr [] p.rules = rulesErr (p.rules.take q.1) (p.rules.drop q.1) }) (fun i => [(14, .int .i64 (i.1.1 : Int))]) [(1, _), (3, _), (12, _), (13, _)]
    (fun q => q.1.2 ++ ((b1, .cells #[.bool p.allow, .slice pa p.rules.length ca, .slice pb p.pins.length cb] 25 (0, 0)) :: F)) (fun q => p.rules.length - q.1.1) ⟨(0, CH0), Nat.zero_le _, hC0, rfl⟩ ⟨rfl, rfl, rfl, rfl, rfl, trivial⟩ (fun _ h => h) ?_
  rintro ⟨⟨k, CH⟩, hk, hC, hE⟩
  dsimp only [List.cons_append, List.nil_append] at hk hC hE ⊢
  by_cases hlt : k < p.rules.length
  · obtain ⟨b, o, rfl, hc1⟩ := lies_get ((hat.cons (b1, .cells #[.bool p.allow, .slice pa p.rules.length ca, .slice pb p.pins.length cb] 25 (0, 0))).app CH) hlt
    have h1 := hc1 k hlt
    have hS := sr _ (getD_mem hlt)
    have hst := rulesErr_step hlt hE
    have htk := take_getD p.rules zeroR hlt
    generalize hrk : p.rules.getD k zeroR = r at h1 hS hst htk
    obtain ⟨bt, mp, om, TH, rfl, hT, hM⟩ := hC
    simp only [List.cons_append] at h1 ⊢
    repeat' first | refine Y.st ?_ | (refine nw ?_; intro _) | refine Y.kn ?_ | fail
    rename_i b5
    refine GC.drawn [(0, .read), (1, .read), (2, .read), (3, .read), (4, .read), (5, .tail), (6, .tail)] ([(b5, .cells (ruA r) 61 (0, 0)), (bc, .cells #[.pointer (some ⟨bt, 0, none⟩), .map (some mp)] 70 (0, 0))]) (by kernel_rfl) (by kernel_rfl) rfl ?_
    repeat' first | refine Y.st ?_ | (refine nw ?_; intro _) | refine Y.kn ?_ | fail
    refine G.ef rfl rfl rfl (Eff.callP (first := #[]) (captured := #[]) rfl rfl (H' := TH ++ ((b5, .cells (ruC r).toArray 61 (0, 0)) :: (bc, .cells #[.pointer (some ⟨bt, 0, none⟩), .map (some mp)] 70 (0, 0)) :: (mp, om) :: (b1, .cells #[.bool p.allow, .slice (some ⟨b, o, none⟩) p.rules.length ca, .slice pb p.pins.length cb] 25 (0, 0)) :: F)) (by exact permC) ((add_spec hv hT r hS.1 (by have := hS.2; omega)).mono ?_))
    rintro v H' ⟨rfl, TH', hT', hp'⟩
    have hp2 := hp'.trans (show (TH' ++ ((b5, .cells (ruC r).toArray 61 (0, 0)) :: (bc, .cells #[.pointer (some ⟨bt, 0, none⟩), .map (some mp)] 70 (0, 0)) :: (mp, om) :: (b1, .cells #[.bool p.allow, .slice (some ⟨b, o, none⟩) p.rules.length ca, .slice pb p.pins.length cb] 25 (0, 0)) :: F)).Perm ((b5, .cells (ruC r).toArray 61 (0, 0)) :: (((bc, .cells #[.pointer (some ⟨bt, 0, none⟩), .map (some mp)] 70 (0, 0)) :: (mp, om) :: TH') ++ ((b1, .cells #[.bool p.allow, .slice (some ⟨b, o, none⟩) p.rules.length ca, .slice pb p.pins.length cb] 25 (0, 0)) :: F))) by exact permC)
    refine G.heap ?_ (fun w hw => hw.perm hp2)
    by_cases h0 : (addL (p.rules.take k) r).2 = 0
    · rw [h0]
      have h9 := hst.1 h0
      rw [add_ok h0, ← htk] at hT'
      repeat' first | refine Y.st ?_ | (refine nw ?_; intro _) | refine Y.kn ?_ | fail
      exact GQ.back ⟨(k + 1, (bc, .cells #[.pointer (some ⟨bt, 0, none⟩), .map (some mp)] 70 (0, 0)) :: (mp, om) :: TH'), by omega, ⟨bt, mp, om, TH', rfl, hT', hM⟩, h9⟩ (by simp only; omega) ⟨rfl, rfl, rfl, rfl, rfl, trivial⟩ (fun w hw => hw.sub (List.sublist_cons_self _ _))
    · have h9 := hst.2 h0
      have hR : rightP p = (addL (p.rules.take k) r).2 := by unfold rightP; rw [h9, if_pos h0]
      repeat' first | refine Y.st ?_ | (refine nw ?_; intro _) | refine Y.kn ?_ | fail
      refine GQ.heap (H' := F) ?_ (fun w hw => hw.sub ((List.sublist_cons_self _ _).trans ((List.sublist_append_right _ _).trans (List.sublist_cons_self _ _))))
      exact GQ.done1 rfl rfl ⟨by rw [hR], rfl⟩
  · obtain rfl : k = p.rules.length := by omega
    rw [List.take_length, List.drop_length] at hE
    rw [List.take_length] at hC
    have hE0 : rulesErr [] p.rules = 0 := by rw [hE]; delta rulesErr; rfl
    have hR0 : rightP p = if 200 < p.pins.length then 2 else pinsErr [] p.pins := by unfold rightP; rw [hE0]; rfl
    by_cases h200 : 200 < p.pins.length
    · repeat' first | refine Y.st ?_ | (refine nw ?_; intro _) | refine Y.kn ?_ | fail
      refine GQ.heap (H' := F) ?_ (fun w hw => hw.sub ((List.sublist_cons_self _ _).trans (List.sublist_append_right _ _)))
      exact GQ.done1 rfl rfl ⟨by rw [hR0, if_pos h200], rfl⟩
    · rw [if_neg h200] at hR0
      repeat' first | refine Y.st ?_ | (refine nw ?_; intro _) | refine Y.kn ?_ | fail
      refine GC.loopE (ι := { q : Nat × Heap // q.1 ≤ p.pins.length ∧ ChkQ p.rules (p.pins.take q.1) bc q.2 ∧ pinsErr [] p.pins = pinsErr (p.pins.take q.1) (p.pins.drop q.1) }) (fun i => [(35, .int .i64 (i.1.1 : Int))]) [(3, _), (33, _), (34, _)]
        (fun q => q.1.2 ++ ((b1, .cells #[.bool p.allow, .slice pa p.rules.length ca, .slice pb p.pins.length cb] 25 (0, 0)) :: F)) (fun q => p.pins.length - q.1.1) ⟨(0, CH), Nat.zero_le _, hC, rfl⟩ ⟨rfl, rfl, rfl, rfl, trivial⟩ (fun _ h => h) ?_
      rintro ⟨⟨k, CH⟩, hk, hC, hE⟩
      dsimp only [List.cons_append, List.nil_append] at hk hC hE ⊢
      by_cases hlt : k < p.pins.length
      · obtain ⟨b, o, rfl, hc1⟩ := pins_get sp ((hbt.cons (b1, .cells #[.bool p.allow, .slice pa p.rules.length ca, .slice pb p.pins.length cb] 25 (0, 0))).app CH) hlt
        have h1 := hc1 k hlt
        have hS := getD_siz sp hlt
        have hN : (p.pins.getD k zeroP).name.length ≤ 1000000 := sn _ (by rw [List.getD_eq_getElem?_getD, List.getElem?_eq_getElem hlt]; exact List.getElem_mem hlt)
        have hst := pinsErr_step hlt hE
        have htk := take_getD p.pins zeroP hlt
        generalize hxk : p.pins.getD k zeroP = x at h1 hS hst htk hN
        have ha := hS.1.1
        have hpc := pnC_len ha
        repeat' first | refine Y.st ?_ | (refine nw ?_; intro _) | refine Y.kn ?_ | fail
        refine G.rd (Rd.loadAggC rfl h1 hpc) rfl rfl ?_
        refine G.ef rfl rfl rfl (Eff.allocA (cs := pnC zeroP) (fun b8 => ?_))
        refine G.ef rfl rfl rfl (Eff.storeAll (cs := pnC zeroP) (vs := pnC x) rfl rfl (pnC_one _) (by rw [hpc]; rfl) hpc ?_)
        repeat' first | refine Y.st ?_ | (refine nw ?_; intro _) | refine Y.kn ?_ | fail
        refine G.ef rfl rfl rfl (Eff.callP (first := #[]) (captured := #[]) rfl rfl (H' := CH ++ ((b8, .cells (pnC x).toArray 63 (0, 0)) :: (b1, .cells #[.bool p.allow, .slice pa p.rules.length ca, .slice (some ⟨b, o, none⟩) p.pins.length cb] 25 (0, 0)) :: F)) (by exact permC) ((pin_spec hv hC x hS (by omega)).mono ?_))
        rintro v H' ⟨rfl, CH', hC', hp'⟩
        have hp2 := hp'.trans (show (CH' ++ ((b8, .cells (pnC x).toArray 63 (0, 0)) :: (b1, .cells #[.bool p.allow, .slice pa p.rules.length ca, .slice (some ⟨b, o, none⟩) p.pins.length cb] 25 (0, 0)) :: F)).Perm ((b8, .cells (pnC x).toArray 63 (0, 0)) :: (CH' ++ ((b1, .cells #[.bool p.allow, .slice pa p.rules.length ca, .slice (some ⟨b, o, none⟩) p.pins.length cb] 25 (0, 0)) :: F))) by exact permC)
        refine G.heap ?_ (fun w hw => hw.perm hp2)
        by_cases h0 : pinErr (p.pins.take k) x = 0
        · have h9 := hst.1 h0
          rw [if_pos h0, ← htk] at hC'
          rw [h0]
          repeat' first | refine Y.st ?_ | (refine nw ?_; intro _) | refine Y.kn ?_ | fail
          exact GQ.back ⟨(k + 1, CH'), by omega, hC', h9⟩ (by simp only; omega) ⟨rfl, rfl, rfl, rfl, trivial⟩ (fun w hw => hw.sub (List.sublist_cons_self _ _))
        · have h9 := hst.2 h0
          repeat' first | refine Y.st ?_ | (refine nw ?_; intro _) | refine Y.kn ?_ | fail
          refine GQ.heap (H' := F) ?_ (fun w hw => hw.sub ((List.sublist_cons_self _ _).trans ((List.sublist_append_right _ _).trans (List.sublist_cons_self _ _))))
          exact GQ.done1 rfl rfl ⟨by rw [hR0, h9], rfl⟩
      · obtain rfl : k = p.pins.length := by omega
        rw [List.take_length, List.drop_length] at hE
        have hE0 : pinsErr [] p.pins = 0 := by rw [hE]; delta pinsErr; rfl
        repeat' first | refine Y.st ?_ | (refine nw ?_; intro _) | refine Y.kn ?_ | fail
        refine GQ.heap (H' := F) ?_ (fun w hw => hw.sub ((List.sublist_cons_self _ _).trans (List.sublist_append_right _ _)))
        exact GQ.done1 rfl rfl ⟨by rw [hR0, hE0], rfl⟩
end
end Go.Pol
