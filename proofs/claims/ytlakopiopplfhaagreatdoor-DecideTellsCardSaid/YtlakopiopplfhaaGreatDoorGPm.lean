/-
  PLAIN LAWS: where names lie: a table of pins: no program in sight.
  PLAIN LAWS: the document's table of pins: a row of them: no program in sight.
  A TABLE OF PINS: keys; pins.New, Add, Len.
  A TABLE OF PINS: pins.New, Len, Live, Check.
-/
import Derived.Test.YtlakopiopplfhaaGreatDoorGPl
import Derived.Test.YtlakopiopplfhaaGreatDoorGOwn
import Derived.Test.YtlakopiopplfhaaGreatDoorGPq
import Derived.Test.YtlakopiopplfhaaGreatDoorGCk
namespace Go.Pin
open Go.Lib Go.Asc Go.Adr Go.Nam Go.Tri Go.Cid Go.Pol Go.Own

abbrev Key := Lb × Cd
abbrev Tab := List (Key × Int)
/-- Of two ends the one that lasts longer (0: for good). -/
def longer (a b : Int) : Int := if a = 0 ∨ b = 0 then 0 else max a b
def joinT (o : Option Int) (t : Int) : Int := match o with | none => t | some was => longer was t
/-- May a pin be, by itself? -/
def okP (x : Pn) : Bool := decide (pinErr [] x = 0)
def addT (t : Tab) (x : Pn) : Tab := if okP x = true then putK t (placeOf x) (joinT (getK t (placeOf x)) x.till) else t
def addAllT (l : List Pn) : Tab := l.foldl addT []
theorem right_one (x : Pn) : rightP ⟨false, [], [x]⟩ = pinErr [] x := by
  have : rightP ⟨false, [], [x]⟩ = pinsErr [] [x] := rfl
  rw [this]
  simp only [pinsErr]
  split
  · rename_i h; rw [h]
  · rfl
theorem ok_iff {x : Pn} : okP x = true ↔ pinErr [] x = 0 := by simp [okP]
theorem nodup_addT {t : Tab} (h : (t.map Prod.fst).Nodup) (x : Pn) : ((addT t x).map Prod.fst).Nodup := by
  unfold addT
  split
  · exact nodup_putK _ _ _ h
  · exact h
theorem nodup_all (l : List Pn) : ((addAllT l).map Prod.fst).Nodup := by
  have key : ∀ (l : List Pn) (t : Tab), (t.map Prod.fst).Nodup → ((l.foldl addT t).map Prod.fst).Nodup := by
    intro l
    induction l with
    | nil => intro t h; exact h
    | cons x l ih => intro t h; exact ih _ (nodup_addT h x)
  exact key l [] (by simp)
theorem addAllT_step {l : List Pn} {k : Nat} (hk : k < l.length) : addAllT (l.take (k + 1)) = addT (addAllT (l.take k)) l[k] := by
  unfold addAllT
  rw [List.take_succ_eq_append_getElem hk, List.foldl_append]; rfl

/-! ### What a table holds, whatever the order -/

/-! ### What lives -/
def liveK (host : Lb) (now : Int) (e : Key × Int) : Bool := decide (e.1.1 = host) && (decide (e.2 = 0) || decide (now < e.2))
def liveT (t : Tab) (host : Lb) (now : Int) : List Cd := (t.filter (liveK host now)).map fun e => e.1.2
def liveL (t : Tab) (host : Lb) (now : Int) : List Cd := sortC (liveT t host now)
def checkT (t : Tab) (host : Lb) (a : List UInt8) (now : Int) : Int := if liveT t host now = [] then 0 else if (liveT t host now).any (fun c => hasC c a) then 1 else 2
/-- How many places a name has. -/
def countT (t : Tab) (host : Lb) : Nat := (t.filter fun e => decide (e.1.1 = host)).length
theorem live_nodup {t : Tab} (h : (t.map Prod.fst).Nodup) (host : Lb) (now : Int) : (liveT t host now).Nodup := by
  unfold liveT
  rw [List.Nodup, List.pairwise_map]
  rw [List.Nodup, List.pairwise_map] at h
  refine (List.Pairwise.and_mem.1 (h.filter _)).imp ?_
  rintro a b ⟨ha, hb, hab⟩ e
  have h1 := (List.mem_filter.1 ha).2
  have h2 := (List.mem_filter.1 hb).2
  simp only [liveK, Bool.and_eq_true, decide_eq_true_eq] at h1 h2
  exact hab (Prod.ext (h1.1.trans h2.1.symm) e)
theorem live_perm {t u : Tab} (h : t.Perm u) (host : Lb) (now : Int) : liveL t host now = liveL u host now := sortF_eq tot_cmpC ((h.filter _).map _)
theorem check_sort (t : Tab) (host : Lb) (a : List UInt8) (now : Int) : checkT t host a now = if liveL t host now = [] then 0 else if (liveL t host now).any (fun c => hasC c a) then 1 else 2 := by
  have hp := sortF_perm cmpC (liveT t host now)
  unfold checkT liveL sortC
  have h1 : liveT t host now = [] ↔ sortF cmpC (liveT t host now) = [] := by
    constructor
    · intro e; rw [e] at hp ⊢; exact hp.eq_nil
    · intro e; rw [e] at hp; exact hp.symm.eq_nil
  have h2 : (liveT t host now).any (fun c => hasC c a) = (sortF cmpC (liveT t host now)).any (fun c => hasC c a) := by
    rw [Bool.eq_iff_iff, List.any_eq_true, List.any_eq_true]
    constructor
    · rintro ⟨x, hx, h⟩; exact ⟨x, hp.mem_iff.2 hx, h⟩
    · rintro ⟨x, hx, h⟩; exact ⟨x, hp.mem_iff.1 hx, h⟩
  simp only [h1, h2]
theorem live_zero {t : Tab} {host : Lb} (h : countT t host = 0) (now : Int) : liveT t host now = [] := by
  have h0 := List.eq_nil_of_length_eq_zero h
  unfold liveT
  rw [List.map_eq_nil_iff, List.filter_eq_nil_iff]
  intro e he hl
  simp only [liveK, Bool.and_eq_true, decide_eq_true_eq] at hl
  have := List.filter_eq_nil_iff.1 h0 e he
  exact this (by simp [hl.1])
theorem live_len (t : Tab) (host : Lb) (now : Int) : (liveT t host now).length ≤ t.length := by
  unfold liveT; rw [List.length_map]; exact List.length_filter_le _ _
theorem liveL_len (t : Tab) (host : Lb) (now : Int) : (liveL t host now).length = (liveT t host now).length := sortF_len _ _
theorem mem_liveL {t : Tab} {host : Lb} {now : Int} {c : Cd} : c ∈ liveL t host now ↔ ∃ v, ((host, c), v) ∈ t ∧ (v = 0 ∨ now < v) := by
  unfold liveL sortC
  rw [sortF_mem]
  simp only [liveT, List.mem_map, List.mem_filter, liveK, Bool.and_eq_true, Bool.or_eq_true, decide_eq_true_eq]
  constructor
  · rintro ⟨⟨⟨h, d⟩, v⟩, ⟨h1, rfl, h3⟩, rfl⟩; exact ⟨v, h1, h3⟩
  · rintro ⟨v, h1, h2⟩; exact ⟨((host, c), v), ⟨h1, rfl, h2⟩, rfl⟩
/-! ### The names' counts -/
theorem count_put {t : Tab} (k : Key) (v : Int) (host : Lb) : countT (putK t k v) host = countT t host + (if getK t k = none ∧ k.1 = host then 1 else 0) := by
  unfold countT
  induction t with
  | nil => by_cases h : k.1 = host <;> simp [putK, getK, h]
  | cons e t ih =>
    obtain ⟨k', v'⟩ := e
    by_cases hk : k' = k
    · subst hk
      simp only [putK, getK, if_true]
      by_cases h : k'.1 = host <;> simp [h]
    · simp only [putK, getK, if_neg hk]
      by_cases h : k'.1 = host
      · simp only [List.filter_cons, h, decide_true, if_true, List.length_cons]; rw [ih]; omega
      · simp only [List.filter_cons, h, decide_false, Bool.false_eq_true, if_false]; rw [ih]
theorem right_keys {l : List Pn} : ∀ e ∈ addAllT l, rightC e.1.2 = true := by
  have key : ∀ (l : List Pn) (t : Tab), (∀ e ∈ t, rightC e.1.2 = true) → ∀ e ∈ l.foldl addT t, rightC e.1.2 = true := by
    intro l
    induction l with
    | nil => intro t h; exact h
    | cons x l ih =>
      intro t h
      refine ih _ ?_
      unfold addT
      split
      · rename_i hx
        intro e he
        have : e.1 ∈ (putK t (placeOf x) (joinT (getK t (placeOf x)) x.till)).map Prod.fst := List.mem_map.2 ⟨e, he, rfl⟩
        rcases (keys_putK _ _ _ _).1 this with h1 | h1
        · rw [h1]
          have h2 := ok_iff.1 hx
          unfold pinErr at h2
          split at h2
          · cases h2
          · split at h2
            · cases h2
            · rename_i h3
              cases hr : rightC x.cidr with
              | true => exact hr
              | false => exact absurd (.inl hr) h3
        · obtain ⟨e', h2, h3⟩ := List.mem_map.1 h1
          rw [← h3]; exact h e' h2
      · exact h
  exact key l [] (by simp)
end Go.Pin

namespace Go.Pin
open Go.Lib Go.Asc Go.Adr Go.Nam Go.Tri Go.Cid Go.Pol Go.Own

def toPn (e : Key × Int) : Pn := ⟨e.1.1, e.1.2, e.2⟩
def refT (t : Tab) : List Pn := t.map toPn
theorem refT_len (t : Tab) : (refT t).length = t.length := by simp [refT]
theorem refT_get {t : Tab} {k : Nat} (hk : k < t.length) : (refT t)[k]'(by rw [refT_len]; exact hk) = toPn t[k] := by simp [refT]
/-- The pin stands at place k. -/
theorem add_at {t : Tab} (hn : (t.map Prod.fst).Nodup) {x : Pn} (hx : okP x = true) {k : Nat} (hk : k < t.length) (he : t[k].1 = placeOf x) : addT t x = t.set k (placeOf x, longer t[k].2 x.till) := by
  have hj : t[k]? = some (placeOf x, t[k].2) := by rw [List.getElem?_eq_getElem hk, ← he]
  unfold addT
  rw [if_pos hx, getK_of_mem hn (List.mem_of_getElem? hj)]
  exact putK_at hn hj
/-- It stands nowhere. -/
theorem add_new {t : Tab} {x : Pn} (hx : okP x = true) (he : ∀ k (hk : k < t.length), t[k].1 ≠ placeOf x) : addT t x = t ++ [(placeOf x, x.till)] := by
  have hno : placeOf x ∉ t.map Prod.fst := by
    intro h
    obtain ⟨e, h1, h2⟩ := List.mem_map.1 h
    obtain ⟨k, hk, rfl⟩ := List.getElem_of_mem h1
    exact he k hk h2
  unfold addT
  rw [if_pos hx, getK_none.2 hno]
  exact putK_new hno
theorem add_no {t : Tab} {x : Pn} (hx : okP x = false) : addT t x = t := by unfold addT; rw [if_neg (by rw [hx]; simp)]
theorem add_le (t : Tab) (x : Pn) : (addT t x).length ≤ t.length + 1 := by
  unfold addT
  split
  · have : ∀ (l : Tab) (a : Key) (v : Int), (putK l a v).length ≤ l.length + 1 := by
      intro l
      induction l with
      | nil => intro a v; simp [putK]
      | cons e l ih =>
        intro a v
        obtain ⟨k, w⟩ := e
        simp only [putK]
        split
        · simp
        · have := ih a v
          simp only [List.length_cons]; omega
    exact this _ _ _
  · omega
theorem all_le (l : List Pn) : (addAllT l).length ≤ l.length := by
  have key : ∀ (l : List Pn) (t : Tab), (l.foldl addT t).length ≤ t.length + l.length := by
    intro l
    induction l with
    | nil => intro t; simp
    | cons x l ih =>
      intro t
      have h1 := ih (addT t x)
      have h2 := add_le t x
      rw [List.foldl_cons, List.length_cons]; omega
  have := key l []
  simpa [addAllT] using this
/-- One laid where it stands. -/
theorem ins_at {l : List Cd} {c : Cd} {k : Nat} (hk : k ≤ (sortC l).length) (h1 : ∀ j (hj : j < (sortC l).length), j < k → cmpC (sortC l)[j] c < 0) (h2 : ∀ (hj : k < (sortC l).length), ¬ cmpC (sortC l)[k] c < 0) :
    sortC (l ++ [c]) = (sortC l).take k ++ c :: (sortC l).drop k := by
  have hp : sortC (l ++ [c]) = sortC (c :: l) := sortF_eq tot_cmpC (List.perm_append_comm (l₁ := l) (l₂ := [c]))
  rw [hp]
  refine sortF_ins tot_cmpC (l := l) (List.take_append_drop k (sortC l)).symm ?_ ?_
  · intro y hy
    obtain ⟨j, hj, rfl⟩ := List.getElem_of_mem hy
    rw [List.length_take] at hj
    rw [List.getElem_take]
    exact Int.le_of_lt (h1 j (by omega) (by omega))
  · intro y hy
    obtain ⟨j, hj, rfl⟩ := List.getElem_of_mem hy
    rw [List.length_drop] at hj
    rw [List.getElem_drop]
    have h3 := h2 (by omega)
    have h4 := tot_cmpC.neg (sortC l)[k] c
    by_cases hj0 : j = 0
    · subst hj0
      simp only [Nat.add_zero]; omega
    · have h5 := List.pairwise_iff_getElem.1 (sortF_pair tot_cmpC l) k (k + j) (show k < (sortC l).length by omega) (show k + j < (sortC l).length by omega) (by omega)
      exact tot_cmpC.le_trans (b := (sortC l)[k]) (by omega) h5
theorem live_step {t : Tab} {k : Nat} (hk : k < t.length) (host : Lb) (now : Int) : liveT (t.take (k + 1)) host now = liveT (t.take k) host now ++ (if liveK host now t[k] = true then [t[k].1.2] else []) := by
  unfold liveT
  rw [List.take_succ_eq_append_getElem hk, List.filter_append, List.map_append]
  congr 1
  by_cases h : liveK host now t[k] = true
  · rw [if_pos h]; simp [h]
  · rw [if_neg h]; simp [h]
theorem putK_same {K V : Type} [DecidableEq K] : ∀ {l : List (K × V)} {a : K} {v : V}, getK l a = some v → putK l a v = l
  | [], _, _, h => by cases h
  | (k, w) :: l, a, v, h => by
    simp only [getK] at h
    simp only [putK]
    by_cases hk : k = a
    · rw [if_pos hk] at h ⊢
      cases h; subst hk; rfl
    · rw [if_neg hk] at h ⊢
      rw [putK_same h]
/-- There already, and no longer than before. -/
theorem add_stays {t : Tab} {x : Pn} {was : Int} (h : getK t (placeOf x) = some was) (hw : was = 0 ∨ (x.till ≠ 0 ∧ x.till ≤ was)) : addT t x = t := by
  unfold addT
  split
  · rw [h]
    refine putK_same ?_
    rw [h]; congr 1
    simp only [joinT, longer]
    rcases hw with rfl | ⟨h1, h2⟩
    · simp
    · by_cases h0 : was = 0
      · subst h0; simp
      · rw [if_neg (fun h => h.elim h0 h1)]; omega
  · rfl
theorem add_longer {t : Tab} {x : Pn} {was : Int} (hx : okP x = true) (h : getK t (placeOf x) = some was) (h0 : was ≠ 0) (hw : x.till = 0 ∨ was < x.till) : addT t x = putK t (placeOf x) x.till := by
  unfold addT
  rw [if_pos hx, h]
  congr 1
  simp only [joinT, longer]
  rcases hw with h1 | h1
  · rw [if_pos (.inr h1)]; exact h1.symm
  · by_cases h2 : x.till = 0
    · rw [if_pos (.inr h2)]; exact h2.symm
    · rw [if_neg (fun h => h.elim h0 h2)]; omega
theorem add_fresh {t : Tab} {x : Pn} (hx : okP x = true) (h : getK t (placeOf x) = none) : addT t x = putK t (placeOf x) x.till := by
  unfold addT
  rw [if_pos hx, h]; rfl
theorem live_app (t u : Tab) (host : Lb) (now : Int) : liveT (t ++ u) host now = liveT t host now ++ liveT u host now := by simp [liveT]
end Go.Pin

namespace Go.Pin
open Go.Own Go.Proofs Go.RowKit Go.Lib Go.Asc Go.Adr Go.Nam Go.Tri Go.Cid Go.Pol
attribute [local irreducible] GC GQ G Rd Eff T
set_option maxRecDepth 20000
set_option maxHeartbeats 4000000
theorem place_key (p : Lb × Cd) (h : SizC p.2) (hn : p.1.length ≤ 140737488351232) : isK Tryz.prog 201 (plV p) := by
  have hk : Tryz.prog.keyType 201 = true := by kernel_rfl
  have hc : Tryz.prog.cellsOf 201 = 18 := by kernel_rfl
  have c1 : Tryz.prog.cellsOf 9 = 1 := by kernel_rfl
  have c2 : Tryz.prog.cellsOf 50 = 17 := by kernel_rfl
  obtain ⟨d, hd⟩ : ∃ d, Tryz.prog.types.size + 1 = d + 4 := ⟨Tryz.prog.types.size - 3, by kernel_rfl⟩
  obtain ⟨ls, hls⟩ := cd_lits d h
  have hl := plC_len (p := p) h.1
  have hm : (⟨p.1.toArray⟩ : ByteArray).size ≤ maxLen := by show p.1.toArray.size ≤ _; simp [maxLen]; omega
  have e0 : Tryz.prog.keyLits (d + 3) 9 [S p.1] = some [.string p.1] := by
    unfold Program.keyLits; rw [Tryz.underlying9]; simp only [if_pos hm]
  have e1 : ((plC p).drop 0).take 1 = [S p.1] := rfl
  have e2 : ((plC p).drop 1).take 17 = cdC p.2 := by
    show (cdC p.2).take 17 = _
    exact List.take_of_length_le (by rw [cdC_len h.1]; exact Nat.le_refl _)
  unfold isK keyOf
  rw [Tryz.underlying201]
  simp only [hk, Value.formed, Tryz.underlying201, hc, hd, List.size_toArray, hl, Value.cells]
  rw [show (S p.1 :: (u8s p.2.addr ++ [Value.int .i64 p.2.bits])) = plC p from rfl]
  have : Tryz.prog.keyLits (d + 4) 201 (plC p) = some ([.string p.1] ++ ls) := by
    conv => lhs; unfold Program.keyLits
    rw [Tryz.underlying201]
    simp only [hl, hc]
    rw [if_pos ⟨trivial, by kernel_rfl⟩]
    simp only [List.mapM_cons, List.mapM_nil, c1, c2, e1, e2, hls, e0]
    simp
  rw [this]
  exact ⟨_, rfl⟩
instance : MapT Tryz.prog 155 201 3 (isK Tryz.prog 201) (.int .i64 0) :=
  ⟨Tryz.underlying155, keyLaws (Maps.Keyed.of_law (deep_law_laid (by kernel_rfl) (m := 5) (by omega) (of_decide_eq_true (by kernel_rfl)) (by kernel_rfl) (by kernel_rfl))), Tryz.zeroValue3⟩
instance : MapT Tryz.prog 156 9 3 isStr (.int .i64 0) := ⟨Tryz.underlying156, strLaws Tryz.underlying9, Tryz.zeroValue3⟩
/-- The table, among what is owned. -/
def TabQ (t : Tab) (bt : Nat) (H : Heap) : Prop := ∃ mu ou mn on ns, H = [(bt, .cells #[.map (some mu), .map (some mn)] 158 (0, 0)), (mu, ou), (mn, on)] ∧ MapIs (isK Tryz.prog 201) plV intV t ou ∧ MapIs isStr S intV (ns : List (Lb × Int)) on ∧ ∀ h, (getK ns h).getD 0 = (countT t h : Int)
section
variable {W0 : World} {H : Heap} {e : Env} {x y : Operand}
theorem Rd.mkPlace {nm : Lb} {c : Cd} (ha : c.addr.length = 16) (hx : opv e x = some (S nm)) (hy : opv e y = some (cdV c)) : Rd Tryz.prog W0 H e (.build 201 #[(0, x), (1, y)]) (plV (nm, c)) := by
  obtain ⟨a, n⟩ := c
  match a, ha with
  | [a0, a1, a2, a3, a4, a5, a6, a7, a8, a9, b0, b1, b2, b3, b4, b5], _ =>
    exact Rd.build (vs := [(0, S nm), (1, cdV ⟨[a0, a1, a2, a3, a4, a5, a6, a7, a8, a9, b0, b1, b2, b3, b4, b5], n⟩)]) (by simp [List.mapM_cons, hx, hy]) (by kernel_rfl)
end
section
variable {W0 : World} {F : Heap}
attribute [local irreducible] normalL rightC ofL Lit.wf pinErr okP addC
theorem look_int (ns : List (Lb × Int)) (k : Lb) : lookV intV ns k (.int .i64 0) = .int .i64 ((getK ns k).getD 0) := by
  unfold lookV; cases getK ns k <;> rfl
theorem look_tab (t : Tab) (k : Key) : lookV intV t k (.int .i64 0) = .int .i64 ((getK t k).getD 0) := by
  unfold lookV; cases getK t k <;> rfl
theorem padd_spec (hv : Vars W0) {t : Tab} {bt : Nat} {TH : Heap} (h : TabQ t bt TH) (x : Pn) (hs : SizP x) (hn : x.name.length ≤ 2000000) (ht : t.length ≤ 100000000) :
    T Tryz.prog W0 91 #[.pointer (some ⟨bt, 0, none⟩), pnV x] (TH ++ F) (fun v H' => v = .bool (okP x) ∧ ∃ H2, TabQ (addT t x) bt H2 ∧ H' = H2 ++ F) := by
  have h' := h
  obtain ⟨mu, ou, mn, on, ns, rfl, hU, hN, hC⟩ := h
  simp only [List.cons_append, List.nil_append]
  have ha := hs.1.1
  have hl := pnC_len ha
  have hpk := place_key (placeOf x) hs.1 hs.2.2
  have hpl := plC_len (p := placeOf x) ha
  have hsk : isStr (S x.name) := ⟨x.name, rfl⟩
  refine T.intro (args := [_, _]) Tryz.func91 rfl Tryz.ntmps91 rfl ?_
  repeat' first | refine Y.st ?_ | (refine nw ?_; intro _) | refine Y.kn ?_ | fail
  rename_i b3
  refine G.ef rfl rfl rfl (Eff.buildSlice (cells := (pnC x).toArray) rfl (by exact fill_pn ha) (by omega) (fun b9 => ?_))
  refine G.rd (Rd.build (cells := #[.bool false, .slice none 0 0, .slice (some ⟨b9, 0, none⟩) 1 1]) rfl (by rfl)) rfl rfl ?_
  refine G.ef rfl rfl rfl (Eff.callF rfl ((pright_spec2 hv ⟨false, [], [x]⟩ (.slice none 0 0) (.slice (some ⟨b9, 0, none⟩) 1 1) ⟨none, 0, rfl, Nat.le_refl _, .inl rfl⟩ ⟨some ⟨b9, 0, none⟩, 1, rfl, Nat.le_refl _, .inr ⟨b9, 0, rfl, RO.cells (cs := pnC x) (fun j u hj => by simpa using hj)⟩⟩ (fun r hr => by cases hr) (fun y hy => by rw [List.mem_singleton.1 hy]; exact hs) (fun y hy => by rw [List.mem_singleton.1 hy]; exact hn) (by simp) (by simp)).mono ?_))
  rintro v H' ⟨rfl, rfl⟩
  rw [right_one]
  cases hx : okP x with
  | false =>
    have hne : ¬ pinErr [] x = 0 := fun e => by rw [ok_iff.2 e] at hx; cases hx
    repeat' first | refine Y.st ?_ | (refine nw ?_; intro _) | refine Y.kn ?_ | fail
    refine GQ.heap (H' := [(bt, .cells #[.map (some mu), .map (some mn)] 158 (0, 0)), (mu, ou), (mn, on)] ++ F) ?_ (fun w hw => hw.sub ((List.sublist_cons_self _ _).trans (List.sublist_cons_self _ _)))
    exact GQ.done1 rfl rfl ⟨rfl, _, by rw [add_no hx]; exact h', rfl⟩
  | true =>
    have heq : pinErr [] x = 0 := ok_iff.1 hx
    repeat' first | refine Y.st ?_ | (refine nw ?_; intro _) | refine Y.kn ?_ | fail
    refine G.rd (Rd.pnCidr rfl rfl ha) rfl rfl ?_
    refine G.rd (Rd.mkPlace ha rfl rfl) rfl rfl ?_
    refine G.ef rfl rfl rfl (Eff.allocA (cs := plC ([], zeroC)) (fun b5 => ?_))
    refine G.ef rfl rfl rfl (Eff.storeAll (cs := plC ([], zeroC)) (vs := plC (placeOf x)) rfl rfl (plC_one _) (by rw [hpl]; rfl) hpl ?_)
    repeat' first | refine Y.st ?_ | (refine nw ?_; intro _) | refine Y.kn ?_ | fail
    refine GC.drawnH [(0, .read), (1, .read), (2, .read), (3, .read), (4, .read), (5, .read), (6, .read), (7, .read), (8, .read), (9, .read), (10, .read)] (by kernel_rfl) (by kernel_rfl) rfl ?_
    repeat' first | refine Y.st ?_ | (refine nw ?_; intro _) | refine Y.kn ?_ | fail
    refine G.rd (Rd.lookOk (key := plV) (val := intV) (a := placeOf x) rfl rfl hU hpk) rfl rfl ?_
    rw [look_tab]
    have hcl : countT t x.name ≤ t.length := List.length_filter_le _ _
    cases hg : getK t (placeOf x) with
    | none =>
      repeat' first | refine Y.st ?_ | (refine nw ?_; intro _) | refine Y.kn ?_ | fail
      refine GC.drawnH [(0, .read), (1, .read), (2, .read), (3, .read), (4, .read), (5, .read), (6, .read), (7, .read), (8, .tail)] (by kernel_rfl) (by kernel_rfl) rfl ?_
      repeat' first | refine Y.st ?_ | (refine nw ?_; intro _) | refine Y.kn ?_ | fail
      refine G.rd (Rd.look (key := S) (val := intV) (a := x.name) rfl rfl hN hsk) rfl rfl ?_
      rw [look_int, hC]
      repeat' first | refine Y.st ?_ | (refine nw ?_; intro _) | refine Y.kn ?_ | fail
      refine G.ef rfl rfl rfl (Eff.mapPut (key := S) (val := intV) (a := x.name) (v := (countT t x.name : Int) + 1) rfl rfl rfl hN hsk (fun on' hN' => ?_))
      repeat' first | refine Y.st ?_ | (refine nw ?_; intro _) | refine Y.kn ?_ | fail
      refine GC.drawnH [(0, .read), (1, .read), (2, .read), (3, .read), (4, .read), (5, .read), (6, .read), (7, .tail)] (by kernel_rfl) (by kernel_rfl) rfl ?_
      repeat' first | refine Y.st ?_ | (refine nw ?_; intro _) | refine Y.kn ?_ | fail
      refine G.rd (Rd.pnTill rfl rfl ha) rfl rfl ?_
      refine G.ef rfl rfl rfl (Eff.mapPut (key := plV) (val := intV) (a := placeOf x) (v := x.till) rfl rfl rfl hU hpk (fun ou' hU' => ?_))
      repeat' first | refine Y.st ?_ | (refine nw ?_; intro _) | refine Y.kn ?_ | fail
      refine GQ.heap (H' := [(bt, .cells #[.map (some mu), .map (some mn)] 158 (0, 0)), (mu, ou'), (mn, on')] ++ F) ?_ (fun w hw => hw.sub ((List.sublist_cons_self _ _).trans ((List.sublist_cons_self _ _).trans (List.sublist_cons_self _ _))))
      exact GQ.done1 rfl rfl ⟨rfl, _, by rw [add_fresh hx hg]; exact ⟨mu, ou', mn, on', _, rfl, hU', hN', fun h => by
        rw [count_put, getK_putK]
        by_cases hh : x.name = h
        · subst hh
          rw [if_pos rfl, if_pos ⟨hg, rfl⟩]; rfl
        · rw [if_neg hh, if_neg (fun e => hh e.2), Nat.add_zero]; exact hC h⟩, rfl⟩
    | some was =>
      simp only [Option.getD_some, Option.isSome_some]
      by_cases h0 : was = 0
      · repeat' first | refine Y.st ?_ | (refine nw ?_; intro _) | refine Y.kn ?_ | fail
        refine GQ.heap (H' := [(bt, .cells #[.map (some mu), .map (some mn)] 158 (0, 0)), (mu, ou), (mn, on)] ++ F) ?_ (fun w hw => hw.sub ((List.sublist_cons_self _ _).trans ((List.sublist_cons_self _ _).trans (List.sublist_cons_self _ _))))
        exact GQ.done1 rfl rfl ⟨rfl, _, by rw [add_stays hg (.inl h0)]; exact h', rfl⟩
      · by_cases h1 : x.till = 0
        · repeat' first | refine Y.st ?_ | (refine nw ?_; intro _) | refine Y.kn ?_ | fail
          refine G.rd (Rd.pnTill rfl rfl ha) rfl rfl ?_
          repeat' first | refine Y.st ?_ | (refine nw ?_; intro _) | refine Y.kn ?_ | fail
          refine GC.drawnH [(0, .read), (1, .read), (2, .read), (3, .read), (4, .read), (5, .read), (6, .read), (7, .tail)] (by kernel_rfl) (by kernel_rfl) rfl ?_
          repeat' first | refine Y.st ?_ | (refine nw ?_; intro _) | refine Y.kn ?_ | fail
          refine G.rd (Rd.pnTill rfl rfl ha) rfl rfl ?_
          refine G.ef rfl rfl rfl (Eff.mapPut (key := plV) (val := intV) (a := placeOf x) (v := x.till) rfl rfl rfl hU hpk (fun ou' hU' => ?_))
          repeat' first | refine Y.st ?_ | (refine nw ?_; intro _) | refine Y.kn ?_ | fail
          refine GQ.heap (H' := [(bt, .cells #[.map (some mu), .map (some mn)] 158 (0, 0)), (mu, ou'), (mn, on)] ++ F) ?_ (fun w hw => hw.sub ((List.sublist_cons_self _ _).trans ((List.sublist_cons_self _ _).trans (List.sublist_cons_self _ _))))
          exact GQ.done1 rfl rfl ⟨rfl, _, by rw [add_longer hx hg h0 (.inl h1)]; exact ⟨mu, ou', mn, on, ns, rfl, hU', hN, fun h => by rw [count_put, if_neg (fun e => by rw [hg] at e; cases e.1), Nat.add_zero]; exact hC h⟩, rfl⟩
        · by_cases h2 : was < x.till
          · repeat' first | refine Y.st ?_ | (refine nw ?_; intro _) | refine Y.kn ?_ | fail
            refine G.rd (Rd.pnTill rfl rfl ha) rfl rfl ?_
            repeat' first | refine Y.st ?_ | (refine nw ?_; intro _) | refine Y.kn ?_ | fail
            refine G.rd (Rd.pnTill rfl rfl ha) rfl rfl ?_
            repeat' first | refine Y.st ?_ | (refine nw ?_; intro _) | refine Y.kn ?_ | fail
            refine GC.drawnH [(0, .read), (1, .read), (2, .read), (3, .read), (4, .read), (5, .read), (6, .read), (7, .tail)] (by kernel_rfl) (by kernel_rfl) rfl ?_
            repeat' first | refine Y.st ?_ | (refine nw ?_; intro _) | refine Y.kn ?_ | fail
            refine G.rd (Rd.pnTill rfl rfl ha) rfl rfl ?_
            refine G.ef rfl rfl rfl (Eff.mapPut (key := plV) (val := intV) (a := placeOf x) (v := x.till) rfl rfl rfl hU hpk (fun ou' hU' => ?_))
            repeat' first | refine Y.st ?_ | (refine nw ?_; intro _) | refine Y.kn ?_ | fail
            refine GQ.heap (H' := [(bt, .cells #[.map (some mu), .map (some mn)] 158 (0, 0)), (mu, ou'), (mn, on)] ++ F) ?_ (fun w hw => hw.sub ((List.sublist_cons_self _ _).trans ((List.sublist_cons_self _ _).trans (List.sublist_cons_self _ _))))
            exact GQ.done1 rfl rfl ⟨rfl, _, by rw [add_longer hx hg h0 (.inr h2)]; exact ⟨mu, ou', mn, on, ns, rfl, hU', hN, fun h => by rw [count_put, if_neg (fun e => by rw [hg] at e; cases e.1), Nat.add_zero]; exact hC h⟩, rfl⟩
          · repeat' first | refine Y.st ?_ | (refine nw ?_; intro _) | refine Y.kn ?_ | fail
            refine G.rd (Rd.pnTill rfl rfl ha) rfl rfl ?_
            repeat' first | refine Y.st ?_ | (refine nw ?_; intro _) | refine Y.kn ?_ | fail
            refine G.rd (Rd.pnTill rfl rfl ha) rfl rfl ?_
            repeat' first | refine Y.st ?_ | (refine nw ?_; intro _) | refine Y.kn ?_ | fail
            refine GQ.heap (H' := [(bt, .cells #[.map (some mu), .map (some mn)] 158 (0, 0)), (mu, ou), (mn, on)] ++ F) ?_ (fun w hw => hw.sub ((List.sublist_cons_self _ _).trans ((List.sublist_cons_self _ _).trans (List.sublist_cons_self _ _))))
            exact GQ.done1 rfl rfl ⟨rfl, _, by rw [add_stays hg (.inr ⟨h1, by omega⟩)]; exact h', rfl⟩
end
end Go.Pin

namespace Go.Pin
open Go.Own Go.Proofs Go.RowKit Go.Lib Go.Asc Go.Adr Go.Nam Go.Tri Go.Cid Go.Pol
attribute [local irreducible] GC GQ G Rd Eff T
set_option maxRecDepth 20000
set_option maxHeartbeats 4000000
section
variable {W0 : World} {F : Heap}
attribute [local irreducible] normalL rightC ofL Lit.wf pinErr okP addC addT
theorem Rd.plCidr {H : Heap} {e : Env} {x : Operand} {b o : Nat} {p : Lb × Cd} {el : TypeId} {fr : Nat × Nat} (hx : opv e x = some (.pointer (some ⟨b, o, none⟩))) (ho : o = 1) [h : Has H b (.cells (plC p).toArray el fr)] (ha : p.2.addr.length = 16) : Rd Tryz.prog W0 H e (.load 50 x) (cdV p.2) :=
  Rd.loadAggC hx (cellsH (h := h) (fun j u hj => by subst ho; rw [List.getElem?_toArray, Nat.add_comm, List.getElem?_cons_succ]; exact hj)) (cdC_len ha)
theorem tab_nil (mu mn bt : Nat) : TabQ [] bt [(bt, .cells #[.map (some mu), .map (some mn)] 158 (0, 0)), (mu, .map #[] 0), (mn, .map #[] 0)] :=
  ⟨mu, _, mn, _, [], rfl, .empty plV_inj, .empty S_inj, fun _ => rfl⟩
theorem pnew_spec (hv : Vars W0) {l : List Pn} {v : Value} (hp : PinsAt W0 F v l) (sp : ∀ x ∈ l, SizP x) (sn : ∀ x ∈ l, x.name.length ≤ 2000000) (hl : l.length ≤ 2000000) :
    T Tryz.prog W0 47 #[v] F (fun u H' => ∃ bt TH, u = .pointer (some ⟨bt, 0, none⟩) ∧ TabQ (addAllT l) bt TH ∧ H' = TH ++ F) := by
  obtain ⟨p, c, rfl, hc, hat⟩ := hp
  have h19 : ∀ x ∈ l, (pnC x).length = 19 := fun x hx => pnC_len (sp x hx).1.1
  refine T.intro (args := [_]) Tryz.func47 rfl Tryz.ntmps47 rfl ?_
  repeat' first | refine Y.st ?_ | (refine nw ?_; intro _) | refine Y.kn ?_ | fail
  refine G.ef rfl rfl rfl (Eff.makeMap (fun mu => ?_))
  refine G.ef rfl rfl rfl (Eff.makeMap (fun mn => ?_))
  refine G.rd (Rd.build (cells := #[.map (some mu), .map (some mn)]) rfl (by rfl)) rfl rfl ?_
  refine G.ef rfl rfl rfl (Eff.boxA rfl (fun bt => ?_))
  repeat' first | refine Y.st ?_ | (refine nw ?_; intro _) | refine Y.kn ?_ | fail
  refine GC.loopE (ι := { q : Nat × Heap // q.1 ≤ l.length ∧ TabQ (addAllT (l.take q.1)) bt q.2 }) (fun i => [(12, .int .i64 (i.1.1 : Int))]) [(3, _), (10, _), (11, _)] (fun q => q.1.2 ++ F) (fun q => l.length - q.1.1) ⟨(0, _), Nat.zero_le _, by rw [List.take_zero]; exact tab_nil mu mn bt⟩ ⟨rfl, rfl, rfl, rfl, trivial⟩ (fun _ h => h.perm (by exact permC)) ?_
  rintro ⟨⟨k, TH⟩, hk, hT⟩
  dsimp only at hk hT ⊢
  by_cases hlt : k < l.length
  · obtain ⟨b, o, rfl, a1⟩ := row_get (m := 19) h19 (by omega) (hat.app TH) hlt
    have c1 := a1 k hlt
    have s1 := sp _ (List.getElem_mem hlt)
    have n1 := sn _ (List.getElem_mem hlt)
    have l1 := h19 _ (List.getElem_mem hlt)
    have hle := all_le (l.take k)
    rw [List.length_take] at hle
    repeat' first | refine Y.st ?_ | (refine nw ?_; intro _) | refine Y.kn ?_ | fail
    refine G.rd (Rd.loadAggC rfl c1 l1) rfl rfl ?_
    refine G.ef rfl rfl rfl (Eff.allocA (cs := pnC ⟨[], zeroC, 0⟩) (fun b5 => ?_))
    refine G.ef rfl rfl rfl (Eff.storeAll (cs := pnC ⟨[], zeroC, 0⟩) (vs := pnC l[k]) rfl rfl (pnC_one _) (by rw [l1]; rfl) l1 ?_)
    repeat' first | refine Y.st ?_ | (refine nw ?_; intro _) | refine Y.kn ?_ | fail
    refine G.ef rfl rfl rfl (Eff.callP (first := #[]) (captured := #[]) rfl rfl (H' := TH ++ ((b5, .cells (pnC l[k]).toArray 52 (0, 0)) :: F)) List.perm_middle.symm ((padd_spec hv hT l[k] s1 n1 (by omega)).mono ?_))
    rintro v H' ⟨rfl, TH2, hT2, rfl⟩
    repeat' first | refine Y.st ?_ | (refine nw ?_; intro _) | refine Y.kn ?_ | fail
    exact GQ.back ⟨(k + 1, TH2), by omega, by rw [addAllT_step hlt]; exact hT2⟩ (by simp only; omega) ⟨rfl, rfl, rfl, rfl, trivial⟩ (fun w hw => hw.sub (List.Sublist.append_left (List.sublist_cons_self _ _) _))
  obtain rfl : k = l.length := by omega
  rw [List.take_length] at hT
  repeat' first | refine Y.st ?_ | (refine nw ?_; intro _) | refine Y.kn ?_ | fail
  exact GQ.done1 rfl rfl ⟨bt, TH, rfl, hT, rfl⟩
theorem addC_new {s : List Cd} {c : Cd} (hr : rightC c = true) (hn : c ∉ s) : (addC s c).1 = s ++ [c] := by
  delta addC; simp only [if_pos (And.intro hr hn)]
/-- The addresses at which a name lies. -/
theorem plive_spec {t : Tab} {bt : Nat} {TH : Heap} (h : TabQ t bt TH) (hn : (t.map Prod.fst).Nodup) (hr : ∀ e ∈ t, rightC e.1.2 = true) (hz : ∀ e ∈ t, SizC e.1.2) (ht : t.length ≤ 2000000) (host : Lb) (now : Int) :
    T Tryz.prog W0 132 #[.pointer (some ⟨bt, 0, none⟩), S host, .int .i64 now] (TH ++ F) (fun v H' => ∃ B, Buf 50 17 v (liveL t host now).length ((liveL t host now).flatMap cdC) B ∧ H' = B ++ (TH ++ F)) := by
  obtain ⟨mu, ou, mn, on, ns, rfl, hU, hN, hC⟩ := h
  simp only [List.cons_append, List.nil_append]
  have hsk : isStr (S host) := ⟨host, rfl⟩
  refine T.intro (args := [_, _, _]) Tryz.func132 rfl Tryz.ntmps132 rfl ?_
  repeat' first | refine Y.st ?_ | (refine nw ?_; intro _) | refine Y.kn ?_ | fail
  refine G.rd (Rd.look (key := S) (val := intV) (a := host) rfl rfl hN hsk) rfl rfl ?_
  rw [look_int, hC]
  by_cases h0 : countT t host = 0
  · have hl : liveL t host now = [] := by
      have := live_zero h0 now
      unfold liveL; rw [this]; simp [sortC, sortF]
    repeat' first | refine Y.st ?_ | (refine nw ?_; intro _) | refine Y.kn ?_ | fail
    exact GQ.done1 rfl rfl ⟨[], by rw [hl]; exact .nil, rfl⟩
  repeat' first | refine Y.st ?_ | (refine nw ?_; intro _) | refine Y.kn ?_ | fail
  refine G.ef rfl rfl rfl (Eff.callF rfl (cnew_spec.mono ?_))
  rintro v H' ⟨bs, SH0, rfl, hS0, rfl⟩
  repeat' first | refine Y.st ?_ | (refine nw ?_; intro _) | refine Y.kn ?_ | fail
  refine G.ef rfl rfl rfl (Eff.rangeM rfl hU (fun r oi hi => ?_))
  repeat' first | refine Y.st ?_ | (refine nw ?_; intro _) | refine Y.kn ?_ | fail
  refine GC.loopE (ι := { q : Tab × Tab × Heap × Obj // (q.2.1 ++ q.1).Perm t ∧ SetQ (liveT q.2.1 host now) bs q.2.2.1 ∧ IterIs plV intV mu ou q.1 q.2.2.2 }) (fun i => []) [(1, _), (2, _), (7, _), (22, _)]
    (fun q => (r, q.1.2.2.2) :: (q.1.2.2.1 ++ ((bt, .cells #[.map (some mu), .map (some mn)] 158 (0, 0)) :: (mu, ou) :: (mn, on) :: F))) (fun q => q.1.1.length) ⟨(t, [], SH0, oi), by simp, hS0, hi⟩ ⟨rfl, rfl, rfl, rfl, trivial⟩ (fun _ h => h) ?_
  rintro ⟨⟨left, got, SH, oi⟩, hperm, hS, hi⟩
  dsimp only [List.cons_append, List.nil_append] at hperm hS hi ⊢
  have hln : got.length + left.length = t.length := by rw [← List.length_append]; exact hperm.length_eq
  have hll := live_len got host now
  repeat' first | refine Y.st ?_ | (refine nw ?_; intro _) | refine Y.kn ?_ | fail
  refine G.ef rfl rfl rfl (Eff.nextM rfl hi (fun hz0 => ?_) (fun A e D oi' hA hi' hlast => ?_))
  · have hl0 : left = [] := by simpa using hz0
    subst hl0
    rw [List.append_nil] at hperm
    have hlv : sortC (liveT got host now) = liveL t host now := live_perm hperm host now
    have hlen : (liveL t host now).length = (liveT got host now).length := by rw [← hlv]; exact sortF_len _ _
    have hsz : ∀ c ∈ liveT got host now, SizC c := fun c hc => by
      obtain ⟨e, he, rfl⟩ := List.mem_map.1 hc
      exact hz e (hperm.mem_iff.1 (List.mem_filter.1 he).1)
    repeat' first | refine Y.st ?_ | (refine nw ?_; intro _) | refine Y.kn ?_ | fail
    refine G.ef rfl rfl rfl (Eff.callP (first := #[]) (captured := #[]) rfl rfl (H' := SH ++ ((r, oi) :: (bt, .cells #[.map (some mu), .map (some mn)] 158 (0, 0)) :: (mu, ou) :: (mn, on) :: F)) List.perm_middle.symm ((call_spec hS (by omega) hsz).mono ?_))
    rintro v H' ⟨B, hB, rfl⟩
    rw [hlv, ← hlen] at hB
    repeat' first | refine Y.st ?_ | (refine nw ?_; intro _) | refine Y.kn ?_ | fail
    refine GQ.heap (H' := B ++ ((bt, .cells #[.map (some mu), .map (some mn)] 158 (0, 0)) :: (mu, ou) :: (mn, on) :: F)) ?_ (fun w hw => hw.sub (List.Sublist.append_left ((List.sublist_cons_self _ _).trans (List.sublist_append_right SH _)) _))
    exact GQ.done1 rfl rfl ⟨B, hB, rfl⟩
  · subst hA
    have het : e ∈ t := hperm.mem_iff.1 (by simp)
    have hez := hz e het
    have her := hr e het
    have hpl := plC_len (p := e.1) hez.1
    have hp2 : ((got ++ [e]) ++ (A ++ D)).Perm t := by
      refine List.Perm.trans ?_ hperm
      simp only [List.append_assoc, List.singleton_append]
      exact (List.perm_middle.symm).append_left got
    have hnx : (got ++ [e]).length ≤ t.length := by have := hp2.length_eq; rw [List.length_append] at this; omega
    have hst := live_app got [e] host now
    have hnn : ∀ (_ : liveK host now e = true), e.1.2 ∉ liveT got host now := fun hk hm => by
      have h1 := live_nodup ((hp2.map Prod.fst).nodup_iff.2 hn) host now
      rw [live_app, live_app, show liveT [e] host now = [e.1.2] by simp [liveT, hk]] at h1
      have h2 := (List.nodup_append.1 (List.nodup_append.1 h1).1).2.2
      exact h2 _ hm _ (by simp) rfl
    repeat' first | refine Y.st ?_ | (refine nw ?_; intro _) | refine Y.kn ?_ | fail
    refine G.rd (Rd.entryM rfl hlast) rfl rfl ?_
    refine G.rd (Rd.extract rfl rfl) rfl rfl ?_
    refine G.rd (Rd.extract rfl rfl) rfl rfl ?_
    refine G.ef rfl rfl rfl (Eff.allocA (cs := plC ([], zeroC)) (fun b8 => ?_))
    refine G.ef rfl rfl rfl (Eff.storeAll (cs := plC ([], zeroC)) (vs := plC e.1) rfl rfl (plC_one _) (by rw [hpl]; rfl) hpl ?_)
    by_cases h1 : e.1.1 = host
    · by_cases h2 : e.2 = 0
      · have hk : liveK host now e = true := by simp [liveK, h1, h2]
        repeat' first | refine Y.st ?_ | (refine nw ?_; intro _) | refine Y.kn ?_ | fail
        refine G.rd (Rd.plCidr rfl rfl hez.1) rfl rfl ?_
        refine G.ef rfl rfl rfl (Eff.callP (first := #[]) (captured := #[]) rfl rfl (H' := SH ++ ((b8, .cells (plC e.1).toArray 201 (0, 0)) :: (r, oi') :: (bt, .cells #[.map (some mu), .map (some mn)] 158 (0, 0)) :: (mu, ou) :: (mn, on) :: F)) (by exact permC) ((cadd_spec hS e.1.2 hez).mono ?_))
        rintro v H' ⟨rfl, SH2, hS2, rfl⟩
        rw [addC_new her (hnn hk)] at hS2
        repeat' first | refine Y.st ?_ | (refine nw ?_; intro _) | refine Y.kn ?_ | fail
        exact GQ.back ⟨(A ++ D, got ++ [e], SH2, oi'), hp2, by rw [hst, show liveT [e] host now = [e.1.2] by simp [liveT, hk]]; exact hS2, hi'⟩ (by simp only [List.length_append, List.length_cons]; omega) ⟨rfl, rfl, rfl, rfl, trivial⟩ (fun w hw => (hw.perm (show (SH2 ++ ((b8, .cells (plC e.1).toArray 201 (0, 0)) :: (r, oi') :: (bt, .cells #[.map (some mu), .map (some mn)] 158 (0, 0)) :: (mu, ou) :: (mn, on) :: F)).Perm ((b8, .cells (plC e.1).toArray 201 (0, 0)) :: (r, oi') :: (SH2 ++ ((bt, .cells #[.map (some mu), .map (some mn)] 158 (0, 0)) :: (mu, ou) :: (mn, on) :: F))) by exact permC)).sub (List.sublist_cons_self _ _))
      · by_cases h3 : now < e.2
        · have hk : liveK host now e = true := by simp [liveK, h1, h3]
          repeat' first | refine Y.st ?_ | (refine nw ?_; intro _) | refine Y.kn ?_ | fail
          refine G.rd (Rd.plCidr rfl rfl hez.1) rfl rfl ?_
          refine G.ef rfl rfl rfl (Eff.callP (first := #[]) (captured := #[]) rfl rfl (H' := SH ++ ((b8, .cells (plC e.1).toArray 201 (0, 0)) :: (r, oi') :: (bt, .cells #[.map (some mu), .map (some mn)] 158 (0, 0)) :: (mu, ou) :: (mn, on) :: F)) (by exact permC) ((cadd_spec hS e.1.2 hez).mono ?_))
          rintro v H' ⟨rfl, SH2, hS2, rfl⟩
          rw [addC_new her (hnn hk)] at hS2
          repeat' first | refine Y.st ?_ | (refine nw ?_; intro _) | refine Y.kn ?_ | fail
          exact GQ.back ⟨(A ++ D, got ++ [e], SH2, oi'), hp2, by rw [hst, show liveT [e] host now = [e.1.2] by simp [liveT, hk]]; exact hS2, hi'⟩ (by simp only [List.length_append, List.length_cons]; omega) ⟨rfl, rfl, rfl, rfl, trivial⟩ (fun w hw => (hw.perm (show (SH2 ++ ((b8, .cells (plC e.1).toArray 201 (0, 0)) :: (r, oi') :: (bt, .cells #[.map (some mu), .map (some mn)] 158 (0, 0)) :: (mu, ou) :: (mn, on) :: F)).Perm ((b8, .cells (plC e.1).toArray 201 (0, 0)) :: (r, oi') :: (SH2 ++ ((bt, .cells #[.map (some mu), .map (some mn)] 158 (0, 0)) :: (mu, ou) :: (mn, on) :: F))) by exact permC)).sub (List.sublist_cons_self _ _))
        · have hk : liveK host now e = false := by simp [liveK, h2, h3]
          repeat' first | refine Y.st ?_ | (refine nw ?_; intro _) | refine Y.kn ?_ | fail
          exact GQ.back ⟨(A ++ D, got ++ [e], SH, oi'), hp2, by rw [hst, show liveT [e] host now = [] by simp [liveT, hk], List.append_nil]; exact hS, hi'⟩ (by simp only [List.length_append, List.length_cons]; omega) ⟨rfl, rfl, rfl, rfl, trivial⟩ (fun w hw => hw.sub (List.sublist_cons_self _ _))
    · have hk : liveK host now e = false := by simp [liveK, h1]
      repeat' first | refine Y.st ?_ | (refine nw ?_; intro _) | refine Y.kn ?_ | fail
      exact GQ.back ⟨(A ++ D, got ++ [e], SH, oi'), hp2, by rw [hst, show liveT [e] host now = [] by simp [liveT, hk], List.append_nil]; exact hS, hi'⟩ (by simp only [List.length_append, List.length_cons]; omega) ⟨rfl, rfl, rfl, rfl, trivial⟩ (fun w hw => hw.sub (List.sublist_cons_self _ _))
theorem hasFn_spec (c : Cd) (hc : SizC c) {a : List UInt8} (ha : a.length = 16) {b6 : Nat} : T Tryz.prog W0 133 #[cdV c, .pointer (some ⟨b6, 0, none⟩)] ((b6, .cells (u8s a).toArray 34 (0, 0)) :: F)
    (fun v H' => v = .bool (hasC c a) ∧ H' = (b6, .cells (u8s a).toArray 34 (0, 0)) :: F) := by
  have hc' : SizC ⟨c.addr, c.bits⟩ := hc
  have hlc := cdC_len hc.1
  refine T.intro (args := [_, _]) Tryz.func133 rfl Tryz.ntmps133 rfl ?_
  repeat' first | refine Y.st ?_ | (refine nw ?_; intro _) | refine Y.kn ?_ | fail
  refine GQ.heap (H' := (b6, .cells (u8s a).toArray 34 (0, 0)) :: F) ?_ (fun w hw => hw.sub (List.sublist_cons_self _ _))
  exact GQ.done1 rfl rfl ⟨rfl, rfl⟩
theorem hasAt_spec {l : List Cd} (hz : ∀ c ∈ l, SizC c) (hl : l.length ≤ 1000000000) {a : List UInt8} (ha : a.length = 16) {b6 : Nat} {p : Option Addr} {c : Nat} (hat : Go.Tri.Lies W0 ((b6, .cells (u8s a).toArray 34 (0, 0)) :: F) p (l.flatMap cdC)) :
    T Tryz.prog W0 174 #[.slice p l.length c, .func (.func 133) #[] #[.pointer (some ⟨b6, 0, none⟩)]] ((b6, .cells (u8s a).toArray 34 (0, 0)) :: F)
    (fun v H' => (∃ i : Int, v = .int .i64 i ∧ decide (0 ≤ i) = l.any (fun c => hasC c a)) ∧ H' = (b6, .cells (u8s a).toArray 34 (0, 0)) :: F) := by
  refine T.intro (args := [_, _]) Tryz.func174 rfl Tryz.ntmps174 rfl ?_
  repeat' first | refine Y.st ?_ | (refine nw ?_; intro _) | refine Y.kn ?_ | fail
  refine GC.loopE (ι := { k : Nat // k ≤ l.length ∧ (l.take k).any (fun c => hasC c a) = false }) (fun i => [(8, .int .i64 (i.1 : Int))]) [(0, _), (1, _), (7, _)] (fun _ => (b6, .cells (u8s a).toArray 34 (0, 0)) :: F) (fun i => l.length - i.1) ⟨0, Nat.zero_le _, by simp⟩ ⟨rfl, rfl, rfl, rfl, trivial⟩ (fun _ h => h) ?_
  rintro ⟨k, hk, hno⟩
  dsimp only at hk hno ⊢
  by_cases hlt : k < l.length
  · obtain ⟨b, o, rfl, a1⟩ := row_get (m := 17) (fun c hc => cdC_len (hz c hc).1) (by omega) hat hlt
    have c1 := a1 k hlt
    have s1 := hz _ (List.getElem_mem hlt)
    have hts := List.take_succ_eq_append_getElem hlt
    repeat' first | refine Y.st ?_ | (refine nw ?_; intro _) | refine Y.kn ?_ | fail
    refine G.rd (Rd.loadAggC rfl c1 (cdC_len s1.1)) rfl rfl ?_
    refine G.ef rfl rfl rfl (Eff.callP (first := #[]) (captured := #[.pointer (some ⟨b6, 0, none⟩)]) rfl rfl (.refl _) ((hasFn_spec l[k] s1 ha).mono ?_))
    rintro v H' ⟨rfl, rfl⟩
    cases hh : hasC l[k] a with
    | true =>
      have hany : l.any (fun c => hasC c a) = true := List.any_eq_true.2 ⟨_, List.getElem_mem hlt, hh⟩
      repeat' first | refine Y.st ?_ | (refine nw ?_; intro _) | refine Y.kn ?_ | fail
      exact GQ.done1 rfl rfl ⟨⟨(k : Int), rfl, by rw [hany, decide_eq_true (by omega)]⟩, rfl⟩
    | false =>
      repeat' first | refine Y.st ?_ | (refine nw ?_; intro _) | refine Y.kn ?_ | fail
      exact GQ.back ⟨k + 1, by omega, by rw [hts, List.any_append, hno]; simp [hh]⟩ (by simp only; omega) ⟨rfl, rfl, rfl, rfl, trivial⟩ (fun w hw => hw)
  obtain rfl : k = l.length := by omega
  rw [List.take_length] at hno
  repeat' first | refine Y.st ?_ | (refine nw ?_; intro _) | refine Y.kn ?_ | fail
  exact GQ.done1 rfl rfl ⟨⟨-1, rfl, by rw [hno]; rfl⟩, rfl⟩
theorem anyHas_spec {l : List Cd} (hz : ∀ c ∈ l, SizC c) (hl : l.length ≤ 1000000000) {a : List UInt8} (ha : a.length = 16) {b6 : Nat} {p : Option Addr} {c : Nat} (hat : Go.Tri.Lies W0 ((b6, .cells (u8s a).toArray 34 (0, 0)) :: F) p (l.flatMap cdC)) :
    T Tryz.prog W0 135 #[.slice p l.length c, .func (.func 133) #[] #[.pointer (some ⟨b6, 0, none⟩)]] ((b6, .cells (u8s a).toArray 34 (0, 0)) :: F)
    (fun v H' => v = .bool (l.any (fun c => hasC c a)) ∧ H' = (b6, .cells (u8s a).toArray 34 (0, 0)) :: F) := by
  refine T.intro (args := [_, _]) Tryz.func135 rfl Tryz.ntmps135 rfl ?_
  repeat' first | refine Y.st ?_ | (refine nw ?_; intro _) | refine Y.kn ?_ | fail
  refine G.ef rfl rfl rfl (Eff.callF rfl ((hasAt_spec hz hl ha hat).mono ?_))
  rintro v H' ⟨⟨i, rfl, hi⟩, rfl⟩
  repeat' first | refine Y.st ?_ | (refine nw ?_; intro _) | refine Y.kn ?_ | fail
  exact GQ.done1 rfl rfl ⟨by rw [hi], rfl⟩
theorem pcheck_spec {t : Tab} {bt : Nat} {TH : Heap} (h : TabQ t bt TH) (hn : (t.map Prod.fst).Nodup) (hr : ∀ e ∈ t, rightC e.1.2 = true) (hz : ∀ e ∈ t, SizC e.1.2) (ht : t.length ≤ 2000000) (host : Lb) (a : List UInt8) (ha : a.length = 16) (now : Int) :
    T Tryz.prog W0 100 #[.pointer (some ⟨bt, 0, none⟩), S host, .agg (u8s a).toArray, .int .i64 now] (TH ++ F) (fun v H' => v = .int .i64 (checkT t host a now) ∧ H' = TH ++ F) := by
  have hll := live_len t host now
  have hle := liveL_len t host now
  have hck := check_sort t host a now
  have hsz : ∀ c ∈ liveL t host now, SizC c := fun c hc => by
    obtain ⟨v, h1, _⟩ := mem_liveL.1 hc
    exact hz _ h1
  refine T.intro (args := [_, _, _, _]) Tryz.func100 rfl Tryz.ntmps100 rfl ?_
  repeat' first | refine Y.st ?_ | (refine nw ?_; intro _) | refine Y.kn ?_ | fail
  rename_i b6
  refine G.ef rfl rfl rfl (Eff.callP (first := #[]) (captured := #[]) rfl rfl (H' := TH ++ ((b6, .cells (u8s a).toArray 34 (0, 0)) :: F)) List.perm_middle.symm ((plive_spec h hn hr hz ht host now).mono ?_))
  rintro v H' ⟨B, hB, rfl⟩
  obtain ⟨p, c, rfl, hc, hl1⟩ := Go.Tri.Buf.see hB
  generalize hL : liveL t host now = L at *
  by_cases h0 : L = []
  · subst h0
    rw [if_pos rfl] at hck
    repeat' first | refine Y.st ?_ | (refine nw ?_; intro _) | refine Y.kn ?_ | fail
    refine GQ.heap (H' := TH ++ F) ?_ (fun w hw => hw.sub ((List.Sublist.append_left (List.sublist_cons_self _ _) TH).trans (List.sublist_append_right B _)))
    exact GQ.done1 rfl rfl ⟨by rw [hck], rfl⟩
  · have hpos := List.length_pos_iff.2 h0
    rw [if_neg h0] at hck
    repeat' first | refine Y.st ?_ | (refine nw ?_; intro _) | refine Y.kn ?_ | fail
    refine G.ef rfl rfl rfl (Eff.callP (first := #[]) (captured := #[]) rfl rfl (H' := (b6, .cells (u8s a).toArray 34 (0, 0)) :: (B ++ (TH ++ F))) (by exact permC) ((anyHas_spec hsz (by omega) ha ((((hl1 W0).app (TH ++ F)).imp (fun _ hφ => hφ.perm List.perm_append_comm)).cons _)).mono ?_))
    rintro v H' ⟨rfl, rfl⟩
    cases hany : L.any (fun c => hasC c a) with
    | true =>
      rw [hany] at hck
      repeat' first | refine Y.st ?_ | (refine nw ?_; intro _) | refine Y.kn ?_ | fail
      refine GQ.heap (H' := TH ++ F) ?_ (fun w hw => hw.sub ((List.sublist_append_right B _).trans (List.sublist_cons_self _ _)))
      exact GQ.done1 rfl rfl ⟨by rw [hck]; rfl, rfl⟩
    | false =>
      rw [hany] at hck
      repeat' first | refine Y.st ?_ | (refine nw ?_; intro _) | refine Y.kn ?_ | fail
      refine GQ.heap (H' := TH ++ F) ?_ (fun w hw => hw.sub ((List.sublist_append_right B _).trans (List.sublist_cons_self _ _)))
      exact GQ.done1 rfl rfl ⟨by rw [hck]; rfl, rfl⟩
end
end Go.Pin
