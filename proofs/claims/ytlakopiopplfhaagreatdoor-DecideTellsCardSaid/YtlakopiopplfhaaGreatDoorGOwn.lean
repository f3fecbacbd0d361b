/-
  MAPS among what is owned: a map's block as a list of keys and values; general laws over any program.
  REGIONS IN WHICH TWO OPERATIONS ACT IN EITHER ORDER: general laws over any program.
  STEPS OF A WALK, with maps: the scripts of OwnZ and some more.
  REGIONS IN WHICH OPERATIONS ACT IN MANY ORDERS, step by step: general laws over any program.
  LOOPS OVER MAPS among what is owned: whichever entry comes; general laws over any program.
  A MAP's ENTRY LAID AND WRITTEN IN TWO STEPS, a map's literal, functions against nil: among what is owned; general laws over any program.
  ROWS OF WHICH NOTHING IS TOLD BUT THEIR SIZE: stores into them. General laws over any program.
-/
import Derived.Test.YtlakopiopplfhaaGreatDoorOwnI
import Derived.Maps.Keyed
import Derived.Test.YtlakopiopplfhaaGreatDoorOwnZ
import Derived.Maps.RangeRun
namespace Go.Own
open Go.MapKept

/-! ### Lists of keys and values -/
section
variable {K V : Type} [DecidableEq K]
def getK : List (K × V) → K → Option V
  | [], _ => none
  | (k, v) :: r, a => if k = a then some v else getK r a
def putK : List (K × V) → K → V → List (K × V)
  | [], a, v => [(a, v)]
  | (k, u) :: r, a, v => if k = a then (a, v) :: r else (k, u) :: putK r a v
theorem getK_putK (l : List (K × V)) (a b : K) (v : V) : getK (putK l a v) b = if a = b then some v else getK l b := by
  induction l with
  | nil => simp [putK, getK]
  | cons p r ih =>
    obtain ⟨k, u⟩ := p
    simp only [putK]
    split
    · rename_i h; subst h
      simp only [getK]
      split <;> simp_all
    · rename_i h
      simp only [getK, ih]
      by_cases h1 : k = b
      · subst h1; simp [Ne.symm h]
      · simp [h1]
theorem keys_putK (l : List (K × V)) (a : K) (v : V) : ∀ k, k ∈ (putK l a v).map Prod.fst ↔ k = a ∨ k ∈ l.map Prod.fst := by
  induction l with
  | nil => intro k; simp [putK]
  | cons p r ih =>
    obtain ⟨k0, u⟩ := p
    intro k
    simp only [putK]
    split
    · rename_i h; subst h; simp
    · simp only [List.map_cons, List.mem_cons, ih]
      constructor
      · rintro (h | h | h) <;> simp [h]
      · rintro (h | h | h) <;> simp [h]
theorem nodup_putK (l : List (K × V)) (a : K) (v : V) (h : (l.map Prod.fst).Nodup) : ((putK l a v).map Prod.fst).Nodup := by
  induction l with
  | nil => simp [putK]
  | cons p r ih =>
    obtain ⟨k, u⟩ := p
    simp only [List.map_cons, List.nodup_cons] at h
    simp only [putK]
    split
    · rename_i he; subst he; simpa using h
    · rename_i he
      simp only [List.map_cons, List.nodup_cons, keys_putK]
      exact ⟨fun h2 => h2.elim he h.1, ih h.2⟩
theorem getK_mem {l : List (K × V)} {a : K} {v : V} (h : getK l a = some v) : (a, v) ∈ l := by
  induction l with
  | nil => simp [getK] at h
  | cons p r ih =>
    obtain ⟨k, u⟩ := p
    simp only [getK] at h
    split at h
    · rename_i he; subst he; cases h; simp
    · exact List.mem_cons_of_mem _ (ih h)
theorem getK_none {l : List (K × V)} {a : K} : getK l a = none ↔ a ∉ l.map Prod.fst := by
  induction l with
  | nil => simp [getK]
  | cons p r ih =>
    obtain ⟨k, u⟩ := p
    simp only [getK, List.map_cons, List.mem_cons]
    split
    · rename_i he; subst he; simp
    · rename_i he; rw [ih]; simp [Ne.symm he]
theorem getK_of_mem {l : List (K × V)} {a : K} {v : V} (hn : (l.map Prod.fst).Nodup) (h : (a, v) ∈ l) : getK l a = some v := by
  induction l with
  | nil => cases h
  | cons p r ih =>
    obtain ⟨k, u⟩ := p
    simp only [List.map_cons, List.nodup_cons] at hn
    simp only [getK]
    rcases List.mem_cons.1 h with h | h
    · cases h; simp
    · have : k ≠ a := by rintro rfl; exact hn.1 (List.mem_map.2 ⟨_, h, rfl⟩)
      rw [if_neg this]; exact ih hn.2 h
theorem putK_new {l : List (K × V)} {a : K} {v : V} (h : a ∉ l.map Prod.fst) : putK l a v = l ++ [(a, v)] := by
  induction l with
  | nil => rfl
  | cons p r ih =>
    obtain ⟨k, u⟩ := p
    simp only [List.map_cons, List.mem_cons, not_or] at h
    simp only [putK, if_neg (Ne.symm h.1), ih h.2, List.cons_append]
theorem putK_at {l : List (K × V)} {a : K} {v u : V} {j : Nat} (hn : (l.map Prod.fst).Nodup) (h : l[j]? = some (a, u)) : putK l a v = l.set j (a, v) := by
  induction l generalizing j with
  | nil => simp at h
  | cons p r ih =>
    obtain ⟨k, u'⟩ := p
    simp only [List.map_cons, List.nodup_cons] at hn
    cases j with
    | zero => simp at h; obtain ⟨rfl, rfl⟩ := h; simp [putK]
    | succ j =>
      simp only [List.getElem?_cons_succ] at h
      have : k ≠ a := by rintro rfl; exact hn.1 (List.mem_map.2 ⟨_, List.mem_of_getElem? h, rfl⟩)
      simp [putK, this, ih hn.2 h]
end

/-! ### A map's block -/
/-- What a key's type must grant. -/
structure KeyLaws (P : Program) (k : TypeId) (ok : Value → Prop) : Prop where
  check : ∀ (w : World) (em : Bool) {v : Value}, ok v → (Instr.checkKey em 10000 k v).run P w = .ok () w
  find : ∀ (w : World) {x : Value}, ok x → ∀ es : List MapEntry, (∀ e ∈ es, ok e.key) →
    ((Instr.findKey k x es).run P w = .ok none w ∧ ∀ e ∈ es, e.key ≠ x) ∨ ∃ j e, (Instr.findKey k x es).run P w = .ok (some (j, e.val)) w ∧ es[j]? = some e ∧ e.key = x
  stays : ∀ (w : World) {v : Value}, ok v → (Instr.keyThatStays v v).run P w = .ok v w
class MapT (P : Program) (t : TypeId) (k e : outParam TypeId) (ok : outParam (Value → Prop)) (z : outParam Value) : Prop where
  under : P.underlying t = some (.map k e)
  laws : KeyLaws P k ok
  zero : ∀ w, (zeroValue e).run P w = .ok z w
def isStr (v : Value) : Prop := ∃ l, v = S l
def isK (P : Program) (k : TypeId) (v : Value) : Prop := ∃ l, keyOf P k v = some l
theorem strLaws {P : Program} {k : TypeId} (h : P.underlying k = some .string) : KeyLaws P k isStr where
  check w em v hv := by obtain ⟨l, rfl⟩ := hv; exact run_checkKey h (d := .string) (k := S l) trivial em 9999
  find w x hx es hes := by
    obtain ⟨l, rfl⟩ := hx
    have hks : ∀ x ∈ es, IsKey .string x.key := fun x hm => by obtain ⟨m, e⟩ := hes x hm; rw [e]; trivial
    rcases findNow_spec (d := .string) (k := S l) trivial es 0 hks with ⟨h1, h2⟩ | ⟨j, e0, h1, h2, h3⟩
    · exact .inl ⟨run_findKey h h1, h2⟩
    · exact .inr ⟨j, e0, by simpa using run_findKey h h1, h2, h3⟩
  stays w v hv := by obtain ⟨l, rfl⟩ := hv; exact run_keyThatStays (d := .string) (k := S l) trivial
theorem keyLaws {P : Program} {k : TypeId} (K : Maps.Keyed P k) : KeyLaws P k (isK P k) where
  check w em v hv := by obtain ⟨l, hl⟩ := hv; exact K.check w em hl
  find w x hx es hes := by obtain ⟨l, hl⟩ := hx; exact K.find w hl es hes
  stays w v hv := by obtain ⟨l, hl⟩ := hv; exact K.stays w hl

/-- A map's block, by its keys and values. -/
structure MapIs {K V : Type} (ok : Value → Prop) (key : K → Value) (val : V → Value) (l : List (K × V)) (o : Obj) : Prop where
  obj : ∃ es clock, o = .map es clock ∧ es.toList.map (fun e => (e.key, e.val)) = l.map (fun p => (key p.1, val p.2)) ∧ (∀ x ∈ es.toList, x.born < clock) ∧ (es.toList.map (·.born)).Nodup
  ok : ∀ p ∈ l, ok (key p.1)
  nodup : (l.map Prod.fst).Nodup
  inj : ∀ a b, key a = key b → a = b
theorem MapIs.empty {K V : Type} {ok : Value → Prop} {key : K → Value} {val : V → Value} (inj : ∀ a b, key a = key b → a = b) : MapIs ok key val ([] : List (K × V)) (.map #[] 0) :=
  ⟨⟨#[], 0, rfl, rfl, by simp, by simp⟩, by simp, by simp, inj⟩

section
variable {P : Program} {W0 : World} {H : Heap} {e : Env} {t ty : TypeId} {x y z : Operand} {R : Value → Heap → Prop} {K V : Type} {ok : Value → Prop} {key : K → Value} {val : V → Value} {l : List (K × V)} {o : Obj} {b : Nat} {a : K} {v : V} {zz : Value} {kt et : TypeId}

theorem map_get {es : Array MapEntry} (h : es.toList.map (fun e => (e.key, e.val)) = l.map (fun p => (key p.1, val p.2))) (hinj : ∀ a b, key a = key b → a = b) {j : Nat} {e0 : MapEntry} (hj : es.toList[j]? = some e0) (hk : e0.key = key a) :
    ∃ u, l[j]? = some (a, u) ∧ e0.val = val u := by
  have h1 := congrArg (fun q => q[j]?) h
  simp only [List.getElem?_map, hj, Option.map_some] at h1
  cases hl : l[j]? with
  | none => simp [hl] at h1
  | some p =>
    obtain ⟨k, u⟩ := p
    simp only [hl, Option.map_some, Option.some.injEq, Prod.mk.injEq] at h1
    have : k = a := hinj _ _ (by rw [← h1.1, hk])
    subst this
    exact ⟨u, rfl, h1.2⟩
theorem map_not {es : Array MapEntry} (h : es.toList.map (fun e => (e.key, e.val)) = l.map (fun p => (key p.1, val p.2))) (hn : ∀ e ∈ es.toList, e.key ≠ key a) : a ∉ l.map Prod.fst := by
  intro hm
  obtain ⟨p, hp, rfl⟩ := List.mem_map.1 hm
  have : (key p.1, val p.2) ∈ es.toList.map (fun e => (e.key, e.val)) := by rw [h]; exact List.mem_map.2 ⟨p, hp, rfl⟩
  obtain ⟨e0, he, hq⟩ := List.mem_map.1 this
  exact hn e0 he (congrArg Prod.fst hq)
theorem map_ok {es : Array MapEntry} (h : es.toList.map (fun e => (e.key, e.val)) = l.map (fun p => (key p.1, val p.2))) (hok : ∀ p ∈ l, ok (key p.1)) : ∀ e ∈ es.toList, ok e.key := by
  intro e0 he
  have : (e0.key, e0.val) ∈ l.map (fun p => (key p.1, val p.2)) := by rw [← h]; exact List.mem_map.2 ⟨e0, he, rfl⟩
  obtain ⟨p, hp, hq⟩ := List.mem_map.1 this
  have h1 : key p.1 = e0.key := congrArg Prod.fst hq
  rw [← h1]
  exact hok p hp
variable [DecidableEq K]
def lookV (val : V → Value) (l : List (K × V)) (a : K) (zz : Value) : Value := match getK l a with | some v => val v | none => zz
theorem run_look [hT : MapT P t kt et ok zz] (hm : MapIs ok key val l o) (hok : ok (key a)) {w : World} (hw : w.heap[b]? = some o) (c : Bool) :
    (Instr.lookup t (.map (some b)) (key a) c).run P w = .ok (if c then .tuple #[lookV val l a zz, .bool (getK l a).isSome] else lookV val l a zz) w := by
  obtain ⟨es, clock, rfl, he, _, _⟩ := hm.obj
  have hks := map_ok he hm.ok
  rcases hT.laws.find w hok es.toList hks with ⟨h1, h2⟩ | ⟨j, e0, h1, h2, h3⟩
  · have h4 := getK_none.2 (map_not he h2)
    cases c <;> simp [Instr.lookup, run_underlying hT.under, MapKept.run_getObj_map hw, hT.laws.check w _ hok, h1, hT.zero, Result.andThen, lookV, h4]
  · obtain ⟨u, hu, hv⟩ := map_get he hm.inj h2 h3
    have h4 := getK_of_mem hm.nodup (List.mem_of_getElem? hu)
    cases c <;> simp [Instr.lookup, run_underlying hT.under, MapKept.run_getObj_map hw, hT.laws.check w _ hok, h1, Result.andThen, lookV, h4, hv]
theorem Rd.look [hT : MapT P t kt et ok zz] (hx : opv e x = some (.map (some b))) (hy : opv e y = some (key a)) [hh : Has H b o] (hm : MapIs ok key val l o) (hok : ok (key a)) :
    Rd P W0 H e (.lookup t x y false) (lookV val l a zz) :=
  fun ρ hρ w hw op hop => by simp [execOp, hop, hρ x _ hx, hρ y _ hy, run_look hm hok (hw.get hh.out)]
theorem Rd.lookOk [hT : MapT P t kt et ok zz] (hx : opv e x = some (.map (some b))) (hy : opv e y = some (key a)) [hh : Has H b o] (hm : MapIs ok key val l o) (hok : ok (key a)) :
    Rd P W0 H e (.lookup t x y true) (.tuple #[lookV val l a zz, .bool (getK l a).isSome]) :=
  fun ρ hρ w hw op hop => by simp [execOp, hop, hρ x _ hx, hρ y _ hy, run_look hm hok (hw.get hh.out)]
/-- A look into no map. -/
theorem Rd.look0 [hT : MapT P t kt et ok zz] {kv : Value} (hx : opv e x = some (.map none)) (hy : opv e y = some kv) (hok : ok kv) : Rd P W0 H e (.lookup t x y false) zz :=
  fun ρ hρ w hw op hop => by
    have hf : (Instr.findKey kt kv []).run P w = .ok none w := by
      rcases hT.laws.find w hok [] (by simp) with ⟨h1, _⟩ | ⟨j, e0, _, h2, _⟩
      · exact h1
      · simp at h2
    simp [execOp, hop, hρ x _ hx, hρ y _ hy, Instr.lookup, run_underlying hT.under, hT.laws.check w _ hok, hf, hT.zero, Result.andThen]
theorem Rd.eqMN {m : Option Nat} {k' e' : TypeId} {t' : TypeId} [hu : UnderT P t (.map k' e')] (hx : opv e x = some (.map m)) (hy : opv e y = some (.map none)) : Rd P W0 H e (.binOp .eql t x y t') (.bool m.isNone) :=
  fun ρ hρ w hw op hop => by
    have h0 : ∀ d : Nat, (Op.equalIn (d + 1) t (.map m) (.map none)).run P w = .ok m.isNone w := fun d => by cases m <;> simp [Op.equalIn, run_underlying hu.out]
    have h : (binOp .eql t (.map m) (.map none)).run P w = .ok (.bool m.isNone) w := by
      simp only [binOp]
      simp [show Op.equal t (.map m) (.map none) = Op.equalIn (9999 + 1) t (.map m) (.map none) from rfl, h0 9999]
    simp [execOp, hop, hρ x _ hx, hρ y _ hy, eqGuard, h]
theorem Rd.eqSN {a : Addr} {n c : Nat} {e' t' : TypeId} [hu : UnderT P t (.slice e')] (hx : opv e x = some (.slice (some a) n c)) (hy : opv e y = some (.slice none 0 0)) : Rd P W0 H e (.binOp .eql t x y t') (.bool false) :=
  fun ρ hρ w hw op hop => by
    have h0 : ∀ d : Nat, (Op.equalIn (d + 1) t (.slice (some a) n c) (.slice none 0 0)).run P w = .ok false w := fun d => by simp [Op.equalIn, run_underlying hu.out]
    have h : (binOp .eql t (.slice (some a) n c) (.slice none 0 0)).run P w = .ok (.bool false) w := by
      simp only [binOp]
      simp [show Op.equal t (.slice (some a) n c) (.slice none 0 0) = Op.equalIn (9999 + 1) t (.slice (some a) n c) (.slice none 0 0) from rfl, h0 9999]
    simp [execOp, hop, hρ x _ hx, hρ y _ hy, eqGuard, h]
theorem Rd.eqSNN {n c : Nat} {e' t' : TypeId} [hu : UnderT P t (.slice e')] (hx : opv e x = some (.slice none n c)) (hy : opv e y = some (.slice none 0 0)) : Rd P W0 H e (.binOp .eql t x y t') (.bool true) :=
  fun ρ hρ w hw op hop => by
    have h0 : ∀ d : Nat, (Op.equalIn (d + 1) t (.slice none n c) (.slice none 0 0)).run P w = .ok true w := fun d => by simp [Op.equalIn, run_underlying hu.out]
    have h : (binOp .eql t (.slice none n c) (.slice none 0 0)).run P w = .ok (.bool true) w := by
      simp only [binOp]
      simp [show Op.equal t (.slice none n c) (.slice none 0 0) = Op.equalIn (9999 + 1) t (.slice none n c) (.slice none 0 0) from rfl, h0 9999]
    simp [execOp, hop, hρ x _ hx, hρ y _ hy, eqGuard, h]
theorem Eff.makeMap (hR : ∀ b, R (.map (some b)) ((b, .map #[] 0) :: H)) : Eff P W0 e H (.makeMap t none) ty R :=
  Eff.val fun ρ hρ w hw op hop _ => ⟨_, _, _, by simp [execOp, hop, Instr.makeMap, Result.andThen], hR _, hw.alloc _⟩
theorem run_update [hT : MapT P t kt et ok zz] (hm : MapIs ok key val l o) (hok : ok (key a)) {w : World} (hw : w.heap[b]? = some o) :
    ∃ o', (Instr.mapUpdate t (.map (some b)) (key a) (val v)).run P w = .ok () { w with heap := w.heap.setIfInBounds b o' } ∧ MapIs ok key val (putK l a v) o' := by
  obtain ⟨es, clock, rfl, he, hb, hbn⟩ := hm.obj
  have hks := map_ok he hm.ok
  have okP : ∀ p ∈ putK l a v, ok (key p.1) := by
    intro p hp
    have : p.1 ∈ (putK l a v).map Prod.fst := List.mem_map.2 ⟨p, hp, rfl⟩
    rcases (keys_putK l a v p.1).1 this with h | h
    · rw [h]; exact hok
    · obtain ⟨q, hq, h2⟩ := List.mem_map.1 h; rw [← h2]; exact hm.ok q hq
  rcases hT.laws.find w hok es.toList hks with ⟨h1, h2⟩ | ⟨j, e0, h1, h2, h3⟩
  · refine ⟨.map (es.push { key := key a, val := val v, born := clock }) (clock + 1), ?_, ⟨⟨_, _, rfl, ?_, ?_, ?_⟩, okP, nodup_putK _ _ _ hm.nodup, hm.inj⟩⟩
    · simp [Instr.mapUpdate, run_underlying hT.under, MapKept.run_getObj_map hw, hT.laws.check w _ hok, h1, MapKept.run_setObj_map _ hw, Result.andThen]
    · rw [putK_new (map_not he h2)]; simp [he]
    · intro q hq
      simp only [Array.toList_push, List.mem_append, List.mem_singleton] at hq
      rcases hq with hq | rfl
      · exact Nat.lt_succ_of_lt (hb q hq)
      · exact Nat.lt_succ_self _
    · simp only [Array.toList_push, List.map_append, List.map_cons, List.map_nil]
      refine List.nodup_append.2 ⟨hbn, by simp, ?_⟩
      intro c hc d hd
      obtain ⟨q, hq, rfl⟩ := List.mem_map.1 hc
      simp only [List.mem_singleton] at hd
      subst hd
      exact Nat.ne_of_lt (hb q hq)
  · obtain ⟨u, hu, hv⟩ := map_get he hm.inj h2 h3
    have hj : es[j]? = some e0 := by simpa using h2
    have hlt : j < es.size := (Array.getElem?_eq_some_iff.1 hj).1
    have hmod : (es.modify j fun e => { e with key := key a, val := val v }).toList = es.toList.set j { e0 with key := key a, val := val v } := by
      apply List.ext_getElem?
      intro i
      simp only [Array.getElem?_toList, Array.getElem?_modify, List.getElem?_set, Array.length_toList]
      by_cases hij : j = i
      · subst hij; rw [if_pos rfl, if_pos rfl, if_pos hlt, hj]; rfl
      · rw [if_neg hij, if_neg hij]
    refine ⟨.map (es.modify j fun e => { e with key := key a, val := val v }) clock, ?_, ⟨⟨_, _, rfl, ?_, ?_, ?_⟩, okP, nodup_putK _ _ _ hm.nodup, hm.inj⟩⟩
    · simp [Instr.mapUpdate, run_underlying hT.under, MapKept.run_getObj_map hw, hT.laws.check w _ hok, h1, MapKept.run_setObj_map _ hw, Result.andThen, hj, h3, hT.laws.stays w hok]
    · rw [putK_at hm.nodup hu, hmod, List.map_set, List.map_set, he]
    · rw [hmod]
      intro q hq
      rcases List.mem_or_eq_of_mem_set hq with hq | rfl
      · exact hb q hq
      · exact hb e0 (List.mem_of_getElem? h2)
    · rw [hmod, List.map_set]
      have : (es.toList.map (·.born)).set j e0.born = es.toList.map (·.born) := by
        apply List.ext_getElem?
        intro i
        simp only [List.getElem?_set, List.getElem?_map, List.length_map, Array.length_toList]
        by_cases hij : j = i
        · subst hij; rw [h2]; simp [hlt]
        · simp [hij]
      rw [this]; exact hbn
theorem Eff.mapPut [hT : MapT P t kt et ok zz] {put : Obj → Heap} (hx : opv e x = some (.map (some b))) (hy : opv e y = some (key a)) (hz : opv e z = some (val v)) [hs : Spot H b o put] (hm : MapIs ok key val l o) (hok : ok (key a))
    (hR : ∀ o', MapIs ok key val (putK l a v) o' → R undef (put o')) : Eff P W0 e H (.mapUpdate t x y z) ty R :=
  Eff.skip fun ρ hρ w hw op hop => by
    obtain ⟨o', h1, h2⟩ := run_update (hT := hT) (b := b) (v := v) hm hok (hs.get hw)
    refine ⟨_, { w with heap := w.heap.setIfInBounds b o' }, by simp [execOp, hop, hρ x _ hx, hρ y _ hy, hρ z _ hz, h1], hR o' h2, ?_⟩
    have hg := heap_set (o' := o') (hs.get hw)
    exact hs.set hw hg.1 (fun k hk => hg.2 k hk) (by simp) rfl rfl rfl
end
end Go.Own

namespace Go.Own
open Go.RowKit

open Classical in
/-- A permutation of heaps, by counting. -/
theorem permC {H H' : Heap} (h : ∀ a, List.count a H = List.count a H' := by
    intro a; simp only [List.count_append, List.count_cons, List.count_nil]; try omega) : H.Perm H' := List.perm_iff_count.2 h
def headIs (i : Nat) (alt : List (Nat × Kind)) : Bool := match alt with | x :: _ => x.1 == i | [] => false
def okAlt (ops : Array Oper) (listed : Array Bool) (alt : List (Nat × Kind)) : Bool := match alt with
  | (i, k) :: r => (k != .read) && okS ops r (listed.setIfInBounds i true)
  | [] => false
/-- Reads first; then whichever of the others comes up. -/
def okF (ops : Array Oper) (alts : List (List (Nat × Kind))) : List (Nat × Kind) → Array Bool → Bool
  | [], listed => !(Region.ready .any ops listed).isEmpty && ((Region.ready .any ops listed).all fun i => alts.any (headIs i)) && alts.all (okAlt ops listed)
  | (i, .read) :: r, listed => Region.free .any ops listed i && (Region.ready .any ops listed).contains i && (alts.all fun alt => alt.all fun x => (x.2 != .tail) || anc ops ops.size x.1 i) && okF ops alts r (listed.setIfInBounds i true)
  | _ :: _, _ => false

theorem okF_none {ops : Array Oper} : ∀ (r : List (Nat × Kind)) (ls : Array Bool), okF ops [] r ls = true → False
  | [], ls, hk => by
    simp only [okF, Bool.and_eq_true, List.any_nil] at hk
    cases hq : Region.ready .any ops ls with
    | nil => rw [hq] at hk; simp at hk
    | cons y ys => rw [hq] at hk; simp at hk
  | (q, .read) :: r, ls, hk => by simp only [okF, Bool.and_eq_true] at hk; exact okF_none r _ hk.2
  | (q, .eff) :: r, ls, hk => by simp [okF] at hk
  | (q, .tail) :: r, ls, hk => by simp [okF] at hk
/-- What only reads, one behind the other, in every world of S. -/
def wpReads (P : Program) (ops : Array Oper) (S : World → Prop) (Q : Act → World → Prop) : List (Kind × Oper) → Act → World → Prop
  | [], a, w => Q a w
  | (_, o) :: r, a, w => if Region.wanted o (yielded ops a.tmps) then ∃ v, S w ∧ (∀ w', S w' → (execOp a.eval o).run P w' = .ok (.value v) w') ∧ wpReads P ops S Q r (a.put o.dst v) w
    else S w ∧ wpReads P ops S Q r (a.put o.dst undef) w
section
variable {P : Program} {ops : Array Oper} {Q : Act → World → Prop}
theorem wpAnyT_of_fork (hs : Region.noSelect ops = true) (tl : Nat → Bool) (alts : List (List (Nat × Kind))) (len : Nat) (hlen : ∀ alt ∈ alts, alt.length = len + 1)
    (hT : ∀ alt ∈ alts, (∀ x ∈ alt, x.2 = .tail → tl x.1 = true) ∧ (∀ x ∈ alt, x.2 ≠ .tail → tl x.1 = false) ∧ (∀ j, tl j = true → ∃ x ∈ alt, x.1 = j ∧ x.2 = .tail)) {S : World → Prop} :
    ∀ (l : List (Nat × Kind)) (listed : Array Bool) (a : Act) (w : World), Closed ops listed → okF ops alts l listed = true →
      wpReads P ops S (fun a w => ∀ alt ∈ alts, wpSched P ops S Q (pickOps ops alt) a w) (pickOps ops l) a w → wpAnyT P ops S tl Q (l.length + (len + 1)) listed a w
  | [], listed, a, w, inv, hB, h => by
    simp only [okF, Bool.and_eq_true] at hB
    obtain ⟨⟨hne, hall⟩, hok⟩ := hB
    rw [List.length_nil, Nat.zero_add]
    refine ⟨fun h0 => by rw [h0] at hne; simp at hne, fun i hi => ?_⟩
    obtain ⟨alt, halt, hhd⟩ := List.any_eq_true.1 (List.all_eq_true.1 hall i hi)
    have hok1 := List.all_eq_true.1 hok alt halt
    have h1 : wpSched P ops S Q (pickOps ops alt) a w := h alt halt
    obtain ⟨t1, t2, t3⟩ := hT alt halt
    have hl := hlen alt halt
    cases alt with
    | nil => simp at hl
    | cons x r =>
      obtain ⟨j, k⟩ := x
      have hji : j = i := by simpa [headIs] using hhd
      subst hji
      simp only [okAlt, Bool.and_eq_true] at hok1
      obtain ⟨o, ho⟩ := ready_some hi
      simp only [List.length_cons, Nat.add_right_cancel_iff] at hl
      obtain ⟨S', hSS, h1⟩ : ∃ S' : World → Prop, (∀ w, S' w → S w) ∧ _ := h1
      simp only [ho, Option.getD_some] at h1
      have hmap : List.map (fun x : Nat × Kind => (x.2, ops[x.1]?.getD default)) r = pickOps ops r := rfl
      rw [hmap] at h1
      have htail : ∀ j', tl j' = true → (listed.setIfInBounds j true).getD j' true = false → ∃ x ∈ r, x.1 = j' ∧ x.2 = .tail := by
        intro j' hj' hun
        have hij : j ≠ j' := by
          rintro rfl
          have hlt : j < listed.size := by rw [inv.size]; exact (Array.getElem?_eq_some_iff.1 ho).1
          simp [hlt] at hun
        obtain ⟨x, hx, h3, h4⟩ := t3 j' hj'
        rcases List.mem_cons.1 hx with rfl | hx
        · exact absurd h3 hij
        · exact ⟨x, hx, h3, h4⟩
      have ih : ∀ (a' : Act) (w' : World), wpSched P ops S' Q (pickOps ops r) a' w' → wpAnyT P ops S' tl Q len (listed.setIfInBounds j true) a' w' := fun a' w' hh => by
        rw [← hl]
        exact wpAnyT_of_sched hs tl r S' _ a' w' (inv.set hi) (fun x hx => t1 x (List.mem_cons_of_mem _ hx)) (fun x hx => t2 x (List.mem_cons_of_mem _ hx)) htail hok1.2 hh
      suffices h2 : wpOp P ops noQ j (fun a' w' => (tl j = false → S' w') ∧ wpAnyT P ops S' tl Q len (listed.setIfInBounds j true) a' w') a w from wpOp_mono (fun a' w' h' => ⟨fun ht => hSS w' (h'.1 ht), wpAnyT_weak hSS _ _ _ _ h'.2⟩) h2
      cases k with
      | read => simp at hok1
      | eff =>
        unfold wpOp
        simp only [ho]
        split at h1
        · rename_i hw
          rw [if_pos hw]
          exact .inl (Oper.wp_mono (fun a' w' h' => ⟨fun _ => h'.1, ih _ _ h'.2⟩) h1)
        · rename_i hw
          rw [if_neg hw]
          exact ⟨fun _ => h1.1 (by simp), ih _ _ h1.2⟩
      | tail =>
        have htt : tl j = true := t1 (j, .tail) (by simp) rfl
        unfold wpOp
        simp only [ho]
        split at h1
        · rename_i hw
          rw [if_pos hw]
          exact .inl (Oper.wp_mono (fun a' w' h' => ⟨fun hf => (by rw [htt] at hf; cases hf), ih _ _ h'⟩) h1)
        · rename_i hw
          rw [if_neg hw]
          exact ⟨fun hf => (by rw [htt] at hf; cases hf), ih _ _ h1.2⟩
  | (i, .eff) :: r, listed, a, w, _, hB, _ => by simp [okF] at hB
  | (i, .tail) :: r, listed, a, w, _, hB, _ => by simp [okF] at hB
  | (i, .read) :: r, listed, a, w, inv, hB, h => by
    simp only [okF, Bool.and_eq_true] at hB
    have hr : i ∈ Region.ready .any ops listed := by simpa using hB.1.1.2
    obtain ⟨o, ho⟩ := ready_some hr
    simp only [pickOps, List.map_cons, wpReads, ho, Option.getD_some] at h
    have hmap : List.map (fun x : Nat × Kind => (x.2, ops[x.1]?.getD default)) r = pickOps ops r := rfl
    rw [hmap] at h
    have htl : ∀ j, tl j = true → listed.getD j true = false → anc ops ops.size j i = true := by
      intro j hj hun
      cases ha : alts with
      | nil =>
        exfalso
        rw [ha] at hB
        exact okF_none r _ hB.2
      | cons alt rest =>
        have halt : alt ∈ alts := by rw [ha]; simp
        obtain ⟨x, hx, h1, h2⟩ := (hT alt halt).2.2 j hj
        have := List.all_eq_true.1 (List.all_eq_true.1 hB.1.2 alt halt) x hx
        simpa [h1, h2] using this
    have hfuel : ((i, Kind.read) :: r).length + (len + 1) = (r.length + (len + 1)) + 1 := by simp; omega
    rw [hfuel]
    split at h
    · rename_i hw
      obtain ⟨v, hS, hv, h⟩ := h
      exact wpAnyT_first ho (Region.noSelect_spec hs) _ listed a w inv htl (Region.free_spec ho hB.1.1.1) hr (.inl ⟨hw, hv⟩) hS (wpAnyT_of_fork hs tl alts len hlen hT r _ _ w (inv.set hr) hB.2 h)
    · rename_i hw
      exact wpAnyT_first ho (Region.noSelect_spec hs) _ listed a w inv htl (Region.free_spec ho hB.1.1.1) hr (.inr ⟨by simpa using hw, rfl⟩) h.1 (wpAnyT_of_fork hs tl alts len hlen hT r _ _ w (inv.set hr) hB.2 h.2)
/-- The whole look, for one closed fact. -/
def okForks (ops : Array Oper) (l : List (Nat × Kind)) (alts : List (List (Nat × Kind))) (len : Nat) (ts : List Nat) : Bool :=
  Region.noSelect ops && okF ops alts l (Array.replicate ops.size false) && decide (l.length + (len + 1) = ops.size) &&
    alts.all fun alt => decide (alt.length = len + 1) && (alt.all fun x => ts.contains x.1 == (x.2 == .tail)) && ts.all fun j => alt.any fun x => x.1 == j && x.2 == .tail
theorem wp_region_forks {id : Nat} {S : World → Prop} {Qx : Exit → Act → World → Prop} {a : Act} {w : World} (l : List (Nat × Kind)) (alts : List (List (Nat × Kind))) (len : Nat) (ts : List Nat) (hm : P.follows .mixedOrders = true)
    (hB : okForks ops l alts len ts = true) (h : wpReads P ops S (fun a w => ∀ alt ∈ alts, wpSched P ops S (Qx .normal) (pickOps ops alt) a w) (pickOps ops l) a { w with drawn := w.drawn + 1 }) : (Code.region id ops true).wp P Qx a w := by
  simp only [okForks, Bool.and_eq_true, decide_eq_true_eq] at hB
  obtain ⟨⟨⟨h1, h2⟩, h3⟩, h4⟩ := hB
  refine wp_region_any hm ?_
  have hT : ∀ alt ∈ alts, alt.length = len + 1 ∧ (∀ x ∈ alt, x.2 = .tail → ts.contains x.1 = true) ∧ (∀ x ∈ alt, x.2 ≠ .tail → ts.contains x.1 = false) ∧ (∀ j, ts.contains j = true → ∃ x ∈ alt, x.1 = j ∧ x.2 = .tail) := by
    intro alt halt
    have := List.all_eq_true.1 h4 alt halt
    simp only [Bool.and_eq_true, decide_eq_true_eq] at this
    obtain ⟨⟨e1, e2⟩, e3⟩ := this
    refine ⟨e1, fun x hx e => ?_, fun x hx e => ?_, fun j hj => ?_⟩
    · have := List.all_eq_true.1 e2 x hx
      simpa [e] using this
    · have := List.all_eq_true.1 e2 x hx
      have hne : (x.2 == Kind.tail) = false := by simpa using e
      rw [hne] at this
      simpa using this
    · have := List.all_eq_true.1 e3 j (by simpa using hj)
      obtain ⟨x, hx, h5⟩ := List.any_eq_true.1 this
      simp only [Bool.and_eq_true, beq_iff_eq] at h5
      exact ⟨x, hx, h5.1, h5.2⟩
  have key := wpAnyT_of_fork h1 (fun j => ts.contains j) alts len (fun alt ha => (hT alt ha).1) (fun alt ha => (hT alt ha).2) l _ a _ (Closed.start ops) h2 h
  rw [h3] at key
  exact wpAny_of_T _ _ _ _ key
end
/-- What only reads, told of slots and of memory. -/
def GR [Marks] (P : Program) (ops : Array Oper) (n : Nat) (W0 : World) (Hs : Heap) (Q : Act → World → Prop) (l : List (Kind × Oper)) (e : Env) (H : Heap) : Prop :=
  ∀ a w, Fits n e a → Own W0 H w → wpReads P ops (Own W0 Hs) Q l a w
section
variable {P : Program} {ops : Array Oper} {n : Nat} {W0 : World} {H : Heap} {Q : Act → World → Prop} {Qx : Exit → Act → World → Prop} {l : List (Kind × Oper)} {e : Env} {k : Kind} {op : Op} {ty : TypeId} {pos : String} {aft : Array Edge} {d : Nat} {v : Value} {g : Option (Nat × Bool)}
theorem GR.rd [Marks] (hr : Rd P W0 H e op v) (hg : gv ops e g = some true) (hd : Nat.blt d n = true) (h : GR P ops n W0 H Q l ((d, v) :: e) H) : GR P ops n W0 H Q ((k, ⟨some d, op, ty, pos, aft, g⟩) :: l) e H := by
  intro a w hf ho
  simp only [wpReads]
  rw [if_pos (gv_wanted hf hg)]
  exact ⟨v, ho, fun w' hw' => hr _ hf.ev w' hw' _ rfl, h _ _ (hf.put hd v) ho⟩
/-- An acting operation behind which reading goes on, whatever the order in which what is owned is told. -/
theorem G.eeP [Marks] {Hs : Heap} {dst : Option Nat} {Qy : Exit → Act → World → Prop} (hk : k = .eff) (hg : gv ops e g = some true) (hd : dst.all (Nat.blt · n) = true) (he : Eff P W0 e H op ty (fun v H' => (∀ w, Own W0 H' w → Own W0 Hs w) ∧ G P ops n W0 Hs Qy l (putE dst v e) H')) :
    G P ops n W0 Hs Qy ((k, ⟨dst, op, ty, pos, aft, g⟩) :: l) e H := by
  subst hk
  intro a w hf ho
  refine ⟨_, fun _ h => h, ?_⟩
  rw [if_pos (gv_wanted hf hg)]
  exact he a w hf.ev ho _ rfl rfl _ (fun v H' w' hG ho' => ⟨hG.1 _ ho', hG.2 _ _ (hf.putE hd v) ho'⟩)
theorem GR.nil [Marks] (h : ∀ a w, Fits n e a → Own W0 H w → Q a w) : GR P ops n W0 H Q [] e H := h
theorem GC.forks [Marks] {i : Nat} {A B : List (Kind × Oper)} {L : List (Kind × Oper)} (s : List (Nat × Kind)) (sa sb : List (Nat × Kind)) (len : Nat) (ts : List Nat) (hm : P.follows .mixedOrders = true) (hB : okForks ops s [sa, sb] len ts = true)
    (hL : pickOps ops s = L) (hA : pickOps ops sa = A) (hb : pickOps ops sb = B)
    (h : GR P ops n W0 H (fun a w => ∀ alt ∈ [A, B], wpSched P ops (Own W0 H) (Qx .normal) alt a w) L e H) : GC P n W0 (.region i ops true) Qx e H :=
  fun a w hf ho => wp_region_forks s [sa, sb] len ts hm hB (by
    rw [hL]
    have h1 := h a _ hf (ho.drawn (w.drawn + 1) (Nat.le_succ _))
    simpa [hA, hb] using h1)
theorem forks_end [Marks] {A B : List (Kind × Oper)} (h1 : G P ops n W0 H Qx A e H) (h2 : G P ops n W0 H Qx B e H) : GR P ops n W0 H (fun a w => ∀ alt ∈ [A, B], wpSched P ops (Own W0 H) (Qx .normal) alt a w) [] e H := by
  intro a w hf ho alt halt
  simp only [List.mem_cons, List.not_mem_nil, or_false] at halt
  rcases halt with rfl | rfl
  · exact h1 a w hf ho
  · exact h2 a w hf ho
end
section
variable {P : Program} {W0 : World} {H : Heap} {e : Env} {t ty : TypeId} {x y : Operand} {R : Value → Heap → Prop}
theorem Rd.loadAggC {b o size : Nat} {cs : List Value} [ht : AggT P t size] (hx : opv e x = some (.pointer (some ⟨b, o, none⟩))) (hc : ∀ w, Own W0 H w → CellsAt w b o cs) (hl : cs.length = size) : Rd P W0 H e (.load t x) (.agg cs.toArray) := Rd.loadAgg hx hl hc
/-- A store of a struct that stands in the open, over the whole of its block. -/
theorem Eff.storeLit {bk : Nat} {cs vs : Array Value} {el : TypeId} {put : Obj → Heap} {size : Nat} (hx : opv e x = some (.pointer (some ⟨bk, 0, none⟩))) (hy : opv e y = some (.agg vs)) [ht : AggT P t size] [hs : Spot H bk (.cells cs el (0, 0)) put]
    (h1 : vs.toList.all (fun u => u.oneCell') = true) (hl : vs.size = cs.size) (hsz : vs.size = size) (hR : R undef (put (.cells vs el (0, 0)))) : Eff P W0 e H (.store t x y) ty R :=
  Eff.storeAll (cs := cs.toList) (vs := vs.toList) (hs := hs) hx hy (fun u hu => List.all_eq_true.1 h1 u hu) (by simpa using hl) (by simpa using hsz) hR
end
section
variable {P : Program} {n : Nat} {W0 : World} {H : Heap} {e : Env} {v v' v'' : Value}
theorem GQ.res3h {fn : Func} {R : Value → Heap → Prop} {r r' r'' : ResultVar} (hr : fn.results = #[r, r', r'']) (h1 : RvIs P W0 e H r v) (h2 : RvIs P W0 e H r' v') (h3 : RvIs P W0 e H r'' v'') (H2 : Heap) (hp : ∀ w, Own W0 H w → Own W0 H2 w) (h : R (.tuple #[v, v', v'']) H2) :
    GQ n W0 .ret (bodyPost P fn (fun x w' => ∃ v H', x = .returned v ∧ R v H' ∧ Own W0 H' w')) e H := by
  intro a w hf ho
  have g1 := h1 n a w hf ho
  have g2 := h2 n a w hf ho
  have g3 := h3 n a w hf ho
  refine ⟨hf.defers, _, ?_, _, H2, rfl, h, hp w ho⟩
  rw [results_eq, hr]
  simp [g1, g2, g3]
end
end Go.Own

namespace Go.Own.Y
open Go.Own Go.RowKit
/-- One plain step or more. -/
theorem st {A B : Prop} (h : B) (hab : Box B → A := by
    intro hZq
    first | (refine G.anyOp ?_; first | (refine G.isGuarded ?_; first | refine G.skip rfl rfl ?_ | refine G.skip_eff rfl rfl ?_) | refine G.rd (Rd.assign rfl) rfl rfl ?_ | refine G.rd (Rd.move rfl) rfl rfl ?_ | refine G.rd (Rd.nilCheck rfl) rfl rfl ?_ | refine G.rd (Rd.fieldAddr rfl) rfl rfl ?_ | refine G.rd (Rd.load rfl (by assumption)) rfl rfl ?_ | refine G.rd (Rd.loadAggC rfl (by assumption) (by rfl)) rfl rfl ?_ | refine G.rd (Rd.load rfl (cellH (by assumption))) rfl rfl ?_ | refine G.rd (Rd.load rfl (cellN rfl)) rfl rfl ?_ | refine G.rd (Rd.load rfl (cellH rfl)) rfl rfl ?_ | refine G.rd (Rd.part rfl rfl) rfl rfl ?_ | refine G.rd (Rd.makeFunc rfl rfl) rfl rfl ?_ | refine G.rd (Rd.indexN rfl rfl (by omega)) rfl rfl ?_ | refine G.rd (Rd.indexArrN rfl rfl (by omega)) rfl rfl ?_ | refine G.rd (Rd.indexAddr rfl rfl (by omega) (by omega)) rfl rfl ?_ | refine G.rd (Rd.load rfl (cellH (Go.Adr.cell_strs _ _ (by first | assumption | omega)))) rfl rfl ?_ | refine G.rd (Rd.load rfl (cellH (Go.Adr.cell_a _ _ (by first | assumption | omega)))) rfl rfl ?_ | refine G.rd (Rd.idxSN rfl rfl (by omega)) rfl rfl ?_ | refine G.rd (Rd.idxS rfl rfl (by omega) (by omega)) rfl rfl ?_ | refine G.rd (Rd.cutSL rfl rfl (by omega)) rfl rfl ?_ | refine G.rd (Rd.cutSH rfl rfl (by omega)) rfl rfl ?_ | refine G.rd (Rd.cutSLH rfl rfl rfl (by omega) (by omega)) rfl rfl ?_ | refine G.rd (Rd.load rfl (cellH (Go.Adr.strs_cell _ _ _ (by first | assumption | omega)))) rfl rfl ?_ | refine G.rd (Rd.load rfl (cellH (cell_u8s _ _ _ (by first | assumption | omega)))) rfl rfl ?_ | refine G.rd (Rd.loadBlk rfl (by first | rfl | assumption | (simp only [u8s_length]; first | rfl | assumption | omega | exact Go.Adr.addr_len _))) rfl rfl ?_ | refine G.rd (Rd.slArr rfl (by omega)) rfl rfl ?_ | (refine G.isBin .add ?_; first | refine G.rd (Rd.add rfl rfl (IntWalk.i64_in _ (by omega))) rfl rfl ?_ | refine G.rd (Rd.add rfl rfl (IntWalk.u8_in _ (by omega))) rfl rfl ?_ | refine G.rd (Rd.cat rfl rfl (by first | omega | (simp only [List.length_append, List.length_cons, List.length_nil, List.length_take, List.length_drop, List.length_map, List.length_replicate]; omega))) rfl rfl ?_) | (refine G.isBin .sub ?_; first | refine G.rd (Rd.sub rfl rfl (IntWalk.i64_in _ (by omega))) rfl rfl ?_ | refine G.rd (Rd.sub rfl rfl (IntWalk.u8_in _ (by omega))) rfl rfl ?_) | (refine G.isBin .quo ?_; refine G.rd (Rd.quoN rfl rfl (by omega) (by omega)) rfl rfl ?_) | (refine G.isBin .rem ?_; refine G.rd (Rd.remN rfl rfl (by omega)) rfl rfl ?_) | (refine G.isBin .mul ?_; first | refine G.rd (Rd.mul rfl rfl (IntWalk.i64_in _ (by omega))) rfl rfl ?_) | (refine G.isBin .eql ?_; first | refine G.rd (Rd.eqlT rfl rfl (by omega)) rfl rfl ?_ | refine G.rd (Rd.eqlF rfl rfl (by omega)) rfl rfl ?_ | refine G.rd (Rd.eql rfl rfl) rfl rfl ?_ | refine G.rd (Rd.eqlST rfl rfl (by first | rfl | assumption | decide)) rfl rfl ?_ | refine G.rd (Rd.eqlSF rfl rfl (by first | assumption | decide)) rfl rfl ?_ | refine G.rd (Rd.eqlS rfl rfl) rfl rfl ?_ | refine G.rd (Rd.eqPN rfl rfl) rfl rfl ?_ | refine G.rd (Rd.eqMN rfl rfl) rfl rfl ?_ | refine G.rd (Rd.eqSN rfl rfl) rfl rfl ?_ | refine G.rd (Rd.eqSNN rfl rfl) rfl rfl ?_) | (refine G.isBin .neq ?_; first | refine G.rd (Rd.neqT rfl rfl (by omega)) rfl rfl ?_ | refine G.rd (Rd.neqF rfl rfl (by omega)) rfl rfl ?_ | refine G.rd (Rd.neq rfl rfl) rfl rfl ?_ | refine G.rd (Rd.neqST rfl rfl (by first | assumption | decide)) rfl rfl ?_ | refine G.rd (Rd.neqSF rfl rfl (by first | rfl | assumption | decide)) rfl rfl ?_ | refine G.rd (Rd.neqS rfl rfl) rfl rfl ?_ | refine G.rd (Rd.nePN rfl rfl) rfl rfl ?_) | (refine G.isBin .lss ?_; first | refine G.rd (Rd.lssT rfl rfl (by omega)) rfl rfl ?_ | refine G.rd (Rd.lssF rfl rfl (by omega)) rfl rfl ?_ | refine G.rd (Rd.lss rfl rfl) rfl rfl ?_) | (refine G.isBin .leq ?_; first | refine G.rd (Rd.leqT rfl rfl (by omega)) rfl rfl ?_ | refine G.rd (Rd.leqF rfl rfl (by omega)) rfl rfl ?_ | refine G.rd (Rd.leq rfl rfl) rfl rfl ?_) | (refine G.isBin .gtr ?_; first | refine G.rd (Rd.gtrT rfl rfl (by omega)) rfl rfl ?_ | refine G.rd (Rd.gtrF rfl rfl (by omega)) rfl rfl ?_ | refine G.rd (Rd.gtr rfl rfl) rfl rfl ?_) | (refine G.isBin .geq ?_; first | refine G.rd (Rd.geqT rfl rfl (by omega)) rfl rfl ?_ | refine G.rd (Rd.geqF rfl rfl (by omega)) rfl rfl ?_ | refine G.rd (Rd.geq rfl rfl) rfl rfl ?_) | (refine G.isConv ?_; first | refine G.rd (Rd.conv rfl (IntWalk.i64_in _ (by omega))) rfl rfl ?_ | refine G.rd (Rd.conv rfl (IntWalk.u8_in _ (by omega))) rfl rfl ?_ | refine G.rd (Rd.strW rfl (by first | rfl | (simp; done) | (simp only [List.length_take, List.length_drop]; omega))) rfl rfl ?_ | refine G.ee rfl rfl rfl (Eff.rd (Rd.strW rfl (by first | rfl | (simp; done) | (simp only [List.length_take, List.length_drop]; omega))) ⟨inferInstance, ?_⟩) | refine G.ef rfl rfl rfl (Eff.rd (Rd.strW rfl (by first | rfl | (simp; done) | (simp only [List.length_take, List.length_drop]; omega))) ?_)) | (refine G.isPick ?_; first | refine G.rd (Rd.pickT rfl rfl) rfl rfl ?_ | refine G.rd (Rd.pickF rfl rfl) rfl rfl ?_ | refine G.rd (Rd.pickAnd rfl rfl rfl) rfl rfl ?_ | refine G.rd (Rd.pickOr rfl rfl rfl) rfl rfl ?_) | (refine G.isCall ?_; first | refine G.rd (Rd.lenV rfl) rfl rfl ?_ | refine G.rd (Rd.lenS rfl) rfl rfl ?_ | refine G.rd (Rd.min2 rfl rfl) rfl rfl ?_ | refine G.rd (Rd.max2 rfl rfl) rfl rfl ?_) | refine G.rd (Rd.not rfl) rfl rfl ?_ | (refine G.isCall ?_; first | refine G.ef rfl rfl rfl (Eff.callPure rfl (by first | omega | assumption | decide | (simp only [List.length_map, List.length_append, List.length_cons, List.length_nil, List.length_take, List.length_drop, List.length_replicate, List.length_reverse]; omega) | exact ⟨by first | assumption | omega, by first | assumption | omega⟩ | exact trivial) ?_) | refine G.ee rfl rfl rfl (Eff.callPure rfl (by first | omega | assumption | decide | (simp only [List.length_map, List.length_append, List.length_cons, List.length_nil, List.length_take, List.length_drop, List.length_replicate, List.length_reverse]; omega) | exact ⟨by first | assumption | omega, by first | assumption | omega⟩ | exact trivial) ⟨inferInstance, ?_⟩)) | refine G.ef rfl rfl rfl (Eff.storeLit rfl rfl (by rfl) (by rfl) (by rfl) ?_) | refine G.ef rfl rfl rfl (Eff.storeU rfl rfl (by first | assumption | omega | (simp only [List.length_append, List.length_map, List.length_take, List.length_drop, List.length_replicate, List.length_cons, List.length_nil, List.length_set]; omega) | decide) ?_) | refine G.ef rfl rfl rfl (Eff.storeUx rfl rfl (by first | assumption | omega | (simp only [List.length_append, List.length_map, List.length_take, List.length_drop, List.length_replicate, List.length_cons, List.length_nil, List.length_set]; omega) | decide) (by first | (simp [Fz]; done) | (simp only [Fz]; omega)) ?_) | refine G.ef rfl rfl rfl (Eff.storeAll rfl rfl (by first | exact u8s_one _ | (intro u hu; simp at hu; done)) (by first | rfl | (simp only [u8s_length]; first | rfl | assumption | omega | exact Go.Adr.addr_len _)) (by first | rfl | (simp only [u8s_length]; first | rfl | assumption | omega | exact Go.Adr.addr_len _)) ?_) | refine G.ef rfl rfl rfl (Eff.store rfl rfl rfl (by first | (simp; done) | (simp only [List.size_toArray, Go.Asc.strs_length, List.length_append, List.length_map, List.length_take, List.length_drop]; omega) | (simp only [List.size_toArray, u8s_length, List.length_append, List.length_map, List.length_take, List.length_drop, List.length_replicate]; omega)) (by first | (simp [Fz]; done) | (simp only [Fz]; omega)) ?_)) | refine GC.seq ?_ | refine GC.region ?_ | refine G.nil ?_ | refine GQ.then ?_ | refine GQ.thenRet ?_ | refine GC.block ?_ | refine GC.ret ?_ | refine GQ.inBlock ?_ | refine GQ.inBlockRet ?_ | refine GC.skip ?_ | refine GC.label ?_ | refine GC.condT rfl ?_ | refine GC.condF rfl ?_ | refine GC.exit ?_ | refine GQ.thenExit ?_ | refine GQ.inBlockHit rfl ?_ | refine GQ.inBlockMiss rfl ?_
    repeat (first | (refine G.anyOp ?_; first | (refine G.isGuarded ?_; first | refine G.skip rfl rfl ?_ | refine G.skip_eff rfl rfl ?_) | refine G.rd (Rd.assign rfl) rfl rfl ?_ | refine G.rd (Rd.move rfl) rfl rfl ?_ | refine G.rd (Rd.nilCheck rfl) rfl rfl ?_ | refine G.rd (Rd.fieldAddr rfl) rfl rfl ?_ | refine G.rd (Rd.load rfl (by assumption)) rfl rfl ?_ | refine G.rd (Rd.loadAggC rfl (by assumption) (by rfl)) rfl rfl ?_ | refine G.rd (Rd.load rfl (cellH (by assumption))) rfl rfl ?_ | refine G.rd (Rd.load rfl (cellN rfl)) rfl rfl ?_ | refine G.rd (Rd.load rfl (cellH rfl)) rfl rfl ?_ | refine G.rd (Rd.part rfl rfl) rfl rfl ?_ | refine G.rd (Rd.makeFunc rfl rfl) rfl rfl ?_ | refine G.rd (Rd.indexN rfl rfl (by omega)) rfl rfl ?_ | refine G.rd (Rd.indexArrN rfl rfl (by omega)) rfl rfl ?_ | refine G.rd (Rd.indexAddr rfl rfl (by omega) (by omega)) rfl rfl ?_ | refine G.rd (Rd.load rfl (cellH (Go.Adr.cell_strs _ _ (by first | assumption | omega)))) rfl rfl ?_ | refine G.rd (Rd.load rfl (cellH (Go.Adr.cell_a _ _ (by first | assumption | omega)))) rfl rfl ?_ | refine G.rd (Rd.idxSN rfl rfl (by omega)) rfl rfl ?_ | refine G.rd (Rd.idxS rfl rfl (by omega) (by omega)) rfl rfl ?_ | refine G.rd (Rd.cutSL rfl rfl (by omega)) rfl rfl ?_ | refine G.rd (Rd.cutSH rfl rfl (by omega)) rfl rfl ?_ | refine G.rd (Rd.cutSLH rfl rfl rfl (by omega) (by omega)) rfl rfl ?_ | refine G.rd (Rd.load rfl (cellH (Go.Adr.strs_cell _ _ _ (by first | assumption | omega)))) rfl rfl ?_ | refine G.rd (Rd.load rfl (cellH (cell_u8s _ _ _ (by first | assumption | omega)))) rfl rfl ?_ | refine G.rd (Rd.loadBlk rfl (by first | rfl | assumption | (simp only [u8s_length]; first | rfl | assumption | omega | exact Go.Adr.addr_len _))) rfl rfl ?_ | refine G.rd (Rd.slArr rfl (by omega)) rfl rfl ?_ | (refine G.isBin .add ?_; first | refine G.rd (Rd.add rfl rfl (IntWalk.i64_in _ (by omega))) rfl rfl ?_ | refine G.rd (Rd.add rfl rfl (IntWalk.u8_in _ (by omega))) rfl rfl ?_ | refine G.rd (Rd.cat rfl rfl (by first | omega | (simp only [List.length_append, List.length_cons, List.length_nil, List.length_take, List.length_drop, List.length_map, List.length_replicate]; omega))) rfl rfl ?_) | (refine G.isBin .sub ?_; first | refine G.rd (Rd.sub rfl rfl (IntWalk.i64_in _ (by omega))) rfl rfl ?_ | refine G.rd (Rd.sub rfl rfl (IntWalk.u8_in _ (by omega))) rfl rfl ?_) | (refine G.isBin .quo ?_; refine G.rd (Rd.quoN rfl rfl (by omega) (by omega)) rfl rfl ?_) | (refine G.isBin .rem ?_; refine G.rd (Rd.remN rfl rfl (by omega)) rfl rfl ?_) | (refine G.isBin .mul ?_; first | refine G.rd (Rd.mul rfl rfl (IntWalk.i64_in _ (by omega))) rfl rfl ?_) | (refine G.isBin .eql ?_; first | refine G.rd (Rd.eqlT rfl rfl (by omega)) rfl rfl ?_ | refine G.rd (Rd.eqlF rfl rfl (by omega)) rfl rfl ?_ | refine G.rd (Rd.eql rfl rfl) rfl rfl ?_ | refine G.rd (Rd.eqlST rfl rfl (by first | rfl | assumption | decide)) rfl rfl ?_ | refine G.rd (Rd.eqlSF rfl rfl (by first | assumption | decide)) rfl rfl ?_ | refine G.rd (Rd.eqlS rfl rfl) rfl rfl ?_ | refine G.rd (Rd.eqPN rfl rfl) rfl rfl ?_ | refine G.rd (Rd.eqMN rfl rfl) rfl rfl ?_ | refine G.rd (Rd.eqSN rfl rfl) rfl rfl ?_ | refine G.rd (Rd.eqSNN rfl rfl) rfl rfl ?_) | (refine G.isBin .neq ?_; first | refine G.rd (Rd.neqT rfl rfl (by omega)) rfl rfl ?_ | refine G.rd (Rd.neqF rfl rfl (by omega)) rfl rfl ?_ | refine G.rd (Rd.neq rfl rfl) rfl rfl ?_ | refine G.rd (Rd.neqST rfl rfl (by first | assumption | decide)) rfl rfl ?_ | refine G.rd (Rd.neqSF rfl rfl (by first | rfl | assumption | decide)) rfl rfl ?_ | refine G.rd (Rd.neqS rfl rfl) rfl rfl ?_ | refine G.rd (Rd.nePN rfl rfl) rfl rfl ?_) | (refine G.isBin .lss ?_; first | refine G.rd (Rd.lssT rfl rfl (by omega)) rfl rfl ?_ | refine G.rd (Rd.lssF rfl rfl (by omega)) rfl rfl ?_ | refine G.rd (Rd.lss rfl rfl) rfl rfl ?_) | (refine G.isBin .leq ?_; first | refine G.rd (Rd.leqT rfl rfl (by omega)) rfl rfl ?_ | refine G.rd (Rd.leqF rfl rfl (by omega)) rfl rfl ?_ | refine G.rd (Rd.leq rfl rfl) rfl rfl ?_) | (refine G.isBin .gtr ?_; first | refine G.rd (Rd.gtrT rfl rfl (by omega)) rfl rfl ?_ | refine G.rd (Rd.gtrF rfl rfl (by omega)) rfl rfl ?_ | refine G.rd (Rd.gtr rfl rfl) rfl rfl ?_) | (refine G.isBin .geq ?_; first | refine G.rd (Rd.geqT rfl rfl (by omega)) rfl rfl ?_ | refine G.rd (Rd.geqF rfl rfl (by omega)) rfl rfl ?_ | refine G.rd (Rd.geq rfl rfl) rfl rfl ?_) | (refine G.isConv ?_; first | refine G.rd (Rd.conv rfl (IntWalk.i64_in _ (by omega))) rfl rfl ?_ | refine G.rd (Rd.conv rfl (IntWalk.u8_in _ (by omega))) rfl rfl ?_ | refine G.rd (Rd.strW rfl (by first | rfl | (simp; done) | (simp only [List.length_take, List.length_drop]; omega))) rfl rfl ?_ | refine G.ee rfl rfl rfl (Eff.rd (Rd.strW rfl (by first | rfl | (simp; done) | (simp only [List.length_take, List.length_drop]; omega))) ⟨inferInstance, ?_⟩) | refine G.ef rfl rfl rfl (Eff.rd (Rd.strW rfl (by first | rfl | (simp; done) | (simp only [List.length_take, List.length_drop]; omega))) ?_)) | (refine G.isPick ?_; first | refine G.rd (Rd.pickT rfl rfl) rfl rfl ?_ | refine G.rd (Rd.pickF rfl rfl) rfl rfl ?_ | refine G.rd (Rd.pickAnd rfl rfl rfl) rfl rfl ?_ | refine G.rd (Rd.pickOr rfl rfl rfl) rfl rfl ?_) | (refine G.isCall ?_; first | refine G.rd (Rd.lenV rfl) rfl rfl ?_ | refine G.rd (Rd.lenS rfl) rfl rfl ?_ | refine G.rd (Rd.min2 rfl rfl) rfl rfl ?_ | refine G.rd (Rd.max2 rfl rfl) rfl rfl ?_) | refine G.rd (Rd.not rfl) rfl rfl ?_ | (refine G.isCall ?_; first | refine G.ef rfl rfl rfl (Eff.callPure rfl (by first | omega | assumption | decide | (simp only [List.length_map, List.length_append, List.length_cons, List.length_nil, List.length_take, List.length_drop, List.length_replicate, List.length_reverse]; omega) | exact ⟨by first | assumption | omega, by first | assumption | omega⟩ | exact trivial) ?_) | refine G.ee rfl rfl rfl (Eff.callPure rfl (by first | omega | assumption | decide | (simp only [List.length_map, List.length_append, List.length_cons, List.length_nil, List.length_take, List.length_drop, List.length_replicate, List.length_reverse]; omega) | exact ⟨by first | assumption | omega, by first | assumption | omega⟩ | exact trivial) ⟨inferInstance, ?_⟩)) | refine G.ef rfl rfl rfl (Eff.storeLit rfl rfl (by rfl) (by rfl) (by rfl) ?_) | refine G.ef rfl rfl rfl (Eff.storeU rfl rfl (by first | assumption | omega | (simp only [List.length_append, List.length_map, List.length_take, List.length_drop, List.length_replicate, List.length_cons, List.length_nil, List.length_set]; omega) | decide) ?_) | refine G.ef rfl rfl rfl (Eff.storeUx rfl rfl (by first | assumption | omega | (simp only [List.length_append, List.length_map, List.length_take, List.length_drop, List.length_replicate, List.length_cons, List.length_nil, List.length_set]; omega) | decide) (by first | (simp [Fz]; done) | (simp only [Fz]; omega)) ?_) | refine G.ef rfl rfl rfl (Eff.storeAll rfl rfl (by first | exact u8s_one _ | (intro u hu; simp at hu; done)) (by first | rfl | (simp only [u8s_length]; first | rfl | assumption | omega | exact Go.Adr.addr_len _)) (by first | rfl | (simp only [u8s_length]; first | rfl | assumption | omega | exact Go.Adr.addr_len _)) ?_) | refine G.ef rfl rfl rfl (Eff.store rfl rfl rfl (by first | (simp; done) | (simp only [List.size_toArray, Go.Asc.strs_length, List.length_append, List.length_map, List.length_take, List.length_drop]; omega) | (simp only [List.size_toArray, u8s_length, List.length_append, List.length_map, List.length_take, List.length_drop, List.length_replicate]; omega)) (by first | (simp [Fz]; done) | (simp only [Fz]; omega)) ?_)) | refine GC.seq ?_ | refine GC.region ?_ | refine G.nil ?_ | refine GQ.then ?_ | refine GQ.thenRet ?_ | refine GC.block ?_ | refine GC.ret ?_ | refine GQ.inBlock ?_ | refine GQ.inBlockRet ?_ | refine GC.skip ?_ | refine GC.label ?_ | refine GC.condT rfl ?_ | refine GC.condF rfl ?_ | refine GC.exit ?_ | refine GQ.thenExit ?_ | refine GQ.inBlockHit rfl ?_ | refine GQ.inBlockMiss rfl ?_)
    exact hZq.out) : A := hab ⟨h⟩
section
variable {P : Program} {ops : Array Oper} {n : Nat} {W0 : World} {Hs H : Heap} {Q : Exit → Act → World → Prop} {l : List (Kind × Oper)} {e : Env} {op : Op} {ty : TypeId} {pos : String} {aft : Array Edge}
theorem condNT [Marks] {c : Operand} {x y : Code} {p : Prop} [Decidable p] (hc : opv e c = some (.bool (!decide p))) (hb : ¬ p) (h : GC P n W0 x Q e H) : GC P n W0 (.cond c x y) Q e H := GC.condT (by rw [hc, decide_eq_false hb]; rfl) h
theorem condNF [Marks] {c : Operand} {x y : Code} {p : Prop} [Decidable p] (hc : opv e c = some (.bool (!decide p))) (hb : p) (h : GC P n W0 y Q e H) : GC P n W0 (.cond c x y) Q e H := GC.condF (by rw [hc, decide_eq_true hb]; rfl) h
theorem knownNT [Marks] {kd : Kind} {dst : Option Nat} {j tt : Nat} {w0 : Bool} {p : Prop} [Decidable p] (hj : (ops[j]?).bind (·.dst) = some tt) (hl : look e tt = some (.bool (!decide p))) (htt : Nat.blt tt n = true) (hb : ¬ p)
    (h : G P ops n W0 Hs Q ((kd, ⟨dst, op, ty, pos, aft, some (j, w0)⟩) :: l) ((tt, .bool true) :: e) H) : G P ops n W0 Hs Q ((kd, ⟨dst, op, ty, pos, aft, some (j, w0)⟩) :: l) e H := G.known true hj hl htt (by rw [decide_eq_false hb]; rfl) h
theorem knownNF [Marks] {kd : Kind} {dst : Option Nat} {j tt : Nat} {w0 : Bool} {p : Prop} [Decidable p] (hj : (ops[j]?).bind (·.dst) = some tt) (hl : look e tt = some (.bool (!decide p))) (htt : Nat.blt tt n = true) (hb : p)
    (h : G P ops n W0 Hs Q ((kd, ⟨dst, op, ty, pos, aft, some (j, w0)⟩) :: l) ((tt, .bool false) :: e) H) : G P ops n W0 Hs Q ((kd, ⟨dst, op, ty, pos, aft, some (j, w0)⟩) :: l) e H := G.known false hj hl htt (by rw [decide_eq_true hb]; rfl) h
end
/-- A test whose outcome is known. -/
theorem kn {A B : Prop} (h : B) (hab : Box B → A := by
    intro hZq
    first | exact GC.condKTD rfl (by first | assumption | omega) hZq.out | exact GC.condKFD rfl (by first | assumption | omega) hZq.out | exact Y.condNT rfl (by first | assumption | omega) hZq.out | exact Y.condNF rfl (by first | assumption | omega) hZq.out | exact G.knownTD rfl rfl rfl (by first | assumption | omega) hZq.out | exact G.knownFD rfl rfl rfl (by first | assumption | omega) hZq.out | exact Y.knownNT rfl rfl rfl (by first | assumption | omega) hZq.out | exact Y.knownNF rfl rfl rfl (by first | assumption | omega) hZq.out | exact GC.condKT rfl (by first | assumption | (simp only [Bool.not_eq_true', Bool.not_eq_false', Bool.not_not]; assumption)) hZq.out | exact GC.condKF rfl (by first | assumption | (simp only [Bool.not_eq_true', Bool.not_eq_false', Bool.not_not]; assumption)) hZq.out | ((fail_if_success (refine G.lit true rfl rfl ?_)); (fail_if_success (refine G.lit false rfl rfl ?_)); first | exact G.known true rfl rfl rfl (by first | assumption | (simp only [Bool.not_eq_true', Bool.not_eq_false', Bool.not_not]; assumption)) hZq.out | exact G.known false rfl rfl rfl (by first | assumption | (simp only [Bool.not_eq_true', Bool.not_eq_false', Bool.not_not]; assumption)) hZq.out)) : A := hab ⟨h⟩
/-- Just one plain step. -/
theorem one {A B : Prop} (h : B) (hab : Box B → A := by
    intro hZq
    first | (refine G.anyOp ?_; first | (refine G.isGuarded ?_; first | refine G.skip rfl rfl ?_ | refine G.skip_eff rfl rfl ?_) | refine G.rd (Rd.assign rfl) rfl rfl ?_ | refine G.rd (Rd.move rfl) rfl rfl ?_ | refine G.rd (Rd.nilCheck rfl) rfl rfl ?_ | refine G.rd (Rd.fieldAddr rfl) rfl rfl ?_ | refine G.rd (Rd.load rfl (by assumption)) rfl rfl ?_ | refine G.rd (Rd.loadAggC rfl (by assumption) (by rfl)) rfl rfl ?_ | refine G.rd (Rd.load rfl (cellH (by assumption))) rfl rfl ?_ | refine G.rd (Rd.load rfl (cellN rfl)) rfl rfl ?_ | refine G.rd (Rd.load rfl (cellH rfl)) rfl rfl ?_ | refine G.rd (Rd.part rfl rfl) rfl rfl ?_ | refine G.rd (Rd.makeFunc rfl rfl) rfl rfl ?_ | refine G.rd (Rd.indexN rfl rfl (by omega)) rfl rfl ?_ | refine G.rd (Rd.indexArrN rfl rfl (by omega)) rfl rfl ?_ | refine G.rd (Rd.indexAddr rfl rfl (by omega) (by omega)) rfl rfl ?_ | refine G.rd (Rd.load rfl (cellH (Go.Adr.cell_strs _ _ (by first | assumption | omega)))) rfl rfl ?_ | refine G.rd (Rd.load rfl (cellH (Go.Adr.cell_a _ _ (by first | assumption | omega)))) rfl rfl ?_ | refine G.rd (Rd.idxSN rfl rfl (by omega)) rfl rfl ?_ | refine G.rd (Rd.idxS rfl rfl (by omega) (by omega)) rfl rfl ?_ | refine G.rd (Rd.cutSL rfl rfl (by omega)) rfl rfl ?_ | refine G.rd (Rd.cutSH rfl rfl (by omega)) rfl rfl ?_ | refine G.rd (Rd.cutSLH rfl rfl rfl (by omega) (by omega)) rfl rfl ?_ | refine G.rd (Rd.load rfl (cellH (Go.Adr.strs_cell _ _ _ (by first | assumption | omega)))) rfl rfl ?_ | refine G.rd (Rd.load rfl (cellH (cell_u8s _ _ _ (by first | assumption | omega)))) rfl rfl ?_ | refine G.rd (Rd.loadBlk rfl (by first | rfl | assumption | (simp only [u8s_length]; first | rfl | assumption | omega | exact Go.Adr.addr_len _))) rfl rfl ?_ | refine G.rd (Rd.slArr rfl (by omega)) rfl rfl ?_ | (refine G.isBin .add ?_; first | refine G.rd (Rd.add rfl rfl (IntWalk.i64_in _ (by omega))) rfl rfl ?_ | refine G.rd (Rd.add rfl rfl (IntWalk.u8_in _ (by omega))) rfl rfl ?_ | refine G.rd (Rd.cat rfl rfl (by first | omega | (simp only [List.length_append, List.length_cons, List.length_nil, List.length_take, List.length_drop, List.length_map, List.length_replicate]; omega))) rfl rfl ?_) | (refine G.isBin .sub ?_; first | refine G.rd (Rd.sub rfl rfl (IntWalk.i64_in _ (by omega))) rfl rfl ?_ | refine G.rd (Rd.sub rfl rfl (IntWalk.u8_in _ (by omega))) rfl rfl ?_) | (refine G.isBin .quo ?_; refine G.rd (Rd.quoN rfl rfl (by omega) (by omega)) rfl rfl ?_) | (refine G.isBin .rem ?_; refine G.rd (Rd.remN rfl rfl (by omega)) rfl rfl ?_) | (refine G.isBin .mul ?_; first | refine G.rd (Rd.mul rfl rfl (IntWalk.i64_in _ (by omega))) rfl rfl ?_) | (refine G.isBin .eql ?_; first | refine G.rd (Rd.eqlT rfl rfl (by omega)) rfl rfl ?_ | refine G.rd (Rd.eqlF rfl rfl (by omega)) rfl rfl ?_ | refine G.rd (Rd.eql rfl rfl) rfl rfl ?_ | refine G.rd (Rd.eqlST rfl rfl (by first | rfl | assumption | decide)) rfl rfl ?_ | refine G.rd (Rd.eqlSF rfl rfl (by first | assumption | decide)) rfl rfl ?_ | refine G.rd (Rd.eqlS rfl rfl) rfl rfl ?_ | refine G.rd (Rd.eqPN rfl rfl) rfl rfl ?_ | refine G.rd (Rd.eqMN rfl rfl) rfl rfl ?_ | refine G.rd (Rd.eqSN rfl rfl) rfl rfl ?_ | refine G.rd (Rd.eqSNN rfl rfl) rfl rfl ?_) | (refine G.isBin .neq ?_; first | refine G.rd (Rd.neqT rfl rfl (by omega)) rfl rfl ?_ | refine G.rd (Rd.neqF rfl rfl (by omega)) rfl rfl ?_ | refine G.rd (Rd.neq rfl rfl) rfl rfl ?_ | refine G.rd (Rd.neqST rfl rfl (by first | assumption | decide)) rfl rfl ?_ | refine G.rd (Rd.neqSF rfl rfl (by first | rfl | assumption | decide)) rfl rfl ?_ | refine G.rd (Rd.neqS rfl rfl) rfl rfl ?_ | refine G.rd (Rd.nePN rfl rfl) rfl rfl ?_) | (refine G.isBin .lss ?_; first | refine G.rd (Rd.lssT rfl rfl (by omega)) rfl rfl ?_ | refine G.rd (Rd.lssF rfl rfl (by omega)) rfl rfl ?_ | refine G.rd (Rd.lss rfl rfl) rfl rfl ?_) | (refine G.isBin .leq ?_; first | refine G.rd (Rd.leqT rfl rfl (by omega)) rfl rfl ?_ | refine G.rd (Rd.leqF rfl rfl (by omega)) rfl rfl ?_ | refine G.rd (Rd.leq rfl rfl) rfl rfl ?_) | (refine G.isBin .gtr ?_; first | refine G.rd (Rd.gtrT rfl rfl (by omega)) rfl rfl ?_ | refine G.rd (Rd.gtrF rfl rfl (by omega)) rfl rfl ?_ | refine G.rd (Rd.gtr rfl rfl) rfl rfl ?_) | (refine G.isBin .geq ?_; first | refine G.rd (Rd.geqT rfl rfl (by omega)) rfl rfl ?_ | refine G.rd (Rd.geqF rfl rfl (by omega)) rfl rfl ?_ | refine G.rd (Rd.geq rfl rfl) rfl rfl ?_) | (refine G.isConv ?_; first | refine G.rd (Rd.conv rfl (IntWalk.i64_in _ (by omega))) rfl rfl ?_ | refine G.rd (Rd.conv rfl (IntWalk.u8_in _ (by omega))) rfl rfl ?_ | refine G.rd (Rd.strW rfl (by first | rfl | (simp; done) | (simp only [List.length_take, List.length_drop]; omega))) rfl rfl ?_ | refine G.ee rfl rfl rfl (Eff.rd (Rd.strW rfl (by first | rfl | (simp; done) | (simp only [List.length_take, List.length_drop]; omega))) ⟨inferInstance, ?_⟩) | refine G.ef rfl rfl rfl (Eff.rd (Rd.strW rfl (by first | rfl | (simp; done) | (simp only [List.length_take, List.length_drop]; omega))) ?_)) | (refine G.isPick ?_; first | refine G.rd (Rd.pickT rfl rfl) rfl rfl ?_ | refine G.rd (Rd.pickF rfl rfl) rfl rfl ?_ | refine G.rd (Rd.pickAnd rfl rfl rfl) rfl rfl ?_ | refine G.rd (Rd.pickOr rfl rfl rfl) rfl rfl ?_) | (refine G.isCall ?_; first | refine G.rd (Rd.lenV rfl) rfl rfl ?_ | refine G.rd (Rd.lenS rfl) rfl rfl ?_ | refine G.rd (Rd.min2 rfl rfl) rfl rfl ?_ | refine G.rd (Rd.max2 rfl rfl) rfl rfl ?_) | refine G.rd (Rd.not rfl) rfl rfl ?_ | (refine G.isCall ?_; first | refine G.ef rfl rfl rfl (Eff.callPure rfl (by first | omega | assumption | decide | (simp only [List.length_map, List.length_append, List.length_cons, List.length_nil, List.length_take, List.length_drop, List.length_replicate, List.length_reverse]; omega) | exact ⟨by first | assumption | omega, by first | assumption | omega⟩ | exact trivial) ?_) | refine G.ee rfl rfl rfl (Eff.callPure rfl (by first | omega | assumption | decide | (simp only [List.length_map, List.length_append, List.length_cons, List.length_nil, List.length_take, List.length_drop, List.length_replicate, List.length_reverse]; omega) | exact ⟨by first | assumption | omega, by first | assumption | omega⟩ | exact trivial) ⟨inferInstance, ?_⟩)) | refine G.ef rfl rfl rfl (Eff.storeLit rfl rfl (by rfl) (by rfl) (by rfl) ?_) | refine G.ef rfl rfl rfl (Eff.storeU rfl rfl (by first | assumption | omega | (simp only [List.length_append, List.length_map, List.length_take, List.length_drop, List.length_replicate, List.length_cons, List.length_nil, List.length_set]; omega) | decide) ?_) | refine G.ef rfl rfl rfl (Eff.storeUx rfl rfl (by first | assumption | omega | (simp only [List.length_append, List.length_map, List.length_take, List.length_drop, List.length_replicate, List.length_cons, List.length_nil, List.length_set]; omega) | decide) (by first | (simp [Fz]; done) | (simp only [Fz]; omega)) ?_) | refine G.ef rfl rfl rfl (Eff.storeAll rfl rfl (by first | exact u8s_one _ | (intro u hu; simp at hu; done)) (by first | rfl | (simp only [u8s_length]; first | rfl | assumption | omega | exact Go.Adr.addr_len _)) (by first | rfl | (simp only [u8s_length]; first | rfl | assumption | omega | exact Go.Adr.addr_len _)) ?_) | refine G.ef rfl rfl rfl (Eff.store rfl rfl rfl (by first | (simp; done) | (simp only [List.size_toArray, Go.Asc.strs_length, List.length_append, List.length_map, List.length_take, List.length_drop]; omega) | (simp only [List.size_toArray, u8s_length, List.length_append, List.length_map, List.length_take, List.length_drop, List.length_replicate]; omega)) (by first | (simp [Fz]; done) | (simp only [Fz]; omega)) ?_)) | refine GC.seq ?_ | refine GC.region ?_ | refine G.nil ?_ | refine GQ.then ?_ | refine GQ.thenRet ?_ | refine GC.block ?_ | refine GC.ret ?_ | refine GQ.inBlock ?_ | refine GQ.inBlockRet ?_ | refine GC.skip ?_ | refine GC.label ?_ | refine GC.condT rfl ?_ | refine GC.condF rfl ?_ | refine GC.exit ?_ | refine GQ.thenExit ?_ | refine GQ.inBlockHit rfl ?_ | refine GQ.inBlockMiss rfl ?_
    exact hZq.out) : A := hab ⟨h⟩
end Go.Own.Y

namespace Go.Own
open Go.RowKit

/-- What is left of a region, in whatever order: 'ts' are those behind which nothing is read at any time. -/
def GA [Marks] (P : Program) (ops : Array Oper) (ts : List Nat) (n : Nat) (W0 : World) (Hs : Heap) (Q : Act → World → Prop) (f : Nat) (listed : Array Bool) (e : Env) (H : Heap) : Prop :=
  Closed ops listed → ∀ a w, Fits n e a → Own W0 H w → wpAnyT P ops (Own W0 Hs) (fun j => ts.contains j) Q f listed a w
section
variable {P : Program} {ops : Array Oper} {ts : List Nat} {n : Nat} {W0 : World} {Hs H : Heap} {Q : Act → World → Prop} {f : Nat} {listed : Array Bool} {e : Env} {op : Op} {ty : TypeId} {pos : String} {aft : Array Edge} {d : Nat} {v : Value} {g : Option (Nat × Bool)} {dst : Option Nat}
theorem GC.any [Marks] {i : Nat} {Qx : Exit → Act → World → Prop} (ts : List Nat) (Hs : Heap) (sz : Nat) (hsz : ops.size = sz) (hm : P.follows .mixedOrders = true) (h : GA P ops ts n W0 Hs (Qx .normal) sz (Array.replicate sz false) e H) : GC P n W0 (.region i ops true) Qx e H := by
  subst hsz
  exact fun a w hf ho => wp_region_any hm (wpAny_of_T _ _ _ _ (h (Closed.start ops) a _ hf (ho.drawn _ (Nat.le_succ _))))
theorem GA.read [Marks] (i : Nat) (ho : ops[i]? = some ⟨some d, op, ty, pos, aft, g⟩) (hs : Region.noSelect ops = true) (hc : (Region.free .any ops listed i && (Region.ready .any ops listed).contains i && ts.all fun j => listed.getD j true || anc ops ops.size j i) = true)
    (hsub : ∀ w, Own W0 H w → Own W0 Hs w) (hr : Rd P W0 Hs e op v) (hg : gv ops e g = some true) (hd : Nat.blt d n = true) (h : GA P ops ts n W0 Hs Q f (listed.setIfInBounds i true) ((d, v) :: e) H) : GA P ops ts n W0 Hs Q (f + 1) listed e H := by
  intro inv a w hf how
  simp only [Bool.and_eq_true] at hc
  have hready : i ∈ Region.ready .any ops listed := by simpa using hc.1.2
  refine wpAnyT_first (v := v) (fa := ops.size) ho (Region.noSelect_spec hs) f listed a w inv (fun j hj hun => ?_) (Region.free_spec ho hc.1.1) hready (.inl ⟨gv_wanted hf hg, fun w' hw' => hr _ hf.ev w' hw' _ rfl⟩) (hsub w how) (h (inv.set hready) _ _ (hf.put hd v) how)
  have := List.all_eq_true.1 hc.2 j (by simpa using hj)
  simpa [hun] using this
theorem GA.step [Marks] {i : Nat} (hi : i ∈ Region.ready .any ops listed) (ho : ops[i]? = some ⟨dst, op, ty, pos, aft, g⟩) (hg : gv ops e g = some true) (hd : dst.all (Nat.blt · n) = true)
    (he : Eff P W0 e H op ty (fun v H' => (ts.contains i = false → ∀ w, Own W0 H' w → Own W0 Hs w) ∧ GA P ops ts n W0 Hs Q f (listed.setIfInBounds i true) (putE dst v e) H')) (inv : Closed ops listed) {a : Act} {w : World} (hf : Fits n e a) (how : Own W0 H w) :
    wpOp P ops noQ i (fun a' w' => (ts.contains i = false → Own W0 Hs w') ∧ wpAnyT P ops (Own W0 Hs) (fun j => ts.contains j) Q f (listed.setIfInBounds i true) a' w') a w := by
  unfold wpOp
  simp only [ho]
  rw [if_pos (gv_wanted hf hg)]
  exact .inl (he a w hf.ev how _ rfl rfl _ (fun v H' w' hG ho' => ⟨fun ht => hG.1 ht w' ho', hG.2 (inv.set hi) _ _ (hf.putE hd v) ho'⟩))
theorem GA.one [Marks] (i : Nat) (hi : Region.ready .any ops listed = [i]) (ho : ops[i]? = some ⟨dst, op, ty, pos, aft, g⟩) (hg : gv ops e g = some true) (hd : dst.all (Nat.blt · n) = true)
    (he : Eff P W0 e H op ty (fun v H' => (ts.contains i = false → ∀ w, Own W0 H' w → Own W0 Hs w) ∧ GA P ops ts n W0 Hs Q f (listed.setIfInBounds i true) (putE dst v e) H')) : GA P ops ts n W0 Hs Q (f + 1) listed e H := by
  intro inv a w hf how
  refine ⟨fun h0 => by rw [hi] at h0; simp at h0, fun j hj => ?_⟩
  rw [hi] at hj
  obtain rfl : j = i := by simpa using hj
  exact GA.step (by rw [hi]; simp) ho hg hd he inv hf how
theorem GA.two [Marks] {op' : Op} {ty' : TypeId} {pos' : String} {aft' : Array Edge} {g' : Option (Nat × Bool)} {dst' : Option Nat} (i j : Nat) (hi : Region.ready .any ops listed = [i, j])
    (ho : ops[i]? = some ⟨dst, op, ty, pos, aft, g⟩) (hg : gv ops e g = some true) (hd : dst.all (Nat.blt · n) = true) (ho' : ops[j]? = some ⟨dst', op', ty', pos', aft', g'⟩) (hg' : gv ops e g' = some true) (hd' : dst'.all (Nat.blt · n) = true)
    (he : Eff P W0 e H op ty (fun v H' => (ts.contains i = false → ∀ w, Own W0 H' w → Own W0 Hs w) ∧ GA P ops ts n W0 Hs Q f (listed.setIfInBounds i true) (putE dst v e) H'))
    (he' : Eff P W0 e H op' ty' (fun v H' => (ts.contains j = false → ∀ w, Own W0 H' w → Own W0 Hs w) ∧ GA P ops ts n W0 Hs Q f (listed.setIfInBounds j true) (putE dst' v e) H')) : GA P ops ts n W0 Hs Q (f + 1) listed e H := by
  intro inv a w hf how
  refine ⟨fun h0 => by rw [hi] at h0; simp at h0, fun q hq => ?_⟩
  rw [hi] at hq
  simp only [List.mem_cons, List.not_mem_nil, or_false] at hq
  rcases hq with rfl | rfl
  · exact GA.step (by rw [hi]; simp) ho hg hd he inv hf how
  · exact GA.step (by rw [hi]; simp) ho' hg' hd' he' inv hf how
/-- From here on one order alone. -/
def okT (ops : Array Oper) (ts : List Nat) (l : List (Nat × Kind)) (f : Nat) (listed : Array Bool) : Bool :=
  Region.noSelect ops && okS ops l listed && decide (l.length = f) && (l.all fun x => ts.contains x.1 == (x.2 == .tail)) && ts.all fun j => listed.getD j true || l.any fun x => x.1 == j && x.2 == .tail
theorem GA.toG [Marks] {Qx : Exit → Act → World → Prop} {L : List (Kind × Oper)} (l : List (Nat × Kind)) (hB : okT ops ts l f listed = true) (hL : pickOps ops l = L) (h : G P ops n W0 Hs Qx L e H) : GA P ops ts n W0 Hs (Qx .normal) f listed e H := by
  intro inv a w hf how
  simp only [okT, Bool.and_eq_true, decide_eq_true_eq] at hB
  obtain ⟨⟨⟨⟨h1, h2⟩, h3⟩, h4⟩, h5⟩ := hB
  rw [← h3]
  refine wpAnyT_of_sched h1 (fun j => ts.contains j) l _ listed a w inv (fun x hx e => ?_) (fun x hx e => ?_) (fun j hj hun => ?_) h2 (by rw [hL]; exact h a w hf how)
  · have := List.all_eq_true.1 h4 x hx
    simpa [e] using this
  · have := List.all_eq_true.1 h4 x hx
    have hne : (x.2 == Kind.tail) = false := by simpa using e
    rw [hne] at this
    simpa using this
  · have := List.all_eq_true.1 h5 j (by simpa using hj)
    rw [hun, Bool.false_or] at this
    obtain ⟨x, hx, h6⟩ := List.any_eq_true.1 this
    simp only [Bool.and_eq_true, beq_iff_eq] at h6
    exact ⟨x, hx, h6.1, h6.2⟩
end
end Go.Own

namespace Go.Own
open Go.RowKit

/-- An iterator over a map that stands still: what it has still to hand out. -/
def IterIs {K V : Type} (key : K → Value) (val : V → Value) (bm : Nat) (om : Obj) (left : List (K × V)) (oi : Obj) : Prop :=
  ∃ es clock seen, om = .map es clock ∧ oi = .mapIter (some bm) clock seen clock ∧ (∀ x ∈ es.toList, x.born < clock) ∧ (es.toList.map (·.born)).Nodup ∧
    (leftOf es seen).toList.map (fun e => (e.key, e.val)) = left.map (fun p => (key p.1, val p.2))
/-- The entry that was handed out last. -/
def LastIs {K V : Type} (key : K → Value) (val : V → Value) (bm : Nat) (om : Obj) (p : K × V) (oi : Obj) : Prop :=
  ∃ es clock seen e0, om = .map es clock ∧ oi = .mapIter (some bm) clock (Array.push seen e0.born) clock ∧ e0 ∈ es.toList ∧ (es.toList.map (·.born)).Nodup ∧ e0.key = key p.1 ∧ e0.val = val p.2
section
variable {P : Program} {W0 : World} {H : Heap} {e : Env} {t ty : TypeId} {x : Operand} {R : Value → Heap → Prop} {K V : Type} {ok : Value → Prop} {key : K → Value} {val : V → Value} {l left : List (K × V)} {om oi : Obj} {bm r : Nat} {kt et : TypeId}
theorem Eff.rangeM [hu : UnderT P t (.map kt et)] (hx : opv e x = some (.map (some bm))) [hh : Has H bm om] (hm : MapIs ok key val l om) (hR : ∀ b oi, IterIs key val bm om l oi → R (.pointer (some ⟨b, 0, none⟩)) ((b, oi) :: H)) : Eff P W0 e H (.range t x) ty R := by
  refine Eff.val fun ρ hρ w hw op hop _ => ?_
  obtain ⟨es, clock, rfl, he, hb, hbn⟩ := hm.obj
  have hw0 := hw.get hh.out
  refine ⟨_, _, w.alloc (.mapIter (some bm) clock #[] clock), ?_, hR w.heap.size (.mapIter (some bm) clock #[] clock) ⟨es, clock, #[], rfl, rfl, hb, hbn, ?_⟩, hw.alloc _⟩
  · simp [execOp, hop, hρ x _ hx, Instr.range, run_underlying hu.out, MapKept.run_getObj_map hw0, Result.andThen]
  · rw [← he]; congr 1; simp [leftOf]
theorem leftOf_push {es : Array MapEntry} {seen : Array Nat} {e0 : MapEntry} {A B : List MapEntry} (hn : (es.toList.map (·.born)).Nodup) (h : (leftOf es seen).toList = A ++ e0 :: B) : (leftOf es (seen.push e0.born)).toList = A ++ B := by
  have h1 : (leftOf es (seen.push e0.born)).toList = (leftOf es seen).toList.filter (fun e => decide (e.born ≠ e0.born)) := by
    simp only [leftOf, Array.toList_filter, List.filter_filter]
    refine List.filter_congr fun y _ => ?_
    simp only [Array.contains_push, Bool.not_or]
    rw [Bool.and_comm]
    congr 1
    by_cases hh : y.born = e0.born <;> simp [hh]
  have hsub : (leftOf es seen).toList.Sublist es.toList := by simp only [leftOf, Array.toList_filter]; exact List.filter_sublist
  have hnd := hn.sublist (hsub.map _)
  rw [h] at hnd h1
  rw [h1]
  simp only [List.map_append, List.map_cons, List.nodup_append, List.nodup_cons] at hnd
  obtain ⟨_, ⟨hb, _⟩, hd⟩ := hnd
  rw [List.filter_append, List.filter_cons, if_neg (by simp)]
  congr 1
  · refine List.filter_eq_self.2 fun y hy => ?_
    have := hd y.born (List.mem_map.2 ⟨y, hy, rfl⟩) e0.born (by simp)
    simpa using this
  · refine List.filter_eq_self.2 fun y hy => ?_
    simp only [ne_eq, decide_not, Bool.not_eq_true', decide_eq_false_iff_not]
    intro hh; exact hb (List.mem_map.2 ⟨y, hy, hh⟩)
/-- The step: nothing is left, or one of those that are, whichever. -/
theorem Eff.nextM {put : Obj → Heap} (hx : opv e x = some (.pointer (some ⟨r, 0, none⟩))) [hh : Has H bm om] [hs : Spot H r oi put] (hi : IterIs key val bm om left oi)
    (h0 : left = [] → R (.tuple #[.bool false]) H) (h1 : ∀ A p B oi', left = A ++ p :: B → IterIs key val bm om (A ++ B) oi' → LastIs key val bm om p oi' → R (.tuple #[.bool true, key p.1, val p.2]) (put oi')) : Eff P W0 e H (.next x false) ty R := by
  refine Eff.val fun ρ hρ w hw op hop _ => ?_
  obtain ⟨es, clock, seen, rfl, rfl, hb, hbn, hl⟩ := hi
  have hw0 := hw.get hh.out
  have hr0 := hs.get hw
  rcases run_next_at w op.type r bm clock clock seen es clock hr0 hw0 hb (Nat.le_refl _) (P := P) with ⟨hz, hrun⟩ | ⟨e0, he0, w1, hw1, hrun⟩
  · have hnil : left = [] := by
      have : (leftOf es seen).toList = [] := by simpa using hz
      rw [this] at hl
      simpa using hl.symm
    exact ⟨_, _, w, by simp [execOp, hop, hρ x _ hx, hrun], h0 hnil, hw⟩
  · obtain ⟨A, B, hAB⟩ := List.append_of_mem he0
    have hl2 := hl
    rw [hAB, List.map_append, List.map_cons] at hl2
    obtain ⟨A', q, h2, h3, h4⟩ := List.append_eq_map_iff.1 hl2
    obtain ⟨p, B', rfl, h5, h6⟩ : ∃ p B', q = p :: B' ∧ (e0.key, e0.val) = (key p.1, val p.2) ∧ B.map (fun e => (e.key, e.val)) = B'.map (fun p => (key p.1, val p.2)) := by
      cases q with
      | nil => simp at h4
      | cons p B' =>
        simp only [List.map_cons, List.cons.injEq] at h4
        exact ⟨p, B', rfl, h4.1.symm, h4.2.symm⟩
    simp only [Prod.mk.injEq] at h5
    have hown1 : Own W0 H w1 := by
      rcases hw1 with rfl | rfl
      · exact hw
      · exact hw.drew1
    have hr1 := hs.get hown1
    have hg := MapKept.heap_set (o' := .mapIter (some bm) clock (seen.push e0.born) clock) hr1
    refine ⟨.tuple #[.bool true, e0.key, e0.val], put (.mapIter (some bm) clock (seen.push e0.born) clock), ChangeMaps.setBlock w1 r (.mapIter (some bm) clock (seen.push e0.born) clock), by simp [execOp, hop, hρ x _ hx, hrun], ?_, ?_⟩
    · have hk := h5.1
      have hv := h5.2
      rw [hk, hv]
      refine h1 A' p B' _ h2 ⟨es, clock, _, rfl, rfl, hb, hbn, ?_⟩ ⟨es, clock, seen, e0, rfl, rfl, ?_, hbn, hk, hv⟩
      · rw [leftOf_push hbn hAB, List.map_append, List.map_append, h3, h6]
      · simp only [leftOf, Array.toList_filter] at he0
        exact (List.mem_filter.1 he0).1
    · exact hs.set hown1 hg.1 (fun k hk => hg.2 k hk) (by simp [ChangeMaps.setBlock]) rfl rfl rfl
theorem Rd.entryM {p : K × V} (hx : opv e x = some (.pointer (some ⟨r, 0, none⟩))) [hh : Has H bm om] [hs : Has H r oi] (hi : LastIs key val bm om p oi) : Rd P W0 H e (.entry x) (.tuple #[key p.1, val p.2]) := by
  delta Rd
  intro ρ hρ w hw op hop
  obtain ⟨es, clock, seen, e0, rfl, rfl, he0, hbn, hk, hv⟩ := hi
  have := run_entry_at (P := P) w r bm clock seen es clock e0 (hw.get hs.out) (hw.get hh.out) he0 hbn
  rw [hk, hv] at this
  simp [execOp, hop, hρ x _ hx, this]
end
end Go.Own

namespace Go.Own
open Go.RowKit Go.MapKept
section
variable {K V : Type} [DecidableEq K]
theorem putK_putK (l : List (K × V)) (a : K) (u v : V) : putK (putK l a u) a v = putK l a v := by
  induction l with
  | nil => simp [putK]
  | cons p r ih =>
    obtain ⟨k, w⟩ := p
    simp only [putK]
    split
    · simp [putK]
    · rename_i h; simp only [putK, if_neg h, ih]
theorem getK_put_self (l : List (K × V)) (a : K) (v : V) : getK (putK l a v) a = some v := by rw [getK_putK, if_pos rfl]
end
/-- Which entry a stamp names. -/
def StampIs (kv : Value) (n : Int) (o : Obj) : Prop := ∃ (es : Array MapEntry) (clock j : Nat) (e0 : MapEntry), o = .map es clock ∧ es[j]? = some e0 ∧ e0.key = kv ∧ (e0.born : Int) = n ∧ (es.toList.map (·.born)).Nodup
section
variable {P : Program} {W0 : World} {H : Heap} {e : Env} {t ty : TypeId} {x y z : Operand} {R : Value → Heap → Prop} {K V : Type} [DecidableEq K] {ok : Value → Prop} {key : K → Value} {val : V → Value} {l : List (K × V)} {o : Obj} {b : Nat} {a : K} {v : V} {zz : Value} {kt et : TypeId}
theorem nodup_set {l : List MapEntry} {j : Nat} {e0 e1 : MapEntry} (hj : l[j]? = some e0) (hb : e1.born = e0.born) (h : (l.map (·.born)).Nodup) : ((l.set j e1).map (·.born)).Nodup := by
  have : (l.set j e1).map (·.born) = l.map (·.born) := by
    apply List.ext_getElem?
    intro i
    simp only [List.getElem?_map, List.getElem?_set]
    by_cases hij : j = i
    · subst hij; rw [hj]; simp [hb, (List.getElem?_eq_some_iff.1 hj).1]
    · simp [hij]
  rw [this]; exact h
theorem modify_set {es : Array MapEntry} {j : Nat} {e0 : MapEntry} (hj : es[j]? = some e0) (f : MapEntry → MapEntry) : (es.modify j f).toList = es.toList.set j (f e0) := by
  have hlt : j < es.size := (Array.getElem?_eq_some_iff.1 hj).1
  apply List.ext_getElem?
  intro i
  simp only [Array.getElem?_toList, Array.getElem?_modify, List.getElem?_set, Array.length_toList]
  by_cases hij : j = i
  · subst hij; rw [if_pos rfl, if_pos rfl, if_pos hlt, hj]; rfl
  · rw [if_neg hij, if_neg hij]
theorem run_entryOf [hT : MapT P t kt et ok zz] {zv : V} (hz : val zv = zz) (hm : MapIs ok key val l o) (hok : ok (key a)) {w : World} (hw : w.heap[b]? = some o) :
    ∃ o' n, (Instr.mapEntry t (.map (some b)) (key a)).run P w = .ok (.tuple #[val ((getK l a).getD zv), .int .i64 n]) { w with heap := w.heap.setIfInBounds b o' } ∧ MapIs ok key val (putK l a ((getK l a).getD zv)) o' ∧ StampIs (key a) n o' := by
  obtain ⟨es, clock, rfl, he, hb, hbn⟩ := hm.obj
  have hks := map_ok he hm.ok
  have okP : ∀ u : V, ∀ p ∈ putK l a u, ok (key p.1) := by
    intro u p hp
    have : p.1 ∈ (putK l a u).map Prod.fst := List.mem_map.2 ⟨p, hp, rfl⟩
    rcases (keys_putK l a u p.1).1 this with h | h
    · rw [h]; exact hok
    · obtain ⟨q, hq, h2⟩ := List.mem_map.1 h; rw [← h2]; exact hm.ok q hq
  rcases hT.laws.find w hok es.toList hks with ⟨h1, h2⟩ | ⟨j, e0, h1, h2, h3⟩
  · have hnm := map_not he h2
    have hg : getK l a = none := getK_none.2 hnm
    rw [hg]
    have hnd : ((es.push { key := key a, val := zz, born := clock }).toList.map (·.born)).Nodup := by
      simp only [Array.toList_push, List.map_append, List.map_cons, List.map_nil]
      refine List.nodup_append.2 ⟨hbn, by simp, ?_⟩
      intro c hc d hd
      obtain ⟨q, hq, rfl⟩ := List.mem_map.1 hc
      simp only [List.mem_singleton] at hd
      subst hd
      exact Nat.ne_of_lt (hb q hq)
    refine ⟨.map (es.push { key := key a, val := zz, born := clock }) (clock + 1), (clock : Int), ?_, ⟨⟨_, _, rfl, ?_, ?_, hnd⟩, okP _, nodup_putK _ _ _ hm.nodup, hm.inj⟩, ⟨_, _, es.size, _, rfl, Array.getElem?_push_size, rfl, rfl, hnd⟩⟩
    · simp [Instr.mapEntry, run_underlying hT.under, MapKept.run_getObj_map hw, hT.laws.check w _ hok, h1, MapKept.run_setObj_map _ hw, Result.andThen, hT.zero, goInt, hz]
    · rw [putK_new hnm]; simp [he, hz]
    · intro q hq
      simp only [Array.toList_push, List.mem_append, List.mem_singleton] at hq
      rcases hq with hq | rfl
      · exact Nat.lt_succ_of_lt (hb q hq)
      · exact Nat.lt_succ_self _
  · obtain ⟨u, hu, hv⟩ := map_get he hm.inj h2 h3
    have hj : es[j]? = some e0 := by simpa using h2
    have hlt : j < es.size := (Array.getElem?_eq_some_iff.1 hj).1
    have hg : getK l a = some u := getK_of_mem hm.nodup (List.mem_of_getElem? hu)
    have hmod := modify_set hj (fun e => { e with key := key a })
    have hnd : ((es.modify j fun e => { e with key := key a }).toList.map (·.born)).Nodup := by rw [hmod]; exact nodup_set h2 rfl hbn
    rw [hg]
    refine ⟨.map (es.modify j fun e => { e with key := key a }) clock, (e0.born : Int), ?_, ⟨⟨_, _, rfl, ?_, ?_, hnd⟩, okP _, nodup_putK _ _ _ hm.nodup, hm.inj⟩, ⟨_, _, j, { e0 with key := key a }, rfl, ?_, rfl, rfl, hnd⟩⟩
    · simp [Instr.mapEntry, run_underlying hT.under, MapKept.run_getObj_map hw, hT.laws.check w _ hok, h1, MapKept.run_setObj_map _ hw, Result.andThen, hj, h3, hT.laws.stays w hok, goInt, hv]
    · rw [putK_at hm.nodup hu, hmod, List.map_set, List.map_set, he]
      simp [hv]
    · rw [hmod]
      intro q hq
      rcases List.mem_or_eq_of_mem_set hq with hq | rfl
      · exact hb q hq
      · exact hb e0 (List.mem_of_getElem? h2)
    · rw [Array.getElem?_modify, if_pos rfl, hj]; rfl
theorem Eff.mapEntry [hT : MapT P t kt et ok zz] {put : Obj → Heap} (zv : V) (hz : val zv = zz) (hx : opv e x = some (.map (some b))) (hy : opv e y = some (key a)) [hs : Spot H b o put] (hm : MapIs ok key val l o) (hok : ok (key a))
    (hR : ∀ o' n, MapIs ok key val (putK l a ((getK l a).getD zv)) o' → StampIs (key a) n o' → R (.tuple #[val ((getK l a).getD zv), .int .i64 n]) (put o')) : Eff P W0 e H (.mapEntry t x y) ty R :=
  Eff.val fun ρ hρ w hw op hop _ => by
    obtain ⟨o', n, h1, h2, h3⟩ := run_entryOf (hT := hT) (b := b) (a := a) hz hm hok (hs.get hw)
    have hg := heap_set (o' := o') (hs.get hw)
    exact ⟨_, put o', { w with heap := w.heap.setIfInBounds b o' }, by simp [execOp, hop, hρ x _ hx, hρ y _ hy, h1], hR o' n h2 h3, hs.set hw hg.1 (fun k hk => hg.2 k hk) (by simp) rfl rfl rfl⟩
theorem Eff.entryStore {put : Obj → Heap} {n : Int} (hx : opv e x = some (.map (some b))) (hy : opv e y = some (.int .i64 n)) (hz : opv e z = some (val v)) [hs : Spot H b o put] (hm : MapIs ok key val l o) (hst : StampIs (key a) n o)
    (hR : ∀ o', MapIs ok key val (putK l a v) o' → R undef (put o')) : Eff P W0 e H (.entryStore t x y z) ty R :=
  Eff.skip fun ρ hρ w hw op hop => by
    have hw0 := hs.get hw
    obtain ⟨es, clock, rfl, he, hb, hbn⟩ := hm.obj
    obtain ⟨es', clock', j, e0, h0, hj, hk, hn, _⟩ := hst
    cases h0
    have hj' : es.toList[j]? = some e0 := by simpa using hj
    have hlt : j < es.size := (Array.getElem?_eq_some_iff.1 hj).1
    obtain ⟨u, hu, hv⟩ := map_get he hm.inj hj' hk
    have hmod := modify_set hj (fun e => { e with val := val v })
    have hnd : ((es.modify j fun e => { e with val := val v }).toList.map (·.born)).Nodup := by rw [hmod]; exact nodup_set hj' rfl hbn
    have hfind : es.findIdx? (fun e => (e.born : Int) == n) = some j := by
      rw [Array.findIdx?_eq_some_iff_getElem]
      have hje : es[j] = e0 := by rw [Array.getElem?_eq_getElem hlt] at hj; exact Option.some.inj hj
      refine ⟨hlt, by rw [hje]; simp [hn], fun i hi => ?_⟩
      have hi' : i < es.size := by omega
      rw [Bool.not_eq_true, beq_eq_false_iff_ne]
      intro hc
      have h1 : es[i].born = e0.born := by omega
      rw [← hje] at h1
      have h2 := (List.pairwise_iff_getElem.1 hbn) i j (by simpa using hi') (by simpa using hlt) hi
      simp only [List.getElem_map, Array.getElem_toList] at h2
      exact h2 h1
    have hg := heap_set (o' := .map (es.modify j fun e => { e with val := val v }) clock) hw0
    refine ⟨put (.map (es.modify j fun e => { e with val := val v }) clock), { w with heap := w.heap.setIfInBounds b (.map (es.modify j fun e => { e with val := val v }) clock) }, ?_, hR _ ⟨⟨_, _, rfl, ?_, ?_, hnd⟩, ?_, nodup_putK _ _ _ hm.nodup, hm.inj⟩, hs.set hw hg.1 (fun k hk => hg.2 k hk) (by simp) rfl rfl rfl⟩
    · simp [execOp, hop, hρ x _ hx, hρ y _ hy, hρ z _ hz, Instr.entryStore, MapKept.run_getObj_map hw0, asInt, asIntOf, hfind, MapKept.run_setObj_map _ hw0, Result.andThen]
    · rw [putK_at hm.nodup hu, hmod, List.map_set, List.map_set, he, hk]
    · rw [hmod]
      intro q hq
      rcases List.mem_or_eq_of_mem_set hq with hq | rfl
      · exact hb q hq
      · exact hb e0 (List.mem_of_getElem? hj')
    · intro p hp
      have : p.1 ∈ (putK l a v).map Prod.fst := List.mem_map.2 ⟨p, hp, rfl⟩
      rcases (keys_putK l a v p.1).1 this with h | h
      · rw [h]; exact hm.ok (a, u) (List.mem_of_getElem? hu)
      · obtain ⟨q, hq, h2⟩ := List.mem_map.1 h; rw [← h2]; exact hm.ok q hq
end
section
variable {P : Program} {W0 : World} {H : Heap} {e : Env} {t t' : TypeId} {x y : Operand}
end
end Go.Own

namespace Go.Own
open Go.RowKit
/-- A store of a struct into a block, behind others. -/
theorem Eff.storeMidQ {P : Program} {W0 : World} {H : Heap} {e : Env} {t ty : TypeId} {x y : Operand} {R : Value → Heap → Prop} {bk o : Nat} {pre old post vs : List Value} {el : TypeId} {put : Obj → Heap} {size : Nat} (hx : opv e x = some (.pointer (some ⟨bk, o, none⟩))) (ho : o = pre.length) (hy : opv e y = some (.agg vs.toArray))
    [ht : AggT P t size] [hs : Spot H bk (.cells (pre ++ (old ++ post)).toArray el (0, 0)) put]
    (h1 : ∀ u ∈ vs, u.oneCell' = true) (hl : vs.length = old.length) (hsz : vs.length = size) (hR : R undef (put (.cells (pre ++ (vs ++ post)).toArray el (0, 0)))) : Eff P W0 e H (.store t x y) ty R :=
  Eff.skip fun ρ hρ w hw op hop => by
    subst ho
    have hst := run_storeCells_at P bk pre.length el vs 0 (pre ++ (old ++ post)).toArray w (hs.get hw) (by simp only [List.size_toArray, List.length_append]; omega) h1
    have hov : (pre ++ (old ++ post)).take (pre.length + 0) ++ vs ++ (pre ++ (old ++ post)).drop (pre.length + 0 + vs.length) = pre ++ (vs ++ post) := by
      rw [Nat.add_zero, List.take_left, List.append_assoc, ← List.drop_drop, List.drop_left, hl, List.drop_left]
    rw [hov] at hst
    refine ⟨_, w.setRow bk (pre ++ (vs ++ post)).toArray, ?_, hR, setRow_own hs hw⟩
    have hst' : (storeCells ⟨bk, pre.length, none⟩ vs).run P w = .ok () (w.setRow bk (pre ++ (vs ++ post)).toArray) := hst
    simp [execOp, hop, hρ x _ hx, hρ y _ hy, Instr.storeAt, Instr.sureAddr, storeVar, ht.size, Value.cells, hst', hsz]
/-- A row of which nothing is told but how long it is. -/
inductive Junk (el size : Nat) : Value → Nat → Heap → Prop
  | nil : Junk el size (.slice none 0 0) 0 []
  | row (b n cap : Nat) (cs : List Value) (h : n * size ≤ cs.length) : Junk el size (.slice (some ⟨b, 0, none⟩) n cap) n [(b, .cells cs.toArray el (0, 0))]
theorem Buf.junk {el size n : Nat} {v : Value} {xs : List Value} {B : Heap} (h : Buf el size v n xs B) : Junk el size v n B := by
  cases h with
  | nil => exact .nil
  | row b n cap xs extra h1 h2 h3 h4 => exact .row b n cap _ (by rw [List.length_append]; omega)
theorem Junk.slice {el size n : Nat} {v : Value} {B : Heap} (h : Junk el size v n B) : ∃ p c, v = .slice p n c := by
  cases h with
  | nil => exact ⟨none, 0, rfl⟩
  | row b n cap cs _ => exact ⟨_, cap, rfl⟩
/-- Where it is not empty: its block. -/
theorem Junk.get {el size n : Nat} {p : Option Addr} {c : Nat} {B : Heap} (h : Junk el size (.slice p n c) n B) {k : Nat} (hk : k < n) : ∃ b pre old post, p = some ⟨b, 0, none⟩ ∧ B = [(b, .cells (pre ++ (old ++ post)).toArray el (0, 0))] ∧ pre.length = k * size ∧ old.length = size ∧
    ∀ vs : List Value, vs.length = size → Junk el size (.slice p n c) n [(b, .cells (pre ++ (vs ++ post)).toArray el (0, 0))] := by
  generalize hv : Value.slice p n c = v at h
  cases h with
  | nil => cases hv; omega
  | row b n cap cs h =>
    cases hv
    have hkn : (k + 1) * size ≤ n * size := Nat.mul_le_mul_right _ hk
    have h1 : k * size + size ≤ cs.length := by rw [Nat.add_mul, Nat.one_mul] at hkn; omega
    have e1 : (cs.take (k * size)).length = k * size := by rw [List.length_take]; omega
    have e2 : ((cs.drop (k * size)).take size).length = size := by rw [List.length_take, List.length_drop]; omega
    refine ⟨b, cs.take (k * size), (cs.drop (k * size)).take size, (cs.drop (k * size)).drop size, rfl, ?_, e1, e2, fun vs hvs => ?_⟩
    · rw [List.take_append_drop, List.take_append_drop]
    · refine .row b n c _ ?_
      simp only [List.length_append, List.length_drop, e1, hvs]
      omega
end Go.Own
