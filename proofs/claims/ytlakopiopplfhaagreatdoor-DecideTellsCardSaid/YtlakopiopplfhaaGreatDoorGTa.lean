/-
  THE TREE OF A TRIE among what is owned: by what lies at the end of each path; over any program.
  PATTERNS AND RULES: strings.CutPrefix, HasSuffix; trie.pattern, Matches, Right; ascii.Visible.
  THE TREE: put.
  THE TREE: find.
-/
import Derived.Test.YtlakopiopplfhaaGreatDoorGOwn
import Derived.Test.YtlakopiopplfhaaGreatDoorOwnJ
import Derived.Test.YtlakopiopplfhaaGreatDoorGPl
import Derived.Test.YtlakopiopplfhaaGreatDoorGNm
namespace Go.Tri
open Go.Own

def ints (l : List Nat) : List Value := l.map fun (k : Nat) => .int .i64 (k : Int)
theorem ints_length (l : List Nat) : (ints l).length = l.length := by simp [ints]
theorem ints_append (l m : List Nat) : ints (l ++ m) = ints l ++ ints m := by simp [ints]
theorem ints_one (l : List Nat) : ∀ u ∈ ints l, u.oneCell' = true := by
  intro u hu
  obtain ⟨c, _, rfl⟩ := List.mem_map.1 hu
  rfl
def ptrOf (b : Nat) : Value := .pointer (some ⟨b, 0, none⟩)
abbrev Lab := List UInt8
mutual
inductive NodeH (tn ti : TypeId) : Fam → Value → Value → Value → Heap → Prop
  | leaf (f : Fam) (ve vl : Value) (Be Bl : Heap) (he : Buf ti 1 ve (f []).1.length (ints (f []).1) Be) (hl : Buf ti 1 vl (f []).2.length (ints (f []).2) Bl) (h0 : ∀ l p, f (l :: p) = ([], [])) : NodeH tn ti f ve vl (.map none) (Be ++ Bl)
  | node (f : Fam) (ve vl : Value) (Be Bl : Heap) (m : Nat) (o : Obj) (kids : List (Lab × Nat)) (Hk : Heap) (he : Buf ti 1 ve (f []).1.length (ints (f []).1) Be) (hl : Buf ti 1 vl (f []).2.length (ints (f []).2) Bl)
      (hm : MapIs isStr S ptrOf kids o) (hk : KidsH tn ti f kids Hk) (h0 : ∀ l, l ∉ kids.map Prod.fst → ∀ p, f (l :: p) = ([], [])) : NodeH tn ti f ve vl (.map (some m)) ((m, o) :: (Hk ++ (Be ++ Bl)))
inductive KidsH (tn ti : TypeId) : Fam → List (Lab × Nat) → Heap → Prop
  | nil (f : Fam) : KidsH tn ti f [] []
  | cons (f : Fam) (l : Lab) (b : Nat) (r : List (Lab × Nat)) (ve vl vm : Value) (H1 H2 : Heap) (hn : NodeH tn ti (sub f l) ve vl vm H1) (hr : KidsH tn ti f r H2) : KidsH tn ti f ((l, b) :: r) ((b, .cells #[ve, vl, vm] tn (0, 0)) :: (H1 ++ H2))
end
section
variable {tn ti : TypeId} {f g : Fam} {kids : List (Lab × Nat)} {Hk : Heap} {l : Lab} {b : Nat}
theorem KidsH.congr (h : KidsH tn ti f kids Hk) (hg : ∀ m ∈ kids.map Prod.fst, sub g m = sub f m) : KidsH tn ti g kids Hk := by
  induction kids generalizing Hk with
  | nil => cases h; exact .nil g
  | cons p r ih =>
    cases h with
    | cons _ l b _ ve vl vm H1 H2 hn hr =>
      refine .cons g l b r ve vl vm H1 H2 ?_ (ih hr (fun m hm => hg m (by simp [hm])))
      rw [hg l (by simp)]; exact hn
theorem KidsH.split (h : KidsH tn ti f kids Hk) (hn : (kids.map Prod.fst).Nodup) (hg : getK kids l = some b) :
    ∃ ve vl vm H1 R, Hk.Perm ((b, .cells #[ve, vl, vm] tn (0, 0)) :: (H1 ++ R)) ∧ NodeH tn ti (sub f l) ve vl vm H1 ∧
      ∀ (g : Fam) ve' vl' vm' H1', NodeH tn ti (sub g l) ve' vl' vm' H1' → (∀ m, m ≠ l → sub g m = sub f m) → ∃ Hk', KidsH tn ti g kids Hk' ∧ Hk'.Perm ((b, .cells #[ve', vl', vm'] tn (0, 0)) :: (H1' ++ R)) := by
  induction kids generalizing Hk with
  | nil => cases hg
  | cons p r ih =>
    cases h with
    | cons _ l' b' _ ve vl vm H1 H2 hnode hr =>
      simp only [List.map_cons, List.nodup_cons] at hn
      simp only [getK] at hg
      split at hg
      · rename_i he
        subst he
        cases hg
        refine ⟨ve, vl, vm, H1, H2, .refl _, hnode, fun g ve' vl' vm' H1' hnode' hs => ⟨_, .cons g l' b r ve' vl' vm' H1' H2 hnode' (hr.congr fun m hm => hs m ?_), .refl _⟩⟩
        rintro rfl; exact hn.1 hm
      · rename_i he
        obtain ⟨ve0, vl0, vm0, H0, R, hp, hn0, hup⟩ := ih hr hn.2 hg
        refine ⟨ve0, vl0, vm0, H0, (b', .cells #[ve, vl, vm] tn (0, 0)) :: (H1 ++ R), ?_, hn0, fun g ve' vl' vm' H1' hnode' hs => ?_⟩
        · have h1 := (hp.append_left H1).cons (b', Obj.cells #[ve, vl, vm] tn (0, 0))
          refine h1.trans ?_
          have h2 : (H1 ++ (b, Obj.cells #[ve0, vl0, vm0] tn (0, 0)) :: (H0 ++ R)).Perm ((b, Obj.cells #[ve0, vl0, vm0] tn (0, 0)) :: (H0 ++ (H1 ++ R))) :=
            List.perm_middle.trans ((List.perm_append_comm_assoc H1 H0 R).cons _)
          refine (h2.cons _).trans ((List.Perm.swap _ _ _).trans ?_)
          exact (List.perm_middle.symm).cons _
        · obtain ⟨Hk', hk', hp'⟩ := hup g ve' vl' vm' H1' hnode' hs
          refine ⟨_, .cons g l' b' r ve vl vm H1 Hk' (by rw [hs l' he]; exact hnode) hk', ?_⟩
          have h1 := (hp'.append_left H1).cons (b', Obj.cells #[ve, vl, vm] tn (0, 0))
          refine h1.trans ?_
          have h2 : (H1 ++ (b, Obj.cells #[ve', vl', vm'] tn (0, 0)) :: (H1' ++ R)).Perm ((b, Obj.cells #[ve', vl', vm'] tn (0, 0)) :: (H1' ++ (H1 ++ R))) :=
            List.perm_middle.trans ((List.perm_append_comm_assoc H1 H1' R).cons _)
          refine (h2.cons _).trans ((List.Perm.swap _ _ _).trans ?_)
          exact (List.perm_middle.symm).cons _
theorem KidsH.snoc (h : KidsH tn ti f kids Hk) {ve vl vm : Value} {H1 : Heap} (hn : NodeH tn ti (sub g l) ve vl vm H1) (hs : ∀ m ∈ kids.map Prod.fst, sub g m = sub f m) :
    ∃ Hk', KidsH tn ti g (kids ++ [(l, b)]) Hk' ∧ Hk'.Perm ((b, .cells #[ve, vl, vm] tn (0, 0)) :: (H1 ++ Hk)) := by
  induction kids generalizing Hk with
  | nil =>
    cases h
    exact ⟨_, .cons g l b [] ve vl vm H1 [] hn (.nil g), .refl _⟩
  | cons p r ih =>
    cases h with
    | cons _ l' b' _ ve0 vl0 vm0 H0 H2 hnode hr =>
      obtain ⟨Hk', hk', hp'⟩ := ih hr (fun m hm => hs m (by simp [hm]))
      refine ⟨_, .cons g l' b' (r ++ [(l, b)]) ve0 vl0 vm0 H0 Hk' (by rw [hs l' (by simp)]; exact hnode) hk', ?_⟩
      have h1 := (hp'.append_left H0).cons (b', Obj.cells #[ve0, vl0, vm0] tn (0, 0))
      refine h1.trans ?_
      have h2 : (H0 ++ (b, Obj.cells #[ve, vl, vm] tn (0, 0)) :: (H1 ++ H2)).Perm ((b, Obj.cells #[ve, vl, vm] tn (0, 0)) :: (H1 ++ (H0 ++ H2))) :=
        List.perm_middle.trans ((List.perm_append_comm_assoc H0 H1 H2).cons _)
      refine (h2.cons _).trans ((List.Perm.swap _ _ _).trans ?_)
      exact (List.perm_middle.symm).cons _
/-- A node with nothing in it. -/
theorem NodeH.empty (tn ti : TypeId) : NodeH tn ti (fun _ => ([], [])) (.slice none 0 0) (.slice none 0 0) (.map none) [] := by
  have := NodeH.leaf (tn := tn) (ti := ti) (fun _ => ([], [])) (.slice none 0 0) (.slice none 0 0) [] [] .nil .nil (fun _ _ => rfl)
  exact this
end
end Go.Tri

namespace Go.Tri
open Go.Own Go.Proofs Go.RowKit Go.Lib Go.Asc Go.Adr Go.Nam
attribute [local irreducible] GC GQ G Rd Eff T
set_option maxRecDepth 20000
set_option maxHeartbeats 4000000

attribute [local irreducible] named patL matchL visL
/-- A rule's cells. -/
abbrev ruA (r : Ru) : Array Value := #[.bool r.allow, .int .i64 r.prio, S r.pat, .int .i64 r.port, S r.alpn]
abbrev ruV (r : Ru) : Value := .agg (ruA r)
section
variable {W0 : World} {F : Heap}
theorem pre_spec (l p : List UInt8) (_ : l.length ≤ 140737488351232) (_ : p.length ≤ 140737488351232) : T Tryz.prog W0 158 #[S l, S p] F (fun v H' => v = .bool (decide (l.take p.length = p)) ∧ H' = F) := by
  refine T.intro (args := [_, _]) Tryz.func158 rfl Tryz.ntmps158 rfl ?_
  by_cases hlt : p.length ≤ l.length
  · repeat' first | refine Y.st ?_ | (refine nw ?_; intro _) | refine Y.kn ?_ | (refine sp ?_ ?_ <;> intro _) | fail
    exact GQ.pure1 rfl (.tmp rfl) rfl
  · have hne : ¬ l.take p.length = p := fun h => by
      have := congrArg List.length h
      rw [List.length_take] at this; omega
    repeat' first | refine Y.st ?_ | (refine nw ?_; intro _) | refine Y.kn ?_ | (refine sp ?_ ?_ <;> intro _) | fail
    exact GQ.pure1 rfl (.tmp rfl) (by rw [decide_eq_false hne])
instance {l p : List UInt8} : PureF Tryz.prog W0 158 [S l, S p] (l.length ≤ 140737488351232 ∧ p.length ≤ 140737488351232) (.bool (decide (l.take p.length = p))) := ⟨fun h _ => pre_spec l p h.1 h.2⟩
theorem cutPre_spec (l : List UInt8) (hl : l.length ≤ 140737488351232) : T Tryz.prog W0 93 #[S l, S [42, 46]] F (fun v H' => v = .tuple #[S (restL l), .bool (wildL l)] ∧ H' = F) := by
  have hi : ∀ F, T Tryz.prog W0 124 #[S l, S [42, 46]] F (fun v H' => v = .tuple #[S (restL l), .bool (wildL l)] ∧ H' = F) := fun F => by
    refine T.intro (args := [_, _]) Tryz.func124 rfl Tryz.ntmps124 rfl ?_
    have h2 : [(42 : UInt8), 46].length = 2 := rfl
    by_cases h : l.take 2 = [42, 46]
    · have hlen : 2 ≤ l.length := by have := congrArg List.length h; rw [List.length_take] at this; simp at this; omega
      have hc : cutP l = some (l.drop 2) := by simp [cutP, h]
      have hdec : decide (l.take [(42 : UInt8), 46].length = [42, 46]) = true := by simpa using h
      repeat' first | refine Y.st ?_ | (refine nw ?_; intro _) | refine Y.kn ?_ | (refine sp ?_ ?_ <;> intro _) | fail
      exact GQ.pure2 rfl (.tmp rfl) (.tmp rfl) (by simp [restL, wildL, hc])
    · have hc : cutP l = none := by simp [cutP, h]
      have hdec : decide (l.take [(42 : UInt8), 46].length = [42, 46]) = false := by simpa using h
      repeat' first | refine Y.st ?_ | (refine nw ?_; intro _) | refine Y.kn ?_ | (refine sp ?_ ?_ <;> intro _) | fail
      exact GQ.pure2 rfl (.tmp rfl) (.tmp rfl) (by simp [restL, wildL, hc])
  haveI : PureF Tryz.prog W0 124 [S l, S [42, 46]] True (.tuple #[S (restL l), .bool (wildL l)]) := ⟨fun _ F => hi F⟩
  refine T.intro (args := [_, _]) Tryz.func93 rfl Tryz.ntmps93 rfl ?_
  repeat' first | refine Y.st ?_ | (refine nw ?_; intro _) | refine Y.kn ?_ | (refine sp ?_ ?_ <;> intro _) | fail
  exact GQ.pure2 rfl (.tmp rfl) (.tmp rfl) rfl
instance {l : List UInt8} : PureF Tryz.prog W0 93 [S l, .string ⟨#[42, 46]⟩] (l.length ≤ 140737488351232) (.tuple #[S (restL l), .bool (wildL l)]) := ⟨fun h _ => cutPre_spec l h⟩
theorem rest_len (p : List UInt8) : (restL p).length ≤ p.length := by
  unfold restL
  cases h : cutP p with
  | none => simp
  | some r => rw [cutP_some h]; simp; omega
theorem named_eq {s : List UInt8} : (Value.bool (decide (((normalL s).2 : Int) = 0) && decide ((normalL s).1 = s))) = .bool (named s) := by
  congr 1
  rw [Bool.eq_iff_iff]
  simp only [named, Bool.and_eq_true, decide_eq_true_eq]
  constructor
  · rintro ⟨h1, h2⟩; exact Prod.ext h2 (by simpa using h1)
  · intro h; rw [h]; exact ⟨rfl, rfl⟩
theorem named_spec (hv : Vars W0) (s : List UInt8) (hl : s.length < 4294967281) : T Tryz.prog W0 154 #[S s] F (fun v H' => v = .bool (named s) ∧ H' = F) := by
  refine T.intro (args := [_]) Tryz.func154 rfl Tryz.ntmps154 rfl ?_
  rw [← named_eq]
  repeat' first | refine Y.st ?_ | (refine nw ?_; intro _) | refine Y.kn ?_ | (refine sp ?_ ?_ <;> intro _) | fail
  all_goals exact GQ.pure1 rfl (.tmp rfl) (by first | (rw [decide_eq_true ‹((normalL s).2 : Int) = 0›]; rfl) | (rw [decide_eq_false ‹¬ ((normalL s).2 : Int) = 0›]; rfl))
instance [hv : Vars W0] {s : List UInt8} : PureF Tryz.prog W0 154 [S s] (s.length < 4294967281) (.bool (named s)) := ⟨fun h _ => named_spec hv s h⟩
theorem address_spec (hv : Vars W0) (s : List UInt8) (hl : s.length < 4294967281) : T Tryz.prog W0 155 #[S s] F (fun v H' => v = .bool (parseL s).isSome ∧ H' = F) := by
  refine T.intro (args := [_]) Tryz.func155 rfl Tryz.ntmps155 rfl ?_
  repeat' first | refine Y.st ?_ | (refine nw ?_; intro _) | refine Y.kn ?_ | (refine sp ?_ ?_ <;> intro _) | fail
  exact GQ.pure1 rfl (.tmp rfl) rfl
instance [hv : Vars W0] {s : List UInt8} : PureF Tryz.prog W0 155 [S s] (s.length < 4294967281) (.bool (parseL s).isSome) := ⟨fun h _ => address_spec hv s h⟩
theorem pattern_spec (hv : Vars W0) (p : List UInt8) (hl : p.length < 4294967281) : T Tryz.prog W0 122 #[S p] F (fun v H' => v = .bool (patL p) ∧ H' = F) := by
  have hr := rest_len p
  refine T.intro (args := [_]) Tryz.func122 rfl Tryz.ntmps122 rfl ?_
  cases hc : cutP p with
  | some r =>
    have hw : wildL p = true := by simp [wildL, hc]
    have hrr : restL p = r := by simp [restL, hc]
    have hp : patL p = (named (restL p) && !(parseL (restL p)).isSome) := by
      rw [hrr]; simp only [patL, hc]; cases parseL r <;> rfl
    repeat' first | refine Y.st ?_ | (refine nw ?_; intro _) | refine Y.kn ?_ | (refine sp ?_ ?_ <;> intro _) | fail
    all_goals exact GQ.pure1 rfl (.tmp rfl) (by rw [hp]; first | rfl | (rw [‹named (restL p) = true›]; rfl) | (rw [‹named (restL p) = false›]; rfl))
  | none =>
    have hw : wildL p = false := by simp [wildL, hc]
    have hp : patL p = (decide (p = [42]) || named p) := by simp only [patL, hc]
    repeat' first | refine Y.st ?_ | (refine nw ?_; intro _) | refine Y.kn ?_ | (refine sp ?_ ?_ <;> intro _) | fail
    all_goals exact GQ.pure1 rfl (.tmp rfl) (by rw [hp]; congr 1; simp [*])
instance [hv : Vars W0] {s : List UInt8} : PureF Tryz.prog W0 122 [S s] (s.length < 4294967281) (.bool (patL s)) := ⟨fun h _ => pattern_spec hv s h⟩
def visC (c : Nat) : Bool := decide (33 ≤ c) && decide (c ≤ 126)
theorem vis_pred : RunePred 157 visC := fun W0 F c hc => by
  refine T.intro (args := [_]) Tryz.func157 rfl Tryz.ntmps157 rfl ?_
  by_cases h1 : 33 ≤ c
  · by_cases h2 : c ≤ 126
    · repeat' first | refine Y.st ?_ | (refine nw ?_; intro _) | refine Y.kn ?_ | (refine sp ?_ ?_ <;> intro _) | fail
      exact GQ.pure1 rfl (.tmp rfl) (by simp [visC, h1, h2])
    · repeat' first | refine Y.st ?_ | (refine nw ?_; intro _) | refine Y.kn ?_ | (refine sp ?_ ?_ <;> intro _) | fail
      exact GQ.pure1 rfl (.tmp rfl) (by simp [visC, h1, h2])
  · repeat' first | refine Y.st ?_ | (refine nw ?_; intro _) | refine Y.kn ?_ | (refine sp ?_ ?_ <;> intro _) | fail
    exact GQ.pure1 rfl (.tmp rfl) (by simp [visC, h1])
theorem visible_spec (l : List UInt8) : T Tryz.prog W0 123 #[S l] F (fun v H' => v = .bool (visL l) ∧ H' = F) := by
  refine T.intro (args := [_]) Tryz.func123 rfl Tryz.ntmps123 rfl ?_
  repeat' first | refine Y.st ?_ | (refine nw ?_; intro _) | refine Y.kn ?_ | fail
  refine G.ef rfl rfl rfl (Eff.callF rfl ((all_spec vis_pred (fun c h => by simp [visC] at h; omega) l).mono ?_))
  rintro v H' ⟨rfl, rfl⟩
  repeat' first | refine Y.st ?_ | (refine nw ?_; intro _) | refine Y.kn ?_ | (refine sp ?_ ?_ <;> intro _) | fail
  exact GQ.pure1 rfl (.tmp rfl) (by rw [visL, Bool.and_comm]; rfl)
instance {l : List UInt8} : PureF Tryz.prog W0 123 [S l] True (.bool (visL l)) := ⟨fun _ _ => visible_spec l⟩
theorem right_spec (hv : Vars W0) (r : Ru) (hl : r.pat.length < 4294967281) : T Tryz.prog W0 92 #[ruV r] F (fun v H' => v = .int .i64 (rightL r) ∧ H' = F) := by
  refine T.intro (args := [_]) Tryz.func92 rfl Tryz.ntmps92 rfl ?_
  by_cases h1 : r.prio < -1000 ∨ 1000 < r.prio
  · have hr : rightL r = 1 := by rw [rightL, if_pos h1]
    repeat' first | refine Y.st ?_ | (refine nw ?_; intro _) | refine Y.kn ?_ | (refine sp ?_ ?_ <;> intro _) | fail
    all_goals first | (exfalso; omega) | exact GQ.pure1 rfl (.tmp rfl) (by rw [hr])
  · cases h2 : patL r.pat with
    | false =>
      have hr : rightL r = 9 := by rw [rightL, if_neg h1, if_pos h2]
      repeat' first | refine Y.st ?_ | (refine nw ?_; intro _) | refine Y.kn ?_ | (refine sp ?_ ?_ <;> intro _) | fail
      all_goals first | (exfalso; omega) | exact GQ.pure1 rfl (.tmp rfl) (by rw [hr])
    | true =>
      by_cases h3 : r.port < 0 ∨ 65535 < r.port
      · have hr : rightL r = 10 := by rw [rightL, if_neg h1, if_neg (by simp [h2]), if_pos h3]
        repeat' first | refine Y.st ?_ | (refine nw ?_; intro _) | refine Y.kn ?_ | (refine sp ?_ ?_ <;> intro _) | fail
        all_goals first | (exfalso; omega) | exact GQ.pure1 rfl (.tmp rfl) (by rw [hr])
      · cases h5 : visL r.alpn with
        | false =>
          by_cases h6 : r.alpn = []
          · have hlen : r.alpn.length = 0 := by rw [h6]; rfl
            have hr : rightL r = 0 := by rw [rightL, if_neg h1, if_neg (by simp [h2]), if_neg h3, if_neg (by simp [h6])]
            repeat' first | refine Y.st ?_ | (refine nw ?_; intro _) | refine Y.kn ?_ | (refine sp ?_ ?_ <;> intro _) | fail
            all_goals first | (exfalso; omega) | (exfalso; contradiction) | exact GQ.pure1 rfl (.tmp rfl) (by rw [hr])
          · have hr : rightL r = 1 := by rw [rightL, if_neg h1, if_neg (by simp [h2]), if_neg h3, if_pos (.inl ⟨h6, h5⟩)]
            repeat' first | refine Y.st ?_ | (refine nw ?_; intro _) | refine Y.kn ?_ | (refine sp ?_ ?_ <;> intro _) | fail
            all_goals first | (exfalso; omega) | (exfalso; contradiction) | exact GQ.pure1 rfl (.tmp rfl) (by rw [hr])
        | true =>
          by_cases h4 : 255 < r.alpn.length
          · have hr : rightL r = 1 := by rw [rightL, if_neg h1, if_neg (by simp [h2]), if_neg h3, if_pos (.inr h4)]
            repeat' first | refine Y.st ?_ | (refine nw ?_; intro _) | refine Y.kn ?_ | (refine sp ?_ ?_ <;> intro _) | fail
            all_goals first | (exfalso; omega) | (exfalso; contradiction) | exact GQ.pure1 rfl (.tmp rfl) (by rw [hr])
          · have hr : rightL r = 0 := by rw [rightL, if_neg h1, if_neg (by simp [h2]), if_neg h3, if_neg (by rw [h5]; simp; omega)]
            repeat' first | refine Y.st ?_ | (refine nw ?_; intro _) | refine Y.kn ?_ | (refine sp ?_ ?_ <;> intro _) | fail
            all_goals first | (exfalso; omega) | (exfalso; contradiction) | exact GQ.pure1 rfl (.tmp rfl) (by rw [hr])
instance [hv : Vars W0] {r : Ru} : PureF Tryz.prog W0 92 [.agg #[.bool r.allow, .int .i64 r.prio, S r.pat, .int .i64 r.port, S r.alpn]] (r.pat.length < 4294967281) (.int .i64 (rightL r)) := ⟨fun h _ => right_spec hv r h⟩
end
end Go.Tri

namespace Go.Tri
open Go.Own Go.Proofs Go.RowKit Go.Lib Go.Asc Go.Adr Go.Nam
attribute [local irreducible] GC GQ G Rd Eff T
set_option maxRecDepth 20000
set_option maxHeartbeats 4000000
attribute [local irreducible] named patL matchL visL

instance : MapT Tryz.prog 150 9 204 isStr (.pointer none) := ⟨Tryz.underlying150, strLaws Tryz.underlying9, Tryz.zeroValue204⟩
abbrev NodeQ := NodeH 152 3
abbrev KidsQ := KidsH 152 3
abbrev nodeC (pre post : List Value) (ve vl vm : Value) : Array Value := (pre ++ ve :: vl :: vm :: post).toArray
open Classical in
theorem permN {H H' : Heap} (h : ∀ a, List.count a H = List.count a H' := by
    intro a; simp only [nodeC, List.nil_append, List.count_append, List.count_cons, List.count_nil]; try omega) : H.Perm H' := List.perm_iff_count.2 h
theorem nc0 {pre post : List Value} {ve vl vm : Value} : (nodeC pre post ve vl vm)[pre.length + 0]? = some ve := by simp [nodeC]
theorem nc1 {pre post : List Value} {ve vl vm : Value} : (nodeC pre post ve vl vm)[pre.length + 1]? = some vl := by simp [nodeC]
theorem nc2 {pre post : List Value} {ve vl vm : Value} : (nodeC pre post ve vl vm)[pre.length + 2]? = some vm := by simp [nodeC]
theorem ns0 {pre post : List Value} {ve vl vm u : Value} : (nodeC pre post ve vl vm).setIfInBounds (pre.length + 0) u = nodeC pre post u vl vm := by simp [nodeC, List.set_append_right]
theorem ns1 {pre post : List Value} {ve vl vm u : Value} : (nodeC pre post ve vl vm).setIfInBounds (pre.length + 1) u = nodeC pre post ve u vm := by simp [nodeC, List.set_append_right]
theorem ns2 {pre post : List Value} {ve vl vm u : Value} : (nodeC pre post ve vl vm).setIfInBounds (pre.length + 2) u = nodeC pre post ve vl u := by simp [nodeC, List.set_append_right]
theorem nsz {pre post : List Value} {ve vl vm : Value} {i : Nat} (h : i < 3) : pre.length + i < (nodeC pre post ve vl vm).size := by simp [nodeC]; omega
section
variable {tn ti : TypeId}
theorem NodeH.inv {f : Fam} {ve vl vm : Value} {Hn : Heap} (h : NodeH tn ti f ve vl vm Hn) : ∃ Be Bl, Buf ti 1 ve (f []).1.length (ints (f []).1) Be ∧ Buf ti 1 vl (f []).2.length (ints (f []).2) Bl ∧
    ((vm = .map none ∧ Hn = Be ++ Bl ∧ ∀ l p, f (l :: p) = ([], [])) ∨ ∃ m o kids Hk, vm = .map (some m) ∧ Hn = (m, o) :: (Hk ++ (Be ++ Bl)) ∧ MapIs isStr S ptrOf kids o ∧ KidsH tn ti f kids Hk ∧ ∀ l, l ∉ kids.map Prod.fst → ∀ p, f (l :: p) = ([], [])) := by
  cases h with
  | leaf _ _ _ Be Bl he hl h0 => exact ⟨Be, Bl, he, hl, .inl ⟨rfl, rfl, h0⟩⟩
  | node _ _ _ Be Bl m o kids Hk he hl hm hk h0 => exact ⟨Be, Bl, he, hl, .inr ⟨m, o, kids, Hk, rfl, rfl, hm, hk, h0⟩⟩
theorem S_inj : ∀ a b : Lab, S a = S b → a = b := fun a b h => by
  have h1 : (⟨a.toArray⟩ : ByteArray) = ⟨b.toArray⟩ := Value.string.inj h
  exact Array.toList_inj.2 (congrArg ByteArray.data h1)
end
section
variable {W0 : World}
/-- What put leaves. -/
def PutR (f : Fam) (p : List Lab) (longer : Bool) (k : Nat) (b : Nat) (pre post : List Value) (bt : TypeId) (F : Heap) : Value → Heap → Prop := fun v H' =>
  ∃ ve vl vm Hn, v = .tuple #[] ∧ NodeQ (putF f p longer k) ve vl vm Hn ∧ H'.Perm ((b, .cells (nodeC pre post ve vl vm) bt (0, 0)) :: (Hn ++ F))
theorem put_spec (longer : Bool) (k : Nat) (all : List Lab) (lb : Nat) : ∀ (n lo lo' c : Nat), lo + n = all.length → n ≤ c → (0 < n → lo' = lo) → ∀ (f : Fam) (ve vl vm : Value) (Hn F : Heap) (b : Nat) (pre post : List Value) (bt : TypeId),
    NodeQ f ve vl vm Hn → (∀ p, (f p).1.length ≤ 1000 ∧ (f p).2.length ≤ 1000) → Has F lb (.cells (strs all).toArray 9 (0, 0)) →
    T Tryz.prog W0 94 #[.pointer (some ⟨b, pre.length, none⟩), .slice (some ⟨lb, lo', none⟩) n c, .bool longer, .int .i64 (k : Int)] ((b, .cells (nodeC pre post ve vl vm) bt (0, 0)) :: (Hn ++ F)) (PutR f (all.drop lo) longer k b pre post bt F) := by
  intro n
  induction n with
  | zero =>
    intro lo lo' c hlo hc hl0 f ve vl vm Hn F b pre post bt hN hb hF
    have hd : all.drop lo = [] := List.drop_eq_nil_of_le (by omega)
    rw [hd]
    obtain ⟨Be, Bl, he, hl, hcase⟩ := hN.inv
    have hbb := hb []
    have key : ∃ Hr, Hn.Perm (Be ++ (Bl ++ Hr)) ∧ ∀ (g : Fam) ve' vl' Be' Bl', Buf 3 1 ve' (g []).1.length (ints (g []).1) Be' → Buf 3 1 vl' (g []).2.length (ints (g []).2) Bl' → (∀ l p, g (l :: p) = f (l :: p)) →
        ∃ Hn', NodeQ g ve' vl' vm Hn' ∧ Hn'.Perm (Be' ++ (Bl' ++ Hr)) := by
      rcases hcase with ⟨rfl, rfl, h0⟩ | ⟨m, o, kids, Hk, rfl, rfl, hm, hk, h0⟩
      · exact ⟨[], by simp, fun g ve' vl' Be' Bl' h1 h2 h3 => ⟨_, .leaf g ve' vl' Be' Bl' h1 h2 (fun l p => by rw [h3, h0]), by simp⟩⟩
      · refine ⟨(m, o) :: Hk, by exact permC, fun g ve' vl' Be' Bl' h1 h2 h3 => ⟨_, .node g ve' vl' Be' Bl' m o kids Hk h1 h2 hm (hk.congr fun l _ => funext fun p => h3 l p) (fun l hl p => by rw [h3, h0 l hl]), by exact permC⟩⟩
    obtain ⟨Hr, hp, hre⟩ := key
    refine T.perm (H' := (b, .cells (nodeC pre post ve vl vm) bt (0, 0)) :: (Be ++ (Bl ++ (Hr ++ F)))) ?_ (.cons _ ((hp.append_right F).trans (by simp)))
    refine T.intro (args := [_, _, _, _]) Tryz.func94 rfl Tryz.ntmps94 rfl ?_
    have c0 := nc0 (pre := pre) (post := post) (ve := ve) (vl := vl) (vm := vm)
    have c1 := nc1 (pre := pre) (post := post) (ve := ve) (vl := vl) (vm := vm)
    cases longer with
    | true =>
      repeat' first | refine Y.st ?_ | (refine nw ?_; intro _) | refine Y.kn ?_ | fail
      refine G.ef rfl rfl rfl (Eff.buildSlice (cells := #[.int .i64 (k : Int)]) rfl (by kernel_rfl) (by omega) (fun b2 => ?_))
      repeat' first | refine Y.st ?_ | (refine nw ?_; intro _) | refine Y.kn ?_ | fail
      refine G.ef rfl rfl rfl (Eff.app (ys := ints [k]) (F := (b2, .cells #[.int .i64 (k : Int)] 3 (0, 0)) :: (b, .cells (nodeC pre post ve vl vm) bt (0, 0)) :: (Be ++ (Hr ++ F))) rfl hl rfl (hH := ⟨by exact permC⟩) (by omega) rfl (at_here (cs := ints [k])) (ints_one _) (by omega) (by omega) (fun v' B' hB' => ?_))
      repeat' first | refine Y.st ?_ | (refine nw ?_; intro _) | refine Y.kn ?_ | fail
      refine G.ef rfl rfl rfl (Eff.store rfl rfl (by cases hB' <;> rfl) (nsz (by omega)) (by simp [Fz]) ?_)
      rw [ns1]
      repeat' first | refine Y.st ?_ | (refine nw ?_; intro _) | refine Y.kn ?_ | fail
      refine GQ.heap (H' := (b, .cells (nodeC pre post ve v' vm) bt (0, 0)) :: (B' ++ (Be ++ (Hr ++ F)))) ?_ (fun w hw => (hw.perm (H' := (b2, .cells #[.int .i64 (k : Int)] 3 (0, 0)) :: (b, .cells (nodeC pre post ve v' vm) bt (0, 0)) :: (B' ++ (Be ++ (Hr ++ F)))) (by exact permC)).sub (List.sublist_cons_self _ _))
      refine GQ.done0n rfl ?_
      obtain ⟨Hn', h1, h2⟩ := hre (putF f [] true k) ve v' Be B' (by simpa [putF] using he) (by simpa [putF, ints_append] using hB') (fun l p => by simp [putF])
      refine ⟨ve, v', vm, Hn', rfl, h1, .cons _ (List.Perm.trans ?_ (h2.symm.append_right F))⟩
      exact permC
    | false =>
      repeat' first | refine Y.st ?_ | (refine nw ?_; intro _) | refine Y.kn ?_ | fail
      refine G.ef rfl rfl rfl (Eff.buildSlice (cells := #[.int .i64 (k : Int)]) rfl (by kernel_rfl) (by omega) (fun b2 => ?_))
      repeat' first | refine Y.st ?_ | (refine nw ?_; intro _) | refine Y.kn ?_ | fail
      refine G.ef rfl rfl rfl (Eff.app (ys := ints [k]) (F := (b2, .cells #[.int .i64 (k : Int)] 3 (0, 0)) :: (b, .cells (nodeC pre post ve vl vm) bt (0, 0)) :: (Bl ++ (Hr ++ F))) rfl he rfl (hH := ⟨by exact permC⟩) (by omega) rfl (at_here (cs := ints [k])) (ints_one _) (by omega) (by omega) (fun v' B' hB' => ?_))
      repeat' first | refine Y.st ?_ | (refine nw ?_; intro _) | refine Y.kn ?_ | fail
      refine G.ef rfl rfl rfl (Eff.store rfl rfl (by cases hB' <;> rfl) (nsz (by omega)) (by simp [Fz]) ?_)
      rw [ns0]
      repeat' first | refine Y.st ?_ | (refine nw ?_; intro _) | refine Y.kn ?_ | fail
      refine GQ.heap (H' := (b, .cells (nodeC pre post v' vl vm) bt (0, 0)) :: (B' ++ (Bl ++ (Hr ++ F)))) ?_ (fun w hw => (hw.perm (H' := (b2, .cells #[.int .i64 (k : Int)] 3 (0, 0)) :: (b, .cells (nodeC pre post v' vl vm) bt (0, 0)) :: (B' ++ (Bl ++ (Hr ++ F)))) (by exact permC)).sub (List.sublist_cons_self _ _))
      refine GQ.done0n rfl ?_
      obtain ⟨Hn', h1, h2⟩ := hre (putF f [] false k) v' vl B' Bl (by simpa [putF, ints_append] using hB') (by simpa [putF] using hl) (fun l p => by simp [putF])
      refine ⟨v', vl, vm, Hn', rfl, h1, .cons _ (List.Perm.trans ?_ (h2.symm.append_right F))⟩
      exact permC
  | succ n ih =>
    intro lo lo' c hlo hc hl0 f ve vl vm Hn F b pre post bt hN hb hF
    obtain rfl := hl0 (by omega)
    have hlt : lo' < all.length := by omega
    have hd : all.drop lo' = all[lo'] :: all.drop (lo' + 1) := List.drop_eq_getElem_cons hlt
    rw [hd]
    obtain ⟨Be, Bl, he, hl, hcase⟩ := hN.inv
    have lcell : (strs all).toArray[lo' + 0 * 1]? = some (S all[lo']) := by simp [strs, hlt]
    have c2 := nc2 (pre := pre) (post := post) (ve := ve) (vl := vl) (vm := vm)
    refine T.intro (args := [_, _, _, _]) Tryz.func94 rfl Tryz.ntmps94 rfl ?_
    iterate 10 refine Y.one ?_
    refine GC.cutE (ι := { i : Nat × Obj × List (Lab × Nat) × Heap // MapIs isStr S ptrOf i.2.2.1 i.2.1 ∧ KidsQ f i.2.2.1 i.2.2.2 ∧ ∀ l, l ∉ i.2.2.1.map Prod.fst → ∀ p, f (l :: p) = ([], []) }) (fun _ => [])
      [(0, .pointer (some ⟨b, pre.length, none⟩)), (1, .slice (some ⟨lb, lo', none⟩) (n + 1) c), (2, .bool longer), (3, .int .i64 (k : Int))] (fun i => (b, .cells (nodeC pre post ve vl (.map (some i.1.1))) bt (0, 0)) :: (i.1.1, i.1.2.1) :: (i.1.2.2.2 ++ (Be ++ (Bl ++ F)))) ?_ ?_
    · rcases hcase with ⟨rfl, rfl, h0⟩ | ⟨m, o, kids, Hk, rfl, rfl, hm, hk, h0⟩
      · repeat' first | refine Y.st ?_ | (refine nw ?_; intro _) | refine Y.kn ?_ | fail
        refine G.ef rfl rfl rfl (Eff.makeMap (fun m => ?_))
        repeat' first | refine Y.st ?_ | (refine nw ?_; intro _) | refine Y.kn ?_ | fail
        rw [ns2]
        refine GQ.cutEnd ⟨(m, .map #[] 0, [], []), MapIs.empty S_inj, .nil f, fun l _ => h0 l⟩ ⟨rfl, rfl, rfl, rfl, trivial⟩ (fun w hw => hw.perm ?_)
        exact permC
      · repeat' first | refine Y.st ?_ | (refine nw ?_; intro _) | refine Y.kn ?_ | fail
        refine GQ.cutEnd ⟨(m, o, kids, Hk), hm, hk, h0⟩ ⟨rfl, rfl, rfl, rfl, trivial⟩ (fun w hw => hw.perm ?_)
        exact permC
    rintro ⟨⟨m, o, kids, Hk⟩, hm, hk, h0⟩
    dsimp only at hm hk h0 ⊢
    have c2 := nc2 (pre := pre) (post := post) (ve := ve) (vl := vl) (vm := .map (some m))
    refine GC.cutE (ι := { i : Obj × List (Lab × Nat) × Heap × Nat // MapIs isStr S ptrOf i.2.1 i.1 ∧ KidsQ f i.2.1 i.2.2.1 ∧ (∀ l, l ∉ i.2.1.map Prod.fst → ∀ p, f (l :: p) = ([], [])) ∧ getK i.2.1 all[lo'] = some i.2.2.2 }) (fun _ => [])
      [(0, .pointer (some ⟨b, pre.length, none⟩)), (1, .slice (some ⟨lb, lo', none⟩) (n + 1) c), (2, .bool longer), (3, .int .i64 (k : Int))] (fun i => (b, .cells (nodeC pre post ve vl (.map (some m))) bt (0, 0)) :: (m, i.1.1) :: (i.1.2.2.1 ++ (Be ++ (Bl ++ F)))) ?_ ?_
    · refine GC.seq ?_
      refine GC.drawnH [(0, .read), (1, .read), (2, .read), (3, .read), (4, .read), (5, .read), (6, .read), (7, .read), (8, .read)] (by kernel_rfl) (by kernel_rfl) rfl ?_
      repeat' first | refine Y.st ?_ | (refine nw ?_; intro _) | refine Y.kn ?_ | fail
      refine G.rd (Rd.look rfl rfl hm ⟨_, rfl⟩) rfl rfl ?_
      cases hg : getK kids all[lo'] with
      | some bc =>
        have hlk : lookV ptrOf kids all[lo'] (.pointer none) = .pointer (some ⟨bc, 0, none⟩) := by simp only [lookV, hg]; rfl
        rw [hlk]
        repeat' first | refine Y.st ?_ | (refine nw ?_; intro _) | refine Y.kn ?_ | fail
        refine GQ.cutEnd ⟨(o, kids, Hk, bc), hm, hk, h0, hg⟩ ⟨rfl, rfl, rfl, rfl, trivial⟩ (fun w hw => hw)
      | none =>
        have hlk : lookV ptrOf kids all[lo'] (.pointer none) = .pointer none := by simp only [lookV, hg]
        rw [hlk]
        repeat' first | refine Y.st ?_ | (refine nw ?_; intro _) | refine Y.kn ?_ | fail
        refine GC.drawnH [(0, .read), (1, .read), (2, .read), (3, .read), (4, .read), (5, .read), (6, .read), (7, .read), (8, .eff), (9, .tail)] (by kernel_rfl) (by kernel_rfl) rfl ?_
        repeat' first | refine Y.st ?_ | (refine nw ?_; intro _) | refine Y.kn ?_ | fail
        refine G.rd (Rd.build (cells := #[.slice none 0 0, .slice none 0 0, .map none]) rfl (by rfl)) rfl rfl ?_
        first | refine G.ef rfl rfl rfl (Eff.boxA rfl (fun bc => ?_)) | refine G.ee rfl rfl rfl (Eff.boxA rfl (fun bc => ⟨inferInstance, ?_⟩))
        refine G.ef rfl rfl rfl (Eff.mapPut (key := S) (val := ptrOf) (a := all[lo']) (v := bc) rfl rfl rfl hm ⟨_, rfl⟩ (fun o' ho' => ?_))
        repeat' first | refine Y.st ?_ | (refine nw ?_; intro _) | refine Y.kn ?_ | fail
        have hnm := getK_none.1 hg
        rw [putK_new hnm] at ho'
        have hsub : sub f all[lo'] = fun _ => ([], []) := funext fun p => h0 _ hnm p
        obtain ⟨Hk', hk', hp'⟩ := hk.snoc (g := f) (l := all[lo']) (b := bc) (by rw [hsub]; exact NodeH.empty _ _) (fun _ _ => rfl)
        refine GQ.cutEnd ⟨(o', kids ++ [(all[lo'], bc)], Hk', bc), ho', hk', fun l hl => h0 l (fun h => hl (by simp [h])), getK_of_mem ho'.nodup (by simp)⟩ ⟨rfl, rfl, rfl, rfl, trivial⟩ (fun w hw => hw.perm ?_)
        refine List.Perm.trans ?_ (List.Perm.cons _ (List.Perm.cons _ ((hp'.symm).append_right _)))
        exact permC
    rintro ⟨⟨o, kids, Hk, bc⟩, hm, hk, h0, hg⟩
    dsimp only at hm hk h0 hg ⊢
    obtain ⟨ve0, vl0, vm0, H1, R, hp1, hn1, hup⟩ := hk.split hm.nodup hg
    refine GC.heap (H' := (b, .cells (nodeC pre post ve vl (.map (some m))) bt (0, 0)) :: (m, o) :: (bc, .cells (nodeC [] [] ve0 vl0 vm0) 152 (0, 0)) :: (H1 ++ (R ++ (Be ++ (Bl ++ F))))) ?_ (fun w hw => hw.perm (by
      refine List.Perm.cons _ (List.Perm.cons _ ((hp1.append_right _).trans ?_))
      exact permN))
    refine GC.drawnH [(0, .read), (1, .read), (2, .read), (3, .read), (4, .read), (5, .read), (6, .read), (7, .read), (8, .read), (9, .read), (10, .read), (11, .read), (12, .tail)] (by kernel_rfl) (by kernel_rfl) rfl ?_
    repeat' first | refine Y.st ?_ | (refine nw ?_; intro _) | refine Y.kn ?_ | fail
    refine G.rd (Rd.look rfl rfl hm ⟨_, rfl⟩) rfl rfl ?_
    have hlk : lookV ptrOf kids all[lo'] (.pointer none) = .pointer (some ⟨bc, 0, none⟩) := by simp only [lookV, hg]; rfl
    rw [hlk]
    repeat' first | refine Y.st ?_ | (refine nw ?_; intro _) | refine Y.kn ?_ | fail
    refine G.rd (Rd.slO (l := 1) rfl rfl rfl (by omega) (by omega)) rfl rfl ?_
    repeat' first | refine Y.st ?_ | (refine nw ?_; intro _) | refine Y.kn ?_ | fail
    have hF' : Has ((b, Obj.cells (nodeC pre post ve vl (.map (some m))) bt (0, 0)) :: (m, o) :: (R ++ (Be ++ (Bl ++ F)))) lb (.cells (strs all).toArray 9 (0, 0)) := ⟨by have := hF.out; simp [this]⟩
    have hb' : ∀ p, (sub f all[lo'] p).1.length ≤ 1000 ∧ (sub f all[lo'] p).2.length ≤ 1000 := fun p => hb _
    have hrec := ih (lo' + 1) (cutO lo' c 1 1) (c - 1) (by omega) (by omega) (fun h => by unfold cutO; rw [if_neg (by omega)]) (sub f all[lo']) ve0 vl0 vm0 H1 _ bc [] [] 152 hn1 hb' hF'
    refine G.ef rfl rfl rfl (Eff.callP (first := #[]) (captured := #[]) rfl rfl (H' := (bc, .cells (nodeC [] [] ve0 vl0 vm0) 152 (0, 0)) :: (H1 ++ ((b, Obj.cells (nodeC pre post ve vl (.map (some m))) bt (0, 0)) :: (m, o) :: (R ++ (Be ++ (Bl ++ F)))))) (by exact permN) (hrec.mono ?_))
    rintro v H' ⟨ve', vl', vm', Hn', rfl, hn', hpH⟩
    refine G.heap ?_ (fun w hw => hw.perm hpH)
    repeat' first | refine Y.st ?_ | (refine nw ?_; intro _) | refine Y.kn ?_ | fail
    refine GQ.done0n rfl ?_
    have e1 : sub (putF f (all[lo'] :: all.drop (lo' + 1)) longer k) all[lo'] = putF (sub f all[lo']) (all.drop (lo' + 1)) longer k := sub_putF _ _ _ _ _
    obtain ⟨Hk', hk', hp'⟩ := hup (putF f (all[lo'] :: all.drop (lo' + 1)) longer k) ve' vl' vm' Hn' (by rw [e1]; exact hn') (fun m' hm' => sub_putF_ne _ hm' _ _ _)
    have e2 : putF f (all[lo'] :: all.drop (lo' + 1)) longer k [] = f [] := by unfold putF; rw [if_neg (by intro h; cases h)]
    refine ⟨ve, vl, .map (some m), _, rfl, .node _ ve vl Be Bl m o kids Hk' (by rw [e2]; exact he) (by rw [e2]; exact hl) hm hk' (fun l hl p => ?_), ?_⟩
    · have hne : l ≠ all[lo'] := fun h => hl (by rw [h]; exact List.mem_map.2 ⟨_, getK_mem hg, rfl⟩)
      have := congrFun (sub_putF_ne f hne (all.drop (lo' + 1)) longer k) p
      exact this.trans (h0 l hl p)
    · refine List.Perm.trans ?_ (List.Perm.cons _ (List.Perm.cons _ (((hp'.symm).append_right (Be ++ Bl)).append_right F)))
      exact permN
end
end Go.Tri

namespace Go.Tri
open Go.Own Go.Proofs Go.RowKit Go.Lib Go.Asc Go.Adr Go.Nam
attribute [local irreducible] GC GQ G Rd Eff T
set_option maxRecDepth 20000
set_option maxHeartbeats 4000000
attribute [local irreducible] named patL matchL visL

/-- Where cells lie, if there are any. -/
def Lies (W0 : World) (F : Heap) (p : Option Addr) (cs : List Value) : Prop := cs = [] ∨ ∃ b o, p = some ⟨b, o, none⟩ ∧ RO W0 F (fun w => CellsAt w b o cs)
section
variable {W0 : World} {F F' : Heap} {p : Option Addr} {cs : List Value}
theorem Lies.imp (hp : ∀ φ, RO W0 F φ → RO W0 F' φ) (h : Lies W0 F p cs) : Lies W0 F' p cs := by
  rcases h with h | ⟨b, o, h1, h2⟩
  · exact .inl h
  · exact .inr ⟨b, o, h1, hp _ h2⟩
theorem Lies.app (h : Lies W0 F p cs) (B : Heap) : Lies W0 (B ++ F) p cs := h.imp fun _ hφ => hφ.app B
theorem Lies.cons (h : Lies W0 F p cs) (x : Nat × Obj) : Lies W0 (x :: F) p cs := h.imp fun _ hφ => hφ.cons x
theorem Lies.perm (h : Lies W0 F p cs) (hp : F'.Perm F) : Lies W0 F' p cs := h.imp fun _ hφ => hφ.perm hp
theorem Lies.ro (h : Lies W0 F p cs) : RO W0 F (fun w => At w p cs) := by
  rcases h with h | ⟨b, o, h1, h2⟩
  · exact fun _ _ _ => .inl h
  · exact h2.mono fun w hw => .inr ⟨b, o, h1, hw⟩
theorem lies_base (h : At W0 p cs) : Lies W0 F p cs := by
  rcases h with h | ⟨b, o, h1, h2⟩
  · exact .inl h
  · exact .inr ⟨b, o, h1, .base fun w hw => h2.below hw⟩
end
theorem Buf.see {el size n : Nat} {v : Value} {xs : List Value} {B : Heap} (h : Buf el size v n xs B) : ∃ p cap, v = .slice p n cap ∧ n ≤ cap ∧ ∀ W0, Lies W0 B p xs := by
  cases h with
  | nil => exact ⟨none, 0, rfl, Nat.le_refl _, fun _ => .inl rfl⟩
  | row b n cap xs extra h1 h2 h3 h4 =>
    refine ⟨some ⟨b, 0, none⟩, cap, rfl, h3, fun W0 => .inr ⟨b, 0, rfl, fun X w hw => cellsH (el := el) (fr := (0, 0)) (cs := (xs ++ extra).toArray) (h := ⟨by simp⟩) (fun j u hj => ?_) w hw⟩⟩
    have hlt := (List.getElem?_eq_some_iff.1 hj).1
    simp [List.getElem?_append_left hlt, hj]
/-- A row of a trie, as a slice. -/
def RowV (W0 : World) (F : Heap) (row : List Nat) (v : Value) : Prop := ∃ p cap, v = .slice p row.length cap ∧ row.length ≤ cap ∧ Lies W0 F p (ints row)
inductive RowsV (W0 : World) (F : Heap) : List (List Nat) → List Value → Prop
  | nil : RowsV W0 F [] []
  | cons {row rows v vs} (h : RowV W0 F row v) (hs : RowsV W0 F rows vs) : RowsV W0 F (row :: rows) (v :: vs)
section
variable {W0 : World} {F F' : Heap}
theorem RowV.imp (hp : ∀ φ, RO W0 F φ → RO W0 F' φ) {row : List Nat} {v : Value} (h : RowV W0 F row v) : RowV W0 F' row v := by
  obtain ⟨p, cap, h1, h2, h3⟩ := h
  exact ⟨p, cap, h1, h2, h3.imp hp⟩
theorem RowsV.imp (hp : ∀ φ, RO W0 F φ → RO W0 F' φ) {rows : List (List Nat)} {vs : List Value} (h : RowsV W0 F rows vs) : RowsV W0 F' rows vs := by
  induction h with
  | nil => exact .nil
  | cons h _ ih => exact .cons (h.imp hp) ih
theorem RowsV.one {rows : List (List Nat)} {vs : List Value} (h : RowsV W0 F rows vs) : ∀ u ∈ vs, u.oneCell' = true := by
  induction h with
  | nil => intro u hu; cases hu
  | cons h _ ih =>
    intro u hu
    rcases List.mem_cons.1 hu with rfl | hu
    · obtain ⟨p, cap, rfl, _⟩ := h; rfl
    · exact ih u hu
theorem RowsV.len {rows : List (List Nat)} {vs : List Value} (h : RowsV W0 F rows vs) : vs.length = rows.length := by
  induction h with
  | nil => rfl
  | cons _ _ ih => simp [ih]
theorem RowsV.get {rows : List (List Nat)} {vs : List Value} (h : RowsV W0 F rows vs) : ∀ (i : Nat) (hi : i < rows.length), ∃ v, vs[i]? = some v ∧ RowV W0 F rows[i] v := by
  induction h with
  | nil => intro i hi; simp at hi
  | cons h _ ih =>
    intro i hi
    cases i with
    | zero => exact ⟨_, rfl, h⟩
    | succ i => obtain ⟨v, h1, h2⟩ := ih i (by simpa using hi); exact ⟨v, by simpa using h1, by simpa using h2⟩
theorem rowsG_empty {g : Fam} (hg : ∀ p, g p = ([], [])) : ∀ ls, (rowsG g ls).filter (· ≠ []) = []
  | [] => by simp [rowsG, hg]
  | l :: r => by simp only [rowsG, hg]; rw [List.filter_cons]; simp only [ne_eq, not_true, decide_false]; exact rowsG_empty (fun p => hg _) r
theorem find_nil (v : Value) : T Tryz.prog W0 101 #[.pointer none, v] F (fun u H' => u = .slice none 0 0 ∧ H' = F) := by
  refine T.intro (args := [_, _]) Tryz.func101 rfl Tryz.ntmps101 rfl ?_
  repeat' first | refine Y.st ?_ | (refine nw ?_; intro _) | refine Y.kn ?_ | (refine sp ?_ ?_ <;> intro _) | fail
  exact GQ.pure1 rfl (.tmp rfl) rfl
/-- What find tells. -/
def FindR (W0 : World) (f : Fam) (ls : List Lab) (TH F : Heap) : Value → Heap → Prop := fun v H' =>
  ∃ rows vals B, Buf 28 1 v rows.length vals B ∧ H'.Perm (B ++ (TH ++ F)) ∧ RowsV W0 TH rows vals ∧ rows.length ≤ ls.length + 1 ∧ rows.filter (· ≠ []) = (rowsG f ls).filter (· ≠ [])
theorem buf_row {TH B Hr : Heap} {v : Value} {row : List Nat} (h : Buf 3 1 v row.length (ints row) B) (hp : TH.Perm (Hr ++ B)) : RowV W0 TH row v := by
  obtain ⟨p, cap, h1, h2, h3⟩ := Buf.see h
  exact ⟨p, cap, h1, h2, ((h3 W0).app Hr).perm hp⟩
theorem find_spec (all : List Lab) (lb : Nat) (hall : all.length ≤ 4294967296) : ∀ (n lo lo' c : Nat), lo + n = all.length → n ≤ c → (0 < n → lo' = lo) → ∀ (f : Fam) (ve vl vm : Value) (Hn F : Heap) (b : Nat) (pre post : List Value) (bt : TypeId),
    NodeQ f ve vl vm Hn → Has F lb (.cells (strs all).toArray 9 (0, 0)) →
    T Tryz.prog W0 101 #[.pointer (some ⟨b, pre.length, none⟩), .slice (some ⟨lb, lo', none⟩) n c] ((b, .cells (nodeC pre post ve vl vm) bt (0, 0)) :: (Hn ++ F)) (FindR W0 f (all.drop lo) ((b, .cells (nodeC pre post ve vl vm) bt (0, 0)) :: Hn) F) := by
  intro n
  induction n with
  | zero =>
    intro lo lo' c hlo hc hl0 f ve vl vm Hn F b pre post bt hN hF
    have hd : all.drop lo = [] := List.drop_eq_nil_of_le (by omega)
    rw [hd]
    obtain ⟨Be, Bl, he, hl, hcase⟩ := hN.inv
    have hp : ∃ Hr, Hn.Perm (Hr ++ Be) := by
      rcases hcase with ⟨rfl, rfl, h0⟩ | ⟨m, o, kids, Hk, rfl, rfl, hm, hk, h0⟩
      · exact ⟨Bl, by exact permC⟩
      · exact ⟨(m, o) :: (Hk ++ Bl), by exact permC⟩
    obtain ⟨Hr, hp⟩ := hp
    have c0 := nc0 (pre := pre) (post := post) (ve := ve) (vl := vl) (vm := vm)
    refine T.intro (args := [_, _]) Tryz.func101 rfl Tryz.ntmps101 rfl ?_
    repeat' first | refine Y.st ?_ | (refine nw ?_; intro _) | refine Y.kn ?_ | fail
    refine G.ef rfl rfl rfl (Eff.buildSlice (cells := #[ve]) rfl (by obtain ⟨p, cap, rfl, _⟩ := Buf.see he; kernel_rfl) (by omega) (fun b2 => ?_))
    repeat' first | refine Y.st ?_ | (refine nw ?_; intro _) | refine Y.kn ?_ | fail
    refine GQ.done1 rfl rfl ?_
    refine ⟨[(f []).1], [ve], [(b2, .cells #[ve] 28 (0, 0))], ?_, .refl _, .cons ?_ .nil, by simp, by simp [rowsG]⟩
    · exact Buf.row b2 1 1 [ve] [] rfl rfl (Nat.le_refl _) (by omega)
    · exact buf_row (Hr := (b, .cells (nodeC pre post ve vl vm) bt (0, 0)) :: Hr) he (.cons _ hp)
  | succ n ih =>
    intro lo lo' c hlo hc hl0 f ve vl vm Hn F b pre post bt hN hF
    obtain rfl := hl0 (by omega)
    have hlt : lo' < all.length := by omega
    have hd : all.drop lo' = all[lo'] :: all.drop (lo' + 1) := List.drop_eq_getElem_cons hlt
    rw [hd]
    obtain ⟨Be, Bl, he, hl, hcase⟩ := hN.inv
    have hp : ∃ Hr, Hn.Perm (Hr ++ Bl) := by
      rcases hcase with ⟨rfl, rfl, h0⟩ | ⟨m, o, kids, Hk, rfl, rfl, hm, hk, h0⟩
      · exact ⟨Be, .refl _⟩
      · exact ⟨(m, o) :: (Hk ++ Be), by exact permC⟩
    obtain ⟨Hr, hp⟩ := hp
    have hlo : RowV W0 ((b, .cells (nodeC pre post ve vl vm) bt (0, 0)) :: Hn) (f []).2 vl := buf_row (Hr := (b, .cells (nodeC pre post ve vl vm) bt (0, 0)) :: Hr) hl (.cons _ hp)
    have lcell : (strs all).toArray[lo' + 0 * 1]? = some (S all[lo']) := by simp [strs, hlt]
    have c1 := nc1 (pre := pre) (post := post) (ve := ve) (vl := vl) (vm := vm)
    have c2 := nc2 (pre := pre) (post := post) (ve := ve) (vl := vl) (vm := vm)
    have hrest : ∃ pv, (∀ (e : Env) (x y : Operand), opv e x = some vm → opv e y = some (S all[lo']) → Rd Tryz.prog W0 ((b, .cells (nodeC pre post ve vl vm) bt (0, 0)) :: (Hn ++ F)) e (.lookup 150 x y false) pv) ∧
        ∀ F', Has F' lb (.cells (strs all).toArray 9 (0, 0)) → T Tryz.prog W0 101 #[pv, .slice (some ⟨lb, cutO lo' c 1 1, none⟩) n (c - 1)] ((b, .cells (nodeC pre post ve vl vm) bt (0, 0)) :: (Hn ++ F')) (fun v H' => ∃ rows vals B, Buf 28 1 v rows.length vals B ∧
          H'.Perm (B ++ ((b, .cells (nodeC pre post ve vl vm) bt (0, 0)) :: (Hn ++ F'))) ∧ RowsV W0 ((b, .cells (nodeC pre post ve vl vm) bt (0, 0)) :: Hn) rows vals ∧ rows.length ≤ (all.drop (lo' + 1)).length + 1 ∧ rows.filter (· ≠ []) = (rowsG (sub f all[lo']) (all.drop (lo' + 1))).filter (· ≠ [])) := by
      have hnil : ∀ F' : Heap, (∀ p, sub f all[lo'] p = ([], [])) → T Tryz.prog W0 101 #[.pointer none, .slice (some ⟨lb, cutO lo' c 1 1, none⟩) n (c - 1)] ((b, .cells (nodeC pre post ve vl vm) bt (0, 0)) :: (Hn ++ F')) (fun v H' => ∃ rows vals B, Buf 28 1 v rows.length vals B ∧
          H'.Perm (B ++ ((b, .cells (nodeC pre post ve vl vm) bt (0, 0)) :: (Hn ++ F'))) ∧ RowsV W0 ((b, .cells (nodeC pre post ve vl vm) bt (0, 0)) :: Hn) rows vals ∧ rows.length ≤ (all.drop (lo' + 1)).length + 1 ∧ rows.filter (· ≠ []) = (rowsG (sub f all[lo']) (all.drop (lo' + 1))).filter (· ≠ [])) := fun F' h0 =>
        (find_nil _).mono (by
          rintro v H' ⟨rfl, rfl⟩
          exact ⟨[], [], [], .nil, .refl _, .nil, by simp, by rw [rowsG_empty h0]; rfl⟩)
      rcases hcase with ⟨rfl, rfl, h0⟩ | ⟨m, o, kids, Hk, rfl, rfl, hm, hk, h0⟩
      · exact ⟨.pointer none, fun e x y hx hy => Rd.look0 hx hy ⟨_, rfl⟩, fun F' _ => hnil F' (fun p => h0 _ p)⟩
      · refine ⟨lookV ptrOf kids all[lo'] (.pointer none), fun e x y hx hy => Rd.look (o := o) hx hy hm ⟨_, rfl⟩, fun F' hF' => ?_⟩
        cases hg : getK kids all[lo'] with
        | none =>
          have hlk : lookV ptrOf kids all[lo'] (.pointer none) = .pointer none := by simp only [lookV, hg]
          rw [hlk]
          exact hnil F' (fun p => h0 _ (getK_none.1 hg) p)
        | some bc =>
          have hlk : lookV ptrOf kids all[lo'] (.pointer none) = .pointer (some ⟨bc, 0, none⟩) := by simp only [lookV, hg]; rfl
          rw [hlk]
          obtain ⟨ve0, vl0, vm0, H1, R, hp1, hn1, _⟩ := hk.split hm.nodup hg
          have hF2 : Has ((b, Obj.cells (nodeC pre post ve vl (.map (some m))) bt (0, 0)) :: (m, o) :: (R ++ (Be ++ (Bl ++ F')))) lb (.cells (strs all).toArray 9 (0, 0)) := ⟨by have := hF'.out; simp [this]⟩
          have hrec := ih (lo' + 1) (cutO lo' c 1 1) (c - 1) (by omega) (by omega) (fun h => by unfold cutO; rw [if_neg (by omega)]) (sub f all[lo']) ve0 vl0 vm0 H1 _ bc [] [] 152 hn1 hF2
          have hbig : ((m, o) :: (Hk ++ (Be ++ Bl))).Perm ((m, o) :: (((bc, Obj.cells #[ve0, vl0, vm0] 152 (0, 0)) :: (H1 ++ R)) ++ (Be ++ Bl))) := .cons _ (hp1.append_right _)
          have hperm : ((b, Obj.cells (nodeC pre post ve vl (.map (some m))) bt (0, 0)) :: ((m, o) :: (Hk ++ (Be ++ Bl)) ++ F')).Perm ((bc, .cells (nodeC [] [] ve0 vl0 vm0) 152 (0, 0)) :: (H1 ++ ((b, Obj.cells (nodeC pre post ve vl (.map (some m))) bt (0, 0)) :: (m, o) :: (R ++ (Be ++ (Bl ++ F')))))) := by
            refine (List.Perm.cons _ (hbig.append_right F')).trans ?_
            exact permN
          refine T.perm (hrec.mono ?_) hperm
          rintro v H' ⟨rows, vals, B, h1, h2, h3, h4, h5⟩
          refine ⟨rows, vals, B, h1, h2.trans (hperm.symm.append_left B), h3.imp (fun φ hφ => ?_), h4, h5⟩
          have h6 := hφ.app ((b, Obj.cells (nodeC pre post ve vl (.map (some m))) bt (0, 0)) :: (m, o) :: (R ++ (Be ++ Bl)))
          refine h6.perm ((List.Perm.cons _ hbig).trans ?_)
          exact permN
    obtain ⟨pv, hlook, hcall⟩ := hrest
    have hlen : (all.drop (lo' + 1)).length ≤ 4294967296 := by simp; omega
    -- how both ways end
    have fin : ∀ (rows : List (List Nat)) (vals : List Value) (B : Heap), RowsV W0 ((b, .cells (nodeC pre post ve vl vm) bt (0, 0)) :: Hn) rows vals → rows.length ≤ (all.drop (lo' + 1)).length + 1 → rows.filter (· ≠ []) = (rowsG (sub f all[lo']) (all.drop (lo' + 1))).filter (· ≠ []) →
        ∀ v, Buf 28 1 v (1 + rows.length) ([vl] ++ vals) B → ∀ H', H'.Perm (B ++ ((b, .cells (nodeC pre post ve vl vm) bt (0, 0)) :: (Hn ++ F))) → FindR W0 f (all[lo'] :: all.drop (lo' + 1)) ((b, .cells (nodeC pre post ve vl vm) bt (0, 0)) :: Hn) F v H' := by
      intro rows vals B h1 h2 h3 v hv H' hH
      refine ⟨(f []).2 :: rows, vl :: vals, B, by rw [List.length_cons, Nat.add_comm]; exact hv, hH, .cons hlo h1, by simp at h2 ⊢; omega, ?_⟩
      simp only [rowsG, List.filter_cons, h3]
    refine T.intro (args := [_, _]) Tryz.func101 rfl Tryz.ntmps101 rfl ?_
    repeat' first | refine Y.st ?_ | (refine nw ?_; intro _) | refine Y.kn ?_ | fail
    refine GC.forks [(0, .read), (1, .read), (2, .read), (3, .read), (5, .read), (6, .read), (7, .read), (8, .read), (9, .read), (10, .read), (11, .read), (12, .read), (13, .read), (14, .read)] [(4, .eff), (15, .eff), (16, .tail), (17, .tail)] [(15, .eff), (4, .eff), (16, .tail), (17, .tail)] 3 [16, 17] (by kernel_rfl) (by kernel_rfl) rfl rfl rfl ?_
    refine GR.rd (Rd.move rfl) rfl rfl ?_
    refine GR.rd (Rd.nilCheck rfl) rfl rfl ?_
    refine GR.rd (Rd.fieldAddr rfl) rfl rfl ?_
    refine GR.rd (Rd.load rfl (cellH c1)) rfl rfl ?_
    refine GR.rd (Rd.move rfl) rfl rfl ?_
    refine GR.rd (Rd.nilCheck rfl) rfl rfl ?_
    refine GR.rd (Rd.fieldAddr rfl) rfl rfl ?_
    refine GR.rd (Rd.load rfl (cellH c2)) rfl rfl ?_
    refine GR.rd (Rd.move rfl) rfl rfl ?_
    refine GR.rd (Rd.indexN rfl rfl (by omega)) rfl rfl ?_
    refine GR.rd (Rd.load rfl (cellH lcell)) rfl rfl ?_
    refine GR.rd (hlook _ _ _ rfl rfl) rfl rfl ?_
    refine GR.rd (Rd.move rfl) rfl rfl ?_
    refine GR.rd (Rd.slO (l := 1) rfl rfl rfl (by omega) (by omega)) rfl rfl ?_
    refine forks_end ?_ ?_
    · refine G.eeP rfl rfl rfl (Eff.buildSlice (cells := #[vl]) rfl (by obtain ⟨p, cap, rfl, _⟩ := hlo; kernel_rfl) (by omega) (fun b2 => ⟨fun w hw => hw.sub (List.sublist_cons_self _ _), ?_⟩))
      refine G.eeP rfl rfl rfl (Eff.callP (first := #[]) (captured := #[]) rfl rfl (H' := (b, .cells (nodeC pre post ve vl vm) bt (0, 0)) :: (Hn ++ ((b2, .cells #[vl] 28 (0, 0)) :: F))) (by exact permC) ((hcall ((b2, .cells #[vl] 28 (0, 0)) :: F) ⟨by have := hF.out; simp [this]⟩).mono ?_))
      rintro v H' ⟨rows, vals, B, h1, h2, h3, h4, h5⟩
      have q1 : (B ++ ((b, Obj.cells (nodeC pre post ve vl vm) bt (0, 0)) :: (Hn ++ ((b2, Obj.cells #[vl] 28 (0, 0)) :: F)))).Perm ((B ++ [(b2, Obj.cells #[vl] 28 (0, 0))]) ++ ((b, Obj.cells (nodeC pre post ve vl vm) bt (0, 0)) :: (Hn ++ F))) := by exact permC
      have q2 : (B ++ ((b, Obj.cells (nodeC pre post ve vl vm) bt (0, 0)) :: (Hn ++ ((b2, Obj.cells #[vl] 28 (0, 0)) :: F)))).Perm ([(b2, Obj.cells ([vl] ++ []).toArray 28 (0, 0))] ++ (B ++ ((b, Obj.cells (nodeC pre post ve vl vm) bt (0, 0)) :: (Hn ++ F)))) := by
        simp only [List.append_nil]
        exact permC
      have q3 : (B ++ ((b, Obj.cells (nodeC pre post ve vl vm) bt (0, 0)) :: (Hn ++ ((b2, Obj.cells #[vl] 28 (0, 0)) :: F)))).Perm (((b, Obj.cells (nodeC pre post ve vl vm) bt (0, 0)) :: (Hn ++ ((b2, Obj.cells #[vl] 28 (0, 0)) :: F))) ++ B) := by exact permC
      refine ⟨fun w hw => (hw.perm (h2.trans q1)).sub (List.sublist_append_right _ _), ?_⟩
      refine G.heap ?_ (fun w hw => hw.perm h2)
      obtain ⟨q, cap, rfl, hcap, hat⟩ := Buf.see h1
      refine G.ef rfl rfl rfl (Eff.app (hB := Buf.row b2 1 1 [vl] [] rfl rfl (Nat.le_refl _) (by omega)) rfl rfl (hH := ⟨q2⟩) (by omega) (by rw [h3.len, Nat.mul_one]) (fun w hw => (hat W0).ro.own ((b, Obj.cells (nodeC pre post ve vl vm) bt (0, 0)) :: (Hn ++ ((b2, Obj.cells #[vl] 28 (0, 0)) :: F))) w (hw.perm q3)) h3.one (by omega) (by omega) (fun v' B' hB' => ?_))
      repeat' first | refine Y.st ?_ | (refine nw ?_; intro _) | refine Y.kn ?_ | fail
      have q4 : (B' ++ (B ++ ((b, Obj.cells (nodeC pre post ve vl vm) bt (0, 0)) :: (Hn ++ F)))).Perm (B ++ (B' ++ ((b, Obj.cells (nodeC pre post ve vl vm) bt (0, 0)) :: (Hn ++ F)))) := by exact permC
      refine GQ.heap (H' := B' ++ ((b, Obj.cells (nodeC pre post ve vl vm) bt (0, 0)) :: (Hn ++ F))) ?_ (fun w hw => (hw.perm q4).sub (List.sublist_append_right _ _))
      exact GQ.done1 rfl rfl (fin rows vals B' h3 h4 h5 _ hB' _ (.refl _))
    · refine G.eeP rfl rfl rfl (Eff.callP (first := #[]) (captured := #[]) rfl rfl (H' := (b, Obj.cells (nodeC pre post ve vl vm) bt (0, 0)) :: (Hn ++ F)) (.refl _) ((hcall F hF).mono ?_))
      rintro v H' ⟨rows, vals, B, h1, h2, h3, h4, h5⟩
      refine ⟨fun w hw => (hw.perm h2).sub (List.sublist_append_right _ _), ?_⟩
      refine G.heap ?_ (fun w hw => hw.perm h2)
      refine G.eeP rfl rfl rfl (Eff.buildSlice (cells := #[vl]) rfl (by obtain ⟨p, cap, rfl, _⟩ := hlo; kernel_rfl) (by omega) (fun b2 => ⟨fun w hw => hw.sub ((List.sublist_append_right B _).trans (List.sublist_cons_self _ _)), ?_⟩))
      have q2 : ((b2, Obj.cells #[vl] 28 (0, 0)) :: (B ++ ((b, Obj.cells (nodeC pre post ve vl vm) bt (0, 0)) :: (Hn ++ F)))).Perm ([(b2, Obj.cells ([vl] ++ []).toArray 28 (0, 0))] ++ (B ++ ((b, Obj.cells (nodeC pre post ve vl vm) bt (0, 0)) :: (Hn ++ F)))) := by
        simp only [List.append_nil]
        exact permC
      have q3 : ((b2, Obj.cells #[vl] 28 (0, 0)) :: (B ++ ((b, Obj.cells (nodeC pre post ve vl vm) bt (0, 0)) :: (Hn ++ F)))).Perm (((b, Obj.cells (nodeC pre post ve vl vm) bt (0, 0)) :: (Hn ++ ((b2, Obj.cells #[vl] 28 (0, 0)) :: F))) ++ B) := by exact permC
      obtain ⟨q, cap, rfl, hcap, hat⟩ := Buf.see h1
      refine G.ef rfl rfl rfl (Eff.app (hB := Buf.row b2 1 1 [vl] [] rfl rfl (Nat.le_refl _) (by omega)) rfl rfl (hH := ⟨q2⟩) (by omega) (by rw [h3.len, Nat.mul_one]) (fun w hw => (hat W0).ro.own ((b, Obj.cells (nodeC pre post ve vl vm) bt (0, 0)) :: (Hn ++ ((b2, Obj.cells #[vl] 28 (0, 0)) :: F))) w (hw.perm q3)) h3.one (by omega) (by omega) (fun v' B' hB' => ?_))
      repeat' first | refine Y.st ?_ | (refine nw ?_; intro _) | refine Y.kn ?_ | fail
      have q4 : (B' ++ (B ++ ((b, Obj.cells (nodeC pre post ve vl vm) bt (0, 0)) :: (Hn ++ F)))).Perm (B ++ (B' ++ ((b, Obj.cells (nodeC pre post ve vl vm) bt (0, 0)) :: (Hn ++ F)))) := by exact permC
      refine GQ.heap (H' := B' ++ ((b, Obj.cells (nodeC pre post ve vl vm) bt (0, 0)) :: (Hn ++ F))) ?_ (fun w hw => (hw.perm q4).sub (List.sublist_append_right _ _))
      exact GQ.done1 rfl rfl (fin rows vals B' h3 h4 h5 _ hB' _ (.refl _))
end
end Go.Tri
