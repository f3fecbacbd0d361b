/-
  THE LIBRARY'S FUNCTIONS OUT OF THE SHELF'S CONTRACTS, OVER WHAT IS OWNED: strings.Join, strconv.Itoa.
-/
import Derived.Test.YtlakopiopplfhaaGreatDoorAdr2
namespace Go.Adr
open Go.Own Go.Proofs Go.RowKit Go.Lib Go.Asc
attribute [local irreducible] GC GQ G Rd Eff T
set_option maxRecDepth 20000
set_option maxHeartbeats 4000000

theorem tab_kept {W0 w : World} {H : Heap} {name : String} {k : IntKind} {zs : List Int} (h : TabIs Tryz.prog W0 name k zs) (hw : Own W0 H w) : TabIs Tryz.prog w name k zs := by
  unfold TabIs at h ⊢
  rw [← h]
  unfold World.var? at h ⊢
  cases hg : Program.globalNamed Tryz.prog name with
  | none => rw [hg] at h; cases h
  | some g =>
    rw [hg] at h
    simp only [Option.bind_some] at h ⊢
    cases hb : W0.heap[g]? with
    | none => rw [hb] at h; cases h
    | some o => rw [hw.below.block g (Array.getElem?_eq_some_iff.1 hb).1, hb]

section
variable {W0 : World} {F : Heap}
theorem join_spec [hv : Vars W0] (xs : List (List UInt8)) (sep : List UInt8) (bk c : Nat) (hne : xs ≠ []) (hc : xs.length ≤ c) (hN : xs.length ≤ 140737488355328) (hlen : (join xs sep).length ≤ 140737488355328) (hat : ∀ w, Own W0 F w → CellsAt w bk 0 (strs xs)) :
    T Tryz.prog W0 118 #[.slice (some ⟨bk, 0, none⟩) xs.length c, S sep] F (fun v H' => v = S (join xs sep) ∧ H' = F) := .of fun w hw => by
  have hcl := hat w hw
  have h0 : 0 < xs.length := List.length_pos_iff.2 hne
  have hbk : bk < w.heap.size := Own.lt_of_cell (hcl 0 (S xs[0]) (by simp [strs, h0]))
  have hmap : (xs.map fun x => (⟨x.toArray⟩ : ByteArray)).map (·.data.toList) = xs := by
    rw [List.map_map]
    exact List.map_id' _
  have := Tryz.strings_Join bk 0 c (xs.map fun x => ⟨x.toArray⟩) ⟨sep.toArray⟩ w (fun j x hj => hcl j (.string x) (by
    simp only [strs, List.getElem?_map] at hj ⊢
    cases hx : xs[j]? with
    | none => rw [hx] at hj; simp at hj
    | some y => rw [hx] at hj; simp at hj; simp [hj])) hbk (by simpa using hN) (by simpa using hc) (by rw [hmap]; exact hlen)
  rw [hmap, List.length_map] at this
  refine this.mono ?_
  rintro e w' ⟨rfl, hb⟩
  exact ⟨_, F, rfl, ⟨rfl, rfl⟩, hw.growZ hv.zero hb⟩

theorem itoa_spec (hv : Vars W0) (n : Int) (h0 : -9223372036854775808 ≤ n) (h1 : n ≤ 9223372036854775807) :
    T Tryz.prog W0 117 #[.int .i64 n] F (fun v H' => v = S (itoa n) ∧ H' = F) := .of fun w hw => by
  refine (Tryz.strconv_Itoa n h0 h1 w (tab_kept hv.pow hw)).mono ?_
  rintro e w' ⟨rfl, k, os, rfl⟩
  refine ⟨_, F, rfl, ⟨rfl, rfl⟩, Own.grow (w := w.drewN k) (hw.drawn (w.drawn + k) (Nat.le_add_right _ _)) ?_ (Nat.le_refl _)⟩
  refine ⟨rfl, rfl, rfl, ?_, fun i hi => ?_⟩
  · simp [Sort.grow, World.drewN]
  · simp only [Sort.grow, World.drewN]
    exact Array.getElem?_append_left hi
end
end Go.Adr
