/-
  ADDRESSES AS TEXTS: groups in base 16 with colons between.
-/
import Derived.Test.YtajkpdhcefkopaaGreatDoorFmt0
namespace Go.Adr
open Go.Own Go.Proofs Go.RowKit Go.Lib Go.Asc
attribute [local irreducible] GC GQ G Rd Eff T
set_option maxRecDepth 20000
set_option maxHeartbeats 4000000

def u16s (l : List Nat) : List Value := l.map fun (n : Nat) => .int .u16 (n : Int)

section
variable {W0 : World} {F : Heap}
theorem joinNone_spec (a : Option Addr) (c : Nat) (sep : List UInt8) : T Tryz.prog W0 139 #[.slice a 0 c, S sep] F (fun v H' => v = S [] ∧ H' = F) := .of fun w hw => by
  refine (Tryz.strings_Join_none a c ⟨sep.toArray⟩ w).mono ?_
  rintro e w' ⟨rfl, rfl⟩
  exact ⟨_, F, rfl, ⟨rfl, rfl⟩, hw⟩

theorem strs_append (a b : List (List UInt8)) : strs (a ++ b) = strs a ++ strs b := by simp [strs]
theorem strs_one (l : List (List UInt8)) : ∀ u ∈ strs l, u.oneCell' = true := by
  intro u hu
  obtain ⟨x, _, rfl⟩ := List.mem_map.1 hu
  rfl
theorem Buf.split {el size n : Nat} {v : Value} {xs : List Value} {B : Heap} (h : Buf el size v n xs B) : (v = .slice none 0 0 ∧ n = 0 ∧ xs = [] ∧ B = []) ∨ ∃ b cap extra, v = .slice (some ⟨b, 0, none⟩) n cap ∧ n ≤ cap ∧ B = [(b, .cells (xs ++ extra).toArray el (0, 0))] := by
  cases h with
  | nil => exact .inl ⟨rfl, rfl, rfl, rfl⟩
  | row b n cap xs extra _ _ h3 _ => exact .inr ⟨b, cap, extra, rfl, h3, rfl⟩
/-- append(out, s): strings. -/
theorem Eff.appendS {P : Program} {W0 : World} {H F B : Heap} {e : Env} {ty : TypeId} {x y : Operand} {v zz : Value} {R : Value → Heap → Prop} {el sc : Nat} {q : Option Addr} {xs ys : List (List UInt8)} {tt : TypeId} [hT : SliceT P tt el 1 16 zz] (hx : opv e x = some v) (hB : Buf el 1 v xs.length (strs xs) B)
    (hy : opv e y = some (.slice q ys.length sc)) (hH : H.Perm (B ++ F)) (hys : ∀ w, Own W0 H w → At w q (strs ys)) (hm : (xs.length + ys.length) * 16 ≤ 140737488355328)
    (hR : ∀ v' B', Buf el 1 v' (xs ++ ys).length (strs (xs ++ ys)) B' → R v' (B' ++ F)) : Eff P W0 e H (.call { callee := .builtin .append, args := #[x, y], argTypes := #[tt, tt] }) ty R :=
  Eff.append (by omega) hx hB hy hH (by rw [strs_length, Nat.mul_one]) hys (strs_one ys) (by omega) (by omega) (fun v' B' h => hR v' B' (by rw [strs_append, List.length_append]; exact h))
theorem text_spec (hv : Vars W0) (l : List Nat) (b o c : Nat) (hl : l.length ≤ 8) (hc : l.length ≤ c) (hn : ∀ n ∈ l, n < 65536) (hat : RO W0 F (fun w => CellsAt w b o (u16s l))) :
    T Tryz.prog W0 140 #[.slice (some ⟨b, o, none⟩) l.length c] F (fun v H' => v = S (textL l) ∧ H' = F) := by
  refine T.intro (args := [_]) Tryz.func140 rfl Tryz.ntmps140 rfl ?_
  refine au ?_
  refine GC.loop (ι := { q : Nat × Value × Heap // q.1 ≤ l.length ∧ Buf 9 1 q.2.1 ((l.take q.1).map hexL).length (strs ((l.take q.1).map hexL)) q.2.2 }) (fun i => [(3, i.1.2.1), (6, .slice (some ⟨b, o, none⟩) l.length c), (7, .int .i64 (l.length : Int)), (8, .int .i64 (i.1.1 : Int))]) (fun i => i.1.2.2 ++ F) (fun i => l.length - i.1.1) ⟨(0, .slice none 0 0, []), Nat.zero_le _, .nil⟩ ⟨rfl, rfl, rfl, rfl, trivial⟩ (fun _ h => h) ?_
  rintro ⟨⟨k, v, B⟩, hk, hb⟩
  dsimp only at hk hb ⊢
  have hlk : ((l.take k).map hexL).length = k := by simp; omega
  by_cases hlt : k < l.length
  · have hcell : ∀ w, Own W0 (B ++ F) w → w.cell? ⟨b, o + k * 1, none⟩ = some (.int .u16 ((l[k] : Nat) : Int)) := fun w hw => by
      rw [Nat.mul_one]
      exact (hat.app B).here hw k _ (by simp [u16s, hlt])
    have hnk := hn l[k] (by simp)
    refine au ?_
    refine G.rd (Rd.load rfl hcell) rfl rfl ?_
    refine au ?_
    refine G.rd (Rd.conv (c := ((l[k] : Nat) : Int)) rfl (u64_in _ (by omega))) rfl rfl ?_
    refine G.ef rfl rfl rfl (Eff.callF rfl ((fmt_spec hv l[k] hnk).mono ?_))
    rintro v' H' ⟨rfl, rfl⟩
    refine G.ef rfl rfl rfl (Eff.buildSlice (cells := (strs [hexL l[k]]).toArray) rfl (by kernel_rfl) (by omega) (fun b2 => ?_))
    refine G.ef rfl rfl rfl (Eff.appendS (xs := (l.take k).map hexL) (ys := [hexL l[k]]) (B := B) rfl hb rfl List.perm_middle.symm (fun w hw => .inr ⟨b2, 0, rfl, cellsH (cs := (strs [hexL l[k]]).toArray) (fun j u hj => by simpa using hj) w hw⟩) (by rw [hlk]; show (k + 1) * 16 ≤ _; omega) (fun v2 B2 hb2 => ?_))
    refine au ?_
    refine GQ.heap (H' := B2 ++ F) ?_ (fun w hw => hw.sub (((List.Sublist.refl F).cons _).append_left B2))
    refine GQ.back ⟨(k + 1, v2, B2), by omega, ?_⟩ (by simp only; omega) ⟨rfl, rfl, rfl, rfl, trivial⟩ (fun _ h => h)
    dsimp only
    rw [List.take_succ_eq_append_getElem hlt, List.map_append]
    exact hb2
  · obtain rfl : k = l.length := by omega
    rw [List.take_length] at hb
    refine au ?_
    by_cases hl0 : l = []
    · subst hl0
      rcases Buf.split hb with ⟨rfl, _, _, rfl⟩ | ⟨b3, cap, extra, rfl, _, rfl⟩
      · refine G.ef rfl rfl rfl (Eff.callF rfl ((joinNone_spec none 0 [58]).mono ?_))
        rintro v' H' ⟨rfl, rfl⟩
        refine au ?_
        exact GQ.done1 rfl rfl ⟨rfl, rfl⟩
      · refine G.ef rfl rfl rfl (Eff.callF rfl ((joinNone_spec _ cap [58]).mono ?_))
        rintro v' H' ⟨rfl, rfl⟩
        refine au ?_
        refine GQ.heap (H' := F) ?_ (fun w hw => hw.sub SubH.out)
        exact GQ.done1 rfl rfl ⟨rfl, rfl⟩
    · have hpos : 0 < l.length := List.length_pos_iff.2 hl0
      have hjl := join_len [58] 4 (l.map hexL) (fun x hx => by obtain ⟨n, hn1, rfl⟩ := List.mem_map.1 hx; exact hexL_len n (hn n hn1))
      rw [List.length_map, show 4 + ([58] : List UInt8).length = 5 from rfl] at hjl
      rcases Buf.split hb with ⟨_, h0, _, _⟩ | ⟨b3, cap, extra, rfl, hcap, rfl⟩
      · rw [List.length_map] at h0; omega
      · rw [List.singleton_append]
        refine G.ef rfl rfl rfl (Eff.callF rfl ((join_spec (l.map hexL) [58] b3 cap (by simpa using hl0) hcap (by rw [List.length_map]; omega) (by omega) (cellsH (cs := (strs (l.map hexL) ++ extra).toArray) (fun j u hj => ?_))).mono ?_))
        · have hlt := (List.getElem?_eq_some_iff.1 hj).1
          simp [List.getElem?_append_left hlt, hj]
        rintro v' H' ⟨rfl, rfl⟩
        refine au ?_
        refine GQ.heap (H' := F) ?_ (fun w hw => hw.sub SubH.out)
        exact GQ.done1 rfl rfl ⟨rfl, rfl⟩
end
end Go.Adr
