/-
  ADDRESSES AS TEXTS: groups in base 16 with colons between.
  ADDRESSES AS TEXTS: the longest row of groups 0; is it one of four?
  ADDRESSES AS TEXTS: addr.Print.
-/
import Derived.Test.YtlakopiopplfhaaGreatDoorFmt0
namespace Go.Adr
open Go.Own Go.Proofs Go.RowKit Go.Lib Go.Asc
attribute [local irreducible] GC GQ G Rd Eff T
set_option maxRecDepth 20000
set_option maxHeartbeats 4000000

def u16s (l : List Nat) : List Value := l.map fun (n : Nat) => .int .u16 (n : Int)

section
variable {W0 : World} {F : Heap}
theorem joinNone_spec (a : Option Addr) (c : Nat) (sep : List UInt8) : T Tryz.prog W0 118 #[.slice a 0 c, S sep] F (fun v H' => v = S [] ∧ H' = F) := .of fun w hw => by
  refine (Tryz.strings_Join_none a c ⟨sep.toArray⟩ w).mono ?_
  rintro e w' ⟨rfl, rfl⟩
  exact ⟨_, F, rfl, ⟨rfl, rfl⟩, hw⟩

theorem strs_append (a b : List (List UInt8)) : strs (a ++ b) = strs a ++ strs b := by simp [strs]
theorem strs_one (l : List (List UInt8)) : ∀ u ∈ strs l, u.oneCell' = true := by
  intro u hu
  obtain ⟨x, _, rfl⟩ := List.mem_map.1 hu
  rfl
theorem Buf.split {el size n : Nat} {v : Value} {xs : List Value} {B : Heap} (h : Buf el size v n xs B) : (v = .slice none 0 0 ∧ n = 0 ∧ xs = [] ∧ B = []) ∨ ∃ b cap extra, v = .slice (some ⟨b, 0, none⟩) n cap ∧ n ≤ cap ∧ B = [(b, .cells (xs ++ extra).toArray el (0, 0))] := by
  cases h with
  | nil => exact .inl ⟨rfl, rfl, rfl, rfl⟩
  | row b n cap xs extra _ _ h3 _ => exact .inr ⟨b, cap, extra, rfl, h3, rfl⟩
/-- append(out, s): strings. -/
theorem Eff.appendS {P : Program} {W0 : World} {H F B : Heap} {e : Env} {ty : TypeId} {x y : Operand} {v zz : Value} {R : Value → Heap → Prop} {el sc : Nat} {q : Option Addr} {xs ys : List (List UInt8)} {tt : TypeId} [hT : SliceT P tt el 1 16 zz] (hx : opv e x = some v) (hB : Buf el 1 v xs.length (strs xs) B)
    (hy : opv e y = some (.slice q ys.length sc)) (hH : H.Perm (B ++ F)) (hys : ∀ w, Own W0 H w → At w q (strs ys)) (hm : (xs.length + ys.length) * 16 ≤ 140737488355328)
    (hR : ∀ v' B', Buf el 1 v' (xs ++ ys).length (strs (xs ++ ys)) B' → R v' (B' ++ F)) : Eff P W0 e H (.call { callee := .builtin .append, args := #[x, y], argTypes := #[tt, tt] }) ty R :=
  Eff.append (by omega) hx hB hy hH (by rw [strs_length, Nat.mul_one]) hys (strs_one ys) (by omega) (by omega) (fun v' B' h => hR v' B' (by rw [strs_append, List.length_append]; exact h))
theorem text_spec (hv : Vars W0) (l : List Nat) (b o c : Nat) (hl : l.length ≤ 8) (hc : l.length ≤ c) (hn : ∀ n ∈ l, n < 65536) (hat : RO W0 F (fun w => CellsAt w b o (u16s l))) :
    T Tryz.prog W0 182 #[.slice (some ⟨b, o, none⟩) l.length c] F (fun v H' => v = S (textL l) ∧ H' = F) := by
  refine T.intro (args := [_]) Tryz.func182 rfl Tryz.ntmps182 rfl ?_
  refine au ?_
  refine GC.loop (ι := { q : Nat × Value × Heap // q.1 ≤ l.length ∧ Buf 9 1 q.2.1 ((l.take q.1).map hexL).length (strs ((l.take q.1).map hexL)) q.2.2 }) (fun i => [(3, i.1.2.1), (6, .slice (some ⟨b, o, none⟩) l.length c), (7, .int .i64 (l.length : Int)), (8, .int .i64 (i.1.1 : Int))]) (fun i => i.1.2.2 ++ F) (fun i => l.length - i.1.1) ⟨(0, .slice none 0 0, []), Nat.zero_le _, .nil⟩ ⟨rfl, rfl, rfl, rfl, trivial⟩ (fun _ h => h) ?_
  rintro ⟨⟨k, v, B⟩, hk, hb⟩
  dsimp only at hk hb ⊢
  have hlk : ((l.take k).map hexL).length = k := by simp; omega
  by_cases hlt : k < l.length
  · have hcell : ∀ w, Own W0 (B ++ F) w → w.cell? ⟨b, o + k * 1, none⟩ = some (.int .u16 ((l[k] : Nat) : Int)) := fun w hw => by
      rw [Nat.mul_one]
      exact (hat.app B).here hw k _ (by simp [u16s, hlt])
    have hnk := hn l[k] (by simp)
    refine au ?_
    refine G.rd (Rd.load rfl hcell) rfl rfl ?_
    refine au ?_
    refine G.rd (Rd.conv (c := ((l[k] : Nat) : Int)) rfl (u64_in _ (by omega))) rfl rfl ?_
    refine G.ef rfl rfl rfl (Eff.callF rfl ((fmt_spec hv l[k] hnk).mono ?_))
    rintro v' H' ⟨rfl, rfl⟩
    refine G.ef rfl rfl rfl (Eff.buildSlice (cells := (strs [hexL l[k]]).toArray) rfl (by kernel_rfl) (by omega) (fun b2 => ?_))
    refine G.ef rfl rfl rfl (Eff.appendS (xs := (l.take k).map hexL) (ys := [hexL l[k]]) (B := B) rfl hb rfl List.perm_middle.symm (fun w hw => .inr ⟨b2, 0, rfl, cellsH (cs := (strs [hexL l[k]]).toArray) (fun j u hj => by simpa using hj) w hw⟩) (by rw [hlk]; show (k + 1) * 16 ≤ _; omega) (fun v2 B2 hb2 => ?_))
    refine au ?_
    refine GQ.heap (H' := B2 ++ F) ?_ (fun w hw => hw.sub (((List.Sublist.refl F).cons _).append_left B2))
    refine GQ.back ⟨(k + 1, v2, B2), by omega, ?_⟩ (by simp only; omega) ⟨rfl, rfl, rfl, rfl, trivial⟩ (fun _ h => h)
    dsimp only
    rw [List.take_succ_eq_append_getElem hlt, List.map_append]
    exact hb2
  · obtain rfl : k = l.length := by omega
    rw [List.take_length] at hb
    refine au ?_
    by_cases hl0 : l = []
    · subst hl0
      rcases Buf.split hb with ⟨rfl, _, _, rfl⟩ | ⟨b3, cap, extra, rfl, _, rfl⟩
      · refine G.ef rfl rfl rfl (Eff.callF rfl ((joinNone_spec none 0 [58]).mono ?_))
        rintro v' H' ⟨rfl, rfl⟩
        refine au ?_
        exact GQ.done1 rfl rfl ⟨rfl, rfl⟩
      · refine G.ef rfl rfl rfl (Eff.callF rfl ((joinNone_spec _ cap [58]).mono ?_))
        rintro v' H' ⟨rfl, rfl⟩
        refine au ?_
        refine GQ.heap (H' := F) ?_ (fun w hw => hw.sub SubH.out)
        exact GQ.done1 rfl rfl ⟨rfl, rfl⟩
    · have hpos : 0 < l.length := List.length_pos_iff.2 hl0
      have hjl := join_len [58] 4 (l.map hexL) (fun x hx => by obtain ⟨n, hn1, rfl⟩ := List.mem_map.1 hx; exact hexL_len n (hn n hn1))
      rw [List.length_map, show 4 + ([58] : List UInt8).length = 5 from rfl] at hjl
      rcases Buf.split hb with ⟨_, h0, _, _⟩ | ⟨b3, cap, extra, rfl, hcap, rfl⟩
      · rw [List.length_map] at h0; omega
      · rw [List.singleton_append]
        refine G.ef rfl rfl rfl (Eff.callF rfl ((join_spec (l.map hexL) [58] b3 cap (by simpa using hl0) hcap (by rw [List.length_map]; omega) (by omega) (cellsH (cs := (strs (l.map hexL) ++ extra).toArray) (fun j u hj => ?_))).mono ?_))
        · have hlt := (List.getElem?_eq_some_iff.1 hj).1
          simp [List.getElem?_append_left hlt, hj]
        rintro v' H' ⟨rfl, rfl⟩
        refine au ?_
        refine GQ.heap (H' := F) ?_ (fun w hw => hw.sub SubH.out)
        exact GQ.done1 rfl rfl ⟨rfl, rfl⟩
end
end Go.Adr

namespace Go.Adr
open Go.Own Go.Proofs Go.RowKit Go.Lib Go.Asc
attribute [local irreducible] GC GQ G Rd Eff T
set_option maxRecDepth 20000
set_option maxHeartbeats 4000000

section
variable {W0 : World} {F : Heap}
theorem cell_u16s (l : List Nat) (k : Nat) (hk : k < l.length) : ((u16s l).toArray : Array Value)[0 + k * 1]? = some (.int .u16 ((l[k] : Nat) : Int)) := by
  rw [Nat.zero_add, Nat.mul_one, List.getElem?_toArray]
  simp [u16s, hk]
theorem row_spec (l : List Nat) (h8 : l.length = 8) (hn : ∀ n ∈ l, n < 65536) : T Tryz.prog W0 184 #[.agg (u16s l).toArray] F (fun v H' => v = .tuple #[.int .i64 ((rowL l).1 : Int), .int .i64 ((rowL l).2 : Int)] ∧ H' = F) := by
  refine T.intro (args := [_]) Tryz.func184 rfl Tryz.ntmps184 rfl ?_
  refine au ?_
  refine G.ef rfl rfl rfl (Eff.box rfl (fun b1 => ?_))
  refine G.heap (H' := (b1, .cells (u16s l).toArray 252 (0, 0)) :: F) ?_ (fun _ h => h)
  refine au ?_
  refine GC.loop (ι := { q : Nat × Nat × Nat // q.1 ≤ 8 ∧ (q.2.1, q.2.2) = (List.range q.1).foldl (rowStep l) (8, 1) ∧ q.2.1 ≤ 8 ∧ q.2.2 ≤ 8 }) (fun i => [(1, .pointer (some ⟨b1, 0, none⟩)), (4, .int .i64 (i.1.2.1 : Int)), (5, .int .i64 (i.1.2.2 : Int)), (6, .int .i64 (i.1.1 : Int))]) (fun _ => (b1, .cells (u16s l).toArray 252 (0, 0)) :: F) (fun i => 8 - i.1.1) ⟨(0, 8, 1), by simp⟩ ⟨rfl, rfl, rfl, rfl, trivial⟩ (fun _ h => h) ?_
  rintro ⟨⟨k, f, n⟩, hk, hfn, hf, hn8⟩
  dsimp only at hk hfn hf hn8 ⊢
  by_cases hlt : k < 8
  · refine au ?_
    refine GC.loop (ι := { e : Nat // k ≤ e ∧ e ≤ 8 ∧ ∀ i (h : i < l.length), k ≤ i → i < e → l[i] = 0 }) (fun i => [(1, .pointer (some ⟨b1, 0, none⟩)), (4, .int .i64 (f : Int)), (5, .int .i64 (n : Int)), (6, .int .i64 (k : Int)), (7, .int .i64 (i.1 : Int))]) (fun _ => (b1, .cells (u16s l).toArray 252 (0, 0)) :: F) (fun i => 8 - i.1) ⟨k, Nat.le_refl _, hk, fun i h h1 h2 => by omega⟩ ⟨rfl, rfl, rfl, rfl, rfl, trivial⟩ (fun _ h => h) ?_
    rintro ⟨e, hke, he, hz⟩
    dsimp only at hke he hz ⊢
    by_cases he8 : e < 8
    · have hel : e < l.length := by omega
      have hne := hn l[e] (by simp)
      by_cases h0 : l[e] = 0
      · refine au ?_
        refine G.rd (Rd.indexArr rfl rfl (by omega) (by omega)) rfl rfl ?_
        refine G.rd (Rd.load rfl (cellH (cell_u16s l e hel))) rfl rfl ?_
        refine au ?_
        have hz' : ∀ i (h : i < l.length), k ≤ i → i < e + 1 → l[i] = 0 := by
          intro i h h1 h2
          rcases Nat.lt_or_ge i e with h3 | h3
          · exact hz i h h1 h3
          · obtain rfl : i = e := by omega
            exact h0
        exact GQ.back ⟨e + 1, by omega, by omega, hz'⟩ (by simp only; omega) ⟨rfl, rfl, rfl, rfl, rfl, trivial⟩ (fun _ h => h)
      · skip
        have hzl : zlead (l.drop k) = e - k := zlead_eq l e (by omega) (fun _ => h0) (e - k) k (by omega) hz
        have hstep : (List.range (k + 1)).foldl (rowStep l) (8, 1) = if e - k > n then (k, e - k) else (f, n) := by
          rw [List.range_succ, List.foldl_append, ← hfn]
          simp only [List.foldl_cons, List.foldl_nil, rowStep, hzl]
        rcases Nat.lt_or_ge n (e - k) with hg | hg
        · refine au ?_
          refine G.rd (Rd.indexArr rfl rfl (by omega) (by omega)) rfl rfl ?_
          refine G.rd (Rd.load rfl (cellH (cell_u16s l e hel))) rfl rfl ?_
          refine au ?_
          exact GQ.back ⟨(k + 1, k, e - k), by omega, by rw [hstep, if_pos hg], by dsimp only; omega, by dsimp only; omega⟩ (by simp only; omega) ⟨rfl, rfl, (by show some _ = some (Value.int .i64 ((e - k : Nat) : Int)); congr 2; omega), rfl, trivial⟩ (fun _ h => h)
        · refine au ?_
          refine G.rd (Rd.indexArr rfl rfl (by omega) (by omega)) rfl rfl ?_
          refine G.rd (Rd.load rfl (cellH (cell_u16s l e hel))) rfl rfl ?_
          refine au ?_
          exact GQ.back ⟨(k + 1, f, n), by omega, by rw [hstep, if_neg (by omega)], hf, hn8⟩ (by simp only; omega) ⟨rfl, rfl, rfl, rfl, trivial⟩ (fun _ h => h)
    · have he9 : e = 8 := by omega
      skip
      have hzl : zlead (l.drop k) = e - k := zlead_eq l e (by omega) (fun h => by omega) (e - k) k (by omega) hz
      have hstep : (List.range (k + 1)).foldl (rowStep l) (8, 1) = if e - k > n then (k, e - k) else (f, n) := by
        rw [List.range_succ, List.foldl_append, ← hfn]
        simp only [List.foldl_cons, List.foldl_nil, rowStep, hzl]
      rcases Nat.lt_or_ge n (e - k) with hg | hg
      · refine au ?_
        skip
        exact GQ.back ⟨(k + 1, k, e - k), by omega, by rw [hstep, if_pos hg], by dsimp only; omega, by dsimp only; omega⟩ (by simp only; omega) ⟨rfl, rfl, (by show some _ = some (Value.int .i64 ((e - k : Nat) : Int)); congr 2; omega), rfl, trivial⟩ (fun _ h => h)
      · refine au ?_
        skip
        exact GQ.back ⟨(k + 1, f, n), by omega, by rw [hstep, if_neg (by omega)], hf, hn8⟩ (by simp only; omega) ⟨rfl, rfl, rfl, rfl, trivial⟩ (fun _ h => h)
  · obtain rfl : k = 8 := by omega
    refine au ?_
    refine GQ.heap (H' := F) ?_ (fun w hw => hw.sub SubH.out)
    refine GQ.done2 rfl rfl rfl ⟨?_, rfl⟩
    rw [rowL, h8, ← hfn]
theorem four_spec (hv : Vars W0) (a : List UInt8) (ha : a.length = 16) : T Tryz.prog W0 181 #[.agg (u8s a).toArray] F (fun v H' => v = .bool (a.take 12 == aheadL) ∧ H' = F) := by
  refine T.intro (args := [_]) Tryz.func181 rfl Tryz.ntmps181 rfl ?_
  refine au ?_
  refine G.ef rfl rfl rfl (Eff.box rfl (fun b1 => ?_))
  refine G.heap (H' := (b1, .cells (u8s a).toArray 34 (0, 0)) :: F) ?_ (fun _ h => h)
  refine au ?_
  refine GC.drawnH [(0, .read), (1, .read), (2, .read), (3, .read), (4, .read), (5, .read)] (by kernel_rfl) (by kernel_rfl) rfl ?_
  refine G.rd (Rd.slArrH (h := 12) rfl rfl rfl (by omega) (by omega)) rfl rfl ?_
  refine G.rd (Rd.arrPtr rfl (by omega)) rfl rfl ?_
  have h12 : (u8s (a.take 12)).length = 12 := by rw [u8s_length, List.length_take]; omega
  refine G.rd (Rd.loadAgg (cs := u8s (a.take 12)) rfl h12 (cellsH (cs := (u8s a).toArray) (fun j u hj => ?_))) rfl rfl ?_
  · rw [← u8s_take, List.getElem?_take] at hj
    split at hj
    · simpa using hj
    · cases hj
  refine G.rd (Rd.loadAgg (cs := u8s aheadL) rfl rfl (fun w hw j u hj => cell_kept (hv.ahead j u hj) hw)) rfl rfl ?_
  refine G.rd (Rd.eqlBytes (l := a.take 12) (m := aheadL) rfl (by kernel_rfl) rfl rfl (by rw [List.length_take, ha]; rfl) rfl) rfl rfl ?_
  refine au ?_
  refine GQ.heap (H' := F) ?_ (fun w hw => hw.sub SubH.out)
  exact GQ.done1 rfl rfl ⟨rfl, rfl⟩
end
end Go.Adr

namespace Go.Adr
open Go.Own Go.Proofs Go.RowKit Go.Lib Go.Asc
attribute [local irreducible] GC GQ G Rd Eff T
set_option maxRecDepth 20000
set_option maxHeartbeats 4000000

theorem cell_at (l : List UInt8) (o k : Nat) (hk : o + k < l.length) : ((u8s l).toArray : Array Value)[0 + o * 1 + k * 1]? = some (.int .u8 ((l[o + k]).toNat : Int)) := by
  rw [Nat.zero_add, Nat.mul_one, Nat.mul_one, List.getElem?_toArray]
  simp [u8s, hk]
theorem u16_in (n : Int) (h : 0 ≤ n ∧ n ≤ 65535) : IntKind.u16.wrap n = n := by rw [IntKind.wrap_u16]; omega
theorem or_low8 (n k : Nat) (hk : k < 256) : (n * 256) ||| k = n * 256 + k := by
  have := Nat.two_pow_add_eq_or_of_lt (i := 8) (b := k) (by omega) n
  rw [show 2 ^ 8 * n = n * 256 by omega] at this
  exact this.symm
theorem set_u16s (l : List Nat) (k : Nat) (n : Nat) : (u16s l).toArray.setIfInBounds (0 + k * 1) (.int .u16 (n : Int)) = (u16s (l.set k n)).toArray := by
  simp only [Nat.zero_add, Nat.mul_one, List.setIfInBounds_toArray]
  simp [u16s, List.map_set]
theorem half_set16 (m : List Nat) (N k : Nat) (hm : m.length = N) (hk : k < N) (c : Nat) (hc : m[k]? = some c) : (m.take k ++ List.replicate (N - k) 0).set k c = m.take (k + 1) ++ List.replicate (N - (k + 1)) 0 := by
  rw [List.set_append_right _ _ (by rw [List.length_take]; omega), List.length_take, Nat.min_eq_left (by omega), Nat.sub_self, show N - k = (N - (k + 1)) + 1 by omega, List.replicate_succ, List.set_cons_zero, List.take_add_one, hc]
  simp
theorem cell_a (l : List UInt8) (k : Nat) (hk : k < l.length) : ((u8s l).toArray : Array Value)[0 + k * 1]? = some (.int .u8 ((l[k]).toNat : Int)) := by
  have := cell_u8s l [] k hk
  rwa [List.append_nil] at this
theorem u16s_length (l : List Nat) : (u16s l).length = l.length := by simp [u16s]
section
variable {W0 : World} {F : Heap}
theorem print_spec (hv : Vars W0) (a : List UInt8) (ha : a.length = 16) : T Tryz.prog W0 147 #[.agg (u8s a).toArray] F (fun v H' => v = S (printL a) ∧ H' = F) := by
  refine T.intro (args := [_]) Tryz.func147 rfl Tryz.ntmps147 rfl ?_
  refine au ?_
  refine G.ef rfl rfl rfl (Eff.box rfl (fun b1 => ?_))
  refine G.heap (H' := (b1, .cells (u8s a).toArray 34 (0, 0)) :: F) ?_ (fun _ h => h)
  refine au ?_
  refine G.rd (Rd.loadBlk rfl (by rw [u8s_length]; exact ha)) rfl rfl ?_
  refine G.ef rfl rfl rfl (Eff.callF rfl ((four_spec hv a ha).mono ?_))
  rintro v H' ⟨rfl, rfl⟩
  by_cases h4 : a.take 12 = aheadL
  · rw [show (a.take 12 == aheadL) = true by simp [h4]]
    refine au ?_
    refine G.rd (Rd.slArrL (l := 12) rfl rfl rfl (by omega)) rfl rfl ?_
    obtain ⟨ts, hts⟩ : ∃ ts, ts = (a.drop 12).map fun b => itoa (b.toNat : Int) := ⟨_, rfl⟩
    have htl : ts.length = 4 := by rw [hts]; simp [ha]
    have hpr : printL a = join ts [46] := by rw [printL, if_pos h4, hts]
    rw [hpr]
    refine au ?_
    refine GC.loop (ι := { q : Nat × Value × Heap // q.1 ≤ 4 ∧ Buf 9 1 q.2.1 (ts.take q.1).length (strs (ts.take q.1)) q.2.2 }) (fun i => [(3, i.1.2.1), (13, .slice (some ⟨b1, 0 + 12 * 1, none⟩) (16 - 12) (16 - 12)), (14, .int .i64 4), (15, .int .i64 (i.1.1 : Int))]) (fun i => i.1.2.2 ++ ((b1, .cells (u8s a).toArray 34 (0, 0)) :: F)) (fun i => 4 - i.1.1) ⟨(0, .slice none 0 0, []), Nat.zero_le _, .nil⟩ ⟨rfl, rfl, rfl, rfl, trivial⟩ (fun _ h => h) ?_
    rintro ⟨⟨k, v, B⟩, hk, hb⟩
    dsimp only at hk hb ⊢
    have hlk : (ts.take k).length = k := by simp; omega
    by_cases hlt : k < 4
    · have hb8 : (a[12 + k]).toNat < 256 := (a[12 + k]).toNat_lt
      have htk : ts.take (k + 1) = ts.take k ++ [itoa ((a[12 + k]).toNat : Int)] := by
        rw [List.take_succ_eq_append_getElem (by omega)]
        simp [hts]
      refine au ?_
      refine G.rd (Rd.load rfl (cellH (cell_at a 12 k (by omega)))) rfl rfl ?_
      refine au ?_
      refine G.rd (Rd.conv rfl (IntWalk.i64_in _ (by omega))) rfl rfl ?_
      refine G.ef rfl rfl rfl (Eff.callF rfl ((itoa_spec hv ((a[12 + k]).toNat : Int) (by omega) (by omega)).mono ?_))
      rintro v' H' ⟨rfl, rfl⟩
      refine G.ef rfl rfl rfl (Eff.buildSlice (cells := (strs [itoa ((a[12 + k]).toNat : Int)]).toArray) rfl (by kernel_rfl) (by omega) (fun b2 => ?_))
      refine G.ef rfl rfl rfl (Eff.appendS (xs := ts.take k) (ys := [itoa ((a[12 + k]).toNat : Int)]) (B := B) rfl hb rfl List.perm_middle.symm (fun w hw => .inr ⟨b2, 0, rfl, cellsH (cs := (strs [itoa ((a[12 + k]).toNat : Int)]).toArray) (fun j u hj => by simpa using hj) w hw⟩) (by rw [hlk]; show (k + 1) * 16 ≤ _; omega) (fun v2 B2 hb2 => ?_))
      refine au ?_
      refine GQ.heap (H' := B2 ++ ((b1, .cells (u8s a).toArray 34 (0, 0)) :: F)) ?_ (fun w hw => hw.sub (((List.Sublist.refl (_ :: F)).cons _).append_left B2))
      refine GQ.back ⟨(k + 1, v2, B2), by omega, ?_⟩ (by simp only; omega) ⟨rfl, rfl, rfl, rfl, trivial⟩ (fun _ h => h)
      dsimp only
      rw [htk]
      exact hb2
    · obtain rfl : k = 4 := by omega
      rw [List.take_of_length_le (by omega)] at hb
      refine au ?_
      have hjl := join_len [46] 3 ts (fun x hx => by rw [hts] at hx; obtain ⟨b, _, rfl⟩ := List.mem_map.1 hx; exact itoa_len _ b.toNat_lt)
      rw [htl, show 4 * (3 + ([46] : List UInt8).length) = 16 from rfl] at hjl
      rcases Buf.split hb with ⟨_, h0, _, _⟩ | ⟨b3, cap, extra, rfl, hcap, rfl⟩
      · omega
      · rw [List.singleton_append]
        refine G.ef rfl rfl rfl (Eff.callF rfl ((join_spec ts [46] b3 cap (by intro h; rw [h] at htl; simp at htl) hcap (by omega) (by omega) (cellsH (cs := (strs ts ++ extra).toArray) (fun j u hj => ?_))).mono ?_))
        · have hlt := (List.getElem?_eq_some_iff.1 hj).1
          simp [List.getElem?_append_left hlt, hj]
        rintro v' H' ⟨rfl, rfl⟩
        refine au ?_
        refine GQ.heap (H' := F) ?_ (fun w hw => hw.sub SubH.out)
        exact GQ.done1 rfl rfl ⟨rfl, rfl⟩
  · rw [show (a.take 12 == aheadL) = false by simp [h4]]
    refine au ?_
    refine G.ef rfl rfl rfl (Eff.alloc (fun b6 => ?_))
    refine G.heap (H' := (b6, .cells (u16s (List.replicate 8 0)).toArray 252 (0, 0)) :: (b1, .cells (u8s a).toArray 34 (0, 0)) :: F) ?_ (fun _ h => h)
    refine au ?_
    obtain ⟨gs, hgs⟩ : ∃ gs, gs = groupsL a := ⟨_, rfl⟩
    have hgl : gs.length = 8 := by rw [hgs]; simp [groupsL]
    have hgn : ∀ n ∈ gs, n < 65536 := by
      intro n hn
      rw [hgs] at hn
      obtain ⟨k, _, rfl⟩ := List.mem_map.1 hn
      have h1 := (a.getD (2 * k) 0).toNat_lt
      have h2 := (a.getD (2 * k + 1) 0).toNat_lt
      omega
    have hpr : printL a = if (rowL gs).1 = 8 then textL gs else textL (gs.take (rowL gs).1) ++ [58, 58] ++ textL (gs.drop ((rowL gs).1 + (rowL gs).2)) := by rw [printL, if_neg h4, hgs]
    rw [hpr]
    refine GC.loop (ι := { k : Nat // k ≤ 8 }) (fun i => [(1, .pointer (some ⟨b1, 0, none⟩)), (6, .pointer (some ⟨b6, 0, none⟩)), (28, .int .i64 (i.1 : Int))]) (fun i => (b6, .cells (u16s (gs.take i.1 ++ List.replicate (8 - i.1) 0)).toArray 252 (0, 0)) :: (b1, .cells (u8s a).toArray 34 (0, 0)) :: F) (fun i => 8 - i.1) ⟨0, Nat.zero_le _⟩ ⟨rfl, rfl, rfl, trivial⟩ (fun _ h => h) ?_
    rintro ⟨k, hk⟩
    dsimp only at hk ⊢
    by_cases hlt : k < 8
    · have hb1 := (a[2 * k]'(by omega)).toNat_lt
      have hb2 := (a[2 * k + 1]'(by omega)).toNat_lt
      have hgk : gs[k]? = some ((a[2 * k]'(by omega)).toNat * 256 + (a[2 * k + 1]'(by omega)).toNat) := by
        rw [hgs, groupsL, List.getElem?_map, List.getElem?_range hlt]
        simp only [Option.map_some, List.getD]
        rw [List.getElem?_eq_getElem (by omega), List.getElem?_eq_getElem (by omega)]
        rfl
      refine au ?_
      refine GC.drawnH [(0, .read), (1, .read), (2, .read), (3, .read), (4, .read), (5, .read), (6, .read), (7, .read), (8, .read), (9, .read), (10, .read), (11, .read), (12, .read), (13, .read), (14, .read), (15, .tail)] (by kernel_rfl) (by kernel_rfl) rfl ?_
      refine au ?_
      rw [show 2 * (k : Int) = ((2 * k : Nat) : Int) by omega]
      refine G.rd (Rd.indexArr rfl rfl (by omega) (by omega)) rfl rfl ?_
      refine G.rd (Rd.load rfl (cellH (cell_a a (2 * k) (by omega)))) rfl rfl ?_
      refine G.rd (Rd.conv rfl (u16_in _ (by omega))) rfl rfl ?_
      refine G.rd (Rd.shl (n := 8) (c := (((a[2 * k]'(by omega)).toNat * 256 : Nat) : Int)) rfl rfl rfl (by decide) (by rw [show (2 : Int) ^ 8 = 256 from rfl, u16_in _ (by omega)]; omega)) rfl rfl ?_
      refine au ?_
      rw [show 2 * (k : Int) + 1 = ((2 * k + 1 : Nat) : Int) by omega]
      refine G.rd (Rd.indexArr rfl rfl (by omega) (by omega)) rfl rfl ?_
      refine G.rd (Rd.load rfl (cellH (cell_a a (2 * k + 1) (by omega)))) rfl rfl ?_
      refine G.rd (Rd.conv rfl (u16_in _ (by omega))) rfl rfl ?_
      refine G.rd (Rd.or (m := (a[2 * k]'(by omega)).toNat * 256) (n := (a[2 * k + 1]'(by omega)).toNat) (r := (a[2 * k]'(by omega)).toNat * 256 + (a[2 * k + 1]'(by omega)).toNat) rfl rfl rfl rfl (by show _ < 2 ^ 16; omega) (by show _ < 2 ^ 16; omega) (or_low8 _ _ (by omega)) (u16_in _ (by omega))) rfl rfl ?_
      refine G.rd (Rd.indexArr rfl rfl (by omega) (by omega)) rfl rfl ?_
      refine G.ef rfl rfl rfl (Eff.store rfl rfl rfl (by simp [u16s_length]; omega) (by simp [Fz]) ?_)
      refine au ?_
      refine GQ.back ⟨k + 1, by omega⟩ (by simp only; omega) ⟨rfl, rfl, rfl, trivial⟩ (fun w hw => ?_)
      rw [← half_set16 gs 8 k hgl hlt _ hgk, ← set_u16s]
      exact hw
    · obtain rfl : k = 8 := by omega
      rw [show gs.take 8 = gs from List.take_of_length_le (by omega), Nat.sub_self, List.replicate_zero, List.append_nil]
      have hg16 : (u16s gs).length = 8 := by rw [u16s_length, hgl]
      have hrb := rowL_bound gs hgl
      refine au ?_
      refine G.rd (Rd.loadBlk rfl hg16) rfl rfl ?_
      refine G.ef rfl rfl rfl (Eff.callF rfl ((row_spec gs hgl hgn).mono ?_))
      rintro v H' ⟨rfl, rfl⟩
      by_cases hr8 : (rowL gs).1 = 8
      · rw [if_pos hr8]
        refine au ?_
        refine G.rd (Rd.slArr rfl (by omega)) rfl rfl ?_
        have htx := text_spec (F := (b6, .cells (u16s gs).toArray 252 (0, 0)) :: (b1, .cells (u8s a).toArray 34 (0, 0)) :: F) hv gs b6 0 8 (by omega) (by omega) hgn (RO.cells (cs := u16s gs) (fun j u h => by simpa using h))
        rw [hgl] at htx
        refine G.ef rfl rfl rfl (Eff.callV rfl rfl (htx.mono ?_))
        rintro v H' ⟨rfl, rfl⟩
        refine au ?_
        refine GQ.heap (H' := F) ?_ (fun w hw => hw.sub SubH.out)
        exact GQ.done1 rfl rfl ⟨rfl, rfl⟩
      · rw [if_neg hr8]
        obtain ⟨hr1, hr2⟩ := hrb.resolve_left hr8
        have htxl : ∀ l : List Nat, l.length ≤ 8 → (∀ n ∈ l, n < 65536) → (textL l).length ≤ 40 := fun l h1 h2 => by
          have := join_len [58] 4 (l.map hexL) (fun x hx => by obtain ⟨n, hn1, rfl⟩ := List.mem_map.1 hx; exact hexL_len n (h2 n hn1))
          rw [List.length_map, show 4 + ([58] : List UInt8).length = 5 from rfl] at this
          unfold textL
          omega
        clear hrb
        generalize rowL gs = p at hr8 hr1 hr2 ⊢
        obtain ⟨f, n⟩ := p
        dsimp only at hr8 hr1 hr2 ⊢
        have htl : (gs.take f).length = f := by rw [List.length_take]; omega
        have hdl : (gs.drop (f + n)).length = 8 - (f + n) := by rw [List.length_drop, hgl]
        have hx1 := htxl (gs.take f) (by omega) (fun m hm => hgn m (List.mem_of_mem_take hm))
        have hx2 := htxl (gs.drop (f + n)) (by omega) (fun m hm => hgn m (List.mem_of_mem_drop hm))
        have h58 : ([58, 58] : List UInt8).length = 2 := rfl
        have ht1 := text_spec (F := (b6, .cells (u16s gs).toArray 252 (0, 0)) :: (b1, .cells (u8s a).toArray 34 (0, 0)) :: F) hv (gs.take f) b6 0 8 (by omega) (by omega) (fun m hm => hgn m (List.mem_of_mem_take hm)) (RO.cells (cs := u16s gs) (fun j u h => by
          simp only [u16s, List.map_take, List.getElem?_take] at h
          split at h
          · simpa [u16s] using h
          · cases h))
        rw [htl] at ht1
        refine au ?_
        refine GC.drawnH [(0, .read), (1, .read), (2, .read), (5, .read), (6, .read), (7, .read), (8, .read), (9, .read), (3, .eff), (4, .read), (10, .eff), (11, .read), (12, .read)] (by kernel_rfl) (by kernel_rfl) rfl ?_
        refine au ?_
        refine G.rd (Rd.slArrH (h := f) rfl rfl rfl (by omega) (by omega)) rfl rfl ?_
        refine au ?_
        rcases Nat.lt_or_ge (f + n) 8 with h9 | h9
        · have ht2 := text_spec (F := (b6, .cells (u16s gs).toArray 252 (0, 0)) :: (b1, .cells (u8s a).toArray 34 (0, 0)) :: F) hv (gs.drop (f + n)) b6 (0 + (f + n) * 1) (8 - (f + n)) (by omega) (by omega) (fun m hm => hgn m (List.mem_of_mem_drop hm)) (RO.cells (cs := u16s gs) (fun j u h => by
            simp only [u16s, List.map_drop, List.getElem?_drop] at h
            rw [Nat.zero_add, Nat.mul_one]
            simpa [u16s] using h))
          rw [hdl] at ht2
          refine G.rd (Rd.slArrL (l := f + n) rfl rfl (by omega) (by omega)) rfl rfl ?_
          refine G.ee rfl rfl rfl (Eff.callV rfl rfl (ht1.mono ?_))
          rintro v H' ⟨rfl, rfl⟩
          refine ⟨inferInstance, ?_⟩
          refine G.rd (Rd.cat rfl rfl (by omega)) rfl rfl ?_
          refine G.ee rfl rfl rfl (Eff.callV rfl rfl (ht2.mono ?_))
          rintro v H' ⟨rfl, rfl⟩
          refine ⟨inferInstance, ?_⟩
          refine G.rd (Rd.cat rfl rfl (by rw [List.length_append]; omega)) rfl rfl ?_
          refine au ?_
          refine GQ.heap (H' := F) ?_ (fun w hw => hw.sub SubH.out)
          exact GQ.done1 rfl rfl ⟨rfl, rfl⟩
        · have h10 : f + n = 8 := by omega
          have ht2 := text_spec (F := (b6, .cells (u16s gs).toArray 252 (0, 0)) :: (b1, .cells (u8s a).toArray 34 (0, 0)) :: F) hv (gs.drop (f + n)) b6 0 0 (by omega) (by omega) (fun m hm => hgn m (List.mem_of_mem_drop hm)) (fun X w hw j u h => by
            rw [List.drop_of_length_le (by omega)] at h
            simp [u16s] at h)
          rw [hdl, show 8 - (f + n) = 0 by omega] at ht2
          refine G.rd (Rd.slArrE rfl rfl (by omega)) rfl rfl ?_
          refine G.ee rfl rfl rfl (Eff.callV rfl rfl (ht1.mono ?_))
          rintro v H' ⟨rfl, rfl⟩
          refine ⟨inferInstance, ?_⟩
          refine G.rd (Rd.cat rfl rfl (by omega)) rfl rfl ?_
          refine G.ee rfl rfl rfl (Eff.callV rfl rfl (ht2.mono ?_))
          rintro v H' ⟨rfl, rfl⟩
          refine ⟨inferInstance, ?_⟩
          refine G.rd (Rd.cat rfl rfl (by rw [List.length_append]; omega)) rfl rfl ?_
          refine au ?_
          refine GQ.heap (H' := F) ?_ (fun w hw => hw.sub SubH.out)
          exact GQ.done1 rfl rfl ⟨rfl, rfl⟩
end
end Go.Adr
