/-
  NAMES: the one form of a name; its labels.
-/
import Derived.Test.YtajkpdhcefkopaaGreatDoorNam1
namespace Go.Nam
open Go.Own Go.Proofs Go.RowKit Go.Lib Go.Asc Go.Adr
attribute [local irreducible] GC GQ G Rd Eff T
set_option maxRecDepth 20000
set_option maxHeartbeats 4000000

def normalV (s : List UInt8) : Value := .tuple #[S (normalL s).1, .int .i64 ((normalL s).2 : Int)]

section
variable {W0 : World} {F : Heap}
theorem normal_spec (hv : Vars W0) (s : List UInt8) (hl : s.length < 4294967281) : T Tryz.prog W0 88 #[S s] F (fun v H' => v = normalV s ∧ H' = F) := by
  refine T.intro (args := [_]) Tryz.func88 rfl Tryz.ntmps88 rfl ?_
  refine au ?_
  refine G.ef rfl rfl rfl (Eff.callF rfl ((parse_spec hv s hl).mono ?_))
  rintro v H' ⟨rfl, rfl⟩
  unfold parseV
  have hz16 : (u8s ((parseL s).getD zero16)).length = 16 := by
    rw [u8s_length]
    cases hp : parseL s with
    | none => rfl
    | some a => exact parseL_len hp
  refine au ?_
  refine G.ef rfl rfl rfl (Eff.alloc (fun b4 => ?_))
  refine G.heap (H' := (b4, .cells (u8s zero16).toArray 24 (0, 0)) :: H') ?_ (fun _ h => h)
  refine G.ef rfl rfl rfl (Eff.storeAll rfl rfl (u8s_one _) (by rw [hz16]; rfl) hz16 ?_)
  cases hp : parseL s with
  | some a =>
    simp only [Option.isSome_some, Option.getD_some]
    have ha := parseL_len hp
    refine au ?_
    refine G.rd (Rd.loadBlk rfl (by rw [u8s_length]; exact ha)) rfl rfl ?_
    refine G.ef rfl rfl rfl (Eff.callF rfl ((print_spec hv a ha).mono ?_))
    rintro v H2 ⟨rfl, rfl⟩
    refine au ?_
    refine GQ.heap (H' := H') ?_ (fun w hw => hw.sub SubH.out)
    exact GQ.done2 rfl rfl rfl ⟨by simp only [normalV, normalL, hp]; rfl, rfl⟩
  | none =>
    simp only [Option.isSome_none, Option.getD_none]
    refine au ?_
    refine G.heap (H' := H') ?_ (fun w hw => hw.sub SubH.out)
    refine G.ef rfl rfl rfl (Eff.callF rfl ((lower_spec s (by omega)).mono ?_))
    rintro v H2 ⟨rfl, rfl⟩
    have hll : (s.map lowB).length = s.length := List.length_map _
    refine G.ef rfl rfl rfl (Eff.callF rfl ((trimSuffix_spec (s.map lowB) 46 (by omega)).mono ?_))
    rintro v H3 ⟨rfl, rfl⟩
    have htl := trimL_le 46 (s.map lowB)
    have hnl : normalL s = if trimL 46 (s.map lowB) = [] then ([], 8)
      else if 253 < (trimL 46 (s.map lowB)).length then ([], 6)
      else if (splitB 46 (trimL 46 (s.map lowB))).any badL = true ∨ ((splitB 46 (trimL 46 (s.map lowB))).getLast?.getD []).any (fun b => otherP b.toNat) = false then ([], 9)
      else (trimL 46 (s.map lowB), 0) := by simp only [normalL, hp]
    unfold normalV
    rw [hnl]
    clear hnl
    generalize trimL 46 (s.map lowB) = x at htl ⊢
    refine au ?_
    refine G.ef rfl rfl rfl (Eff.callF rfl ((split_spec x 46 (by omega)).mono ?_))
    rintro v H4 ⟨bk, rfl, rfl⟩
    have hne := splitB_ne 46 x
    have hple := splitB_le 46 x
    have hlen := splitB_length 46 x
    have hcnt := List.count_le_length (a := (46 : UInt8)) (l := x)
    by_cases h0 : x = []
    · rw [if_pos h0]
      refine au ?_
      refine GQ.heap (H' := H3) ?_ (fun w hw => hw.sub SubH.out)
      exact GQ.done2 rfl rfl rfl ⟨rfl, rfl⟩
    · rw [if_neg h0]
      by_cases h1 : 253 < x.length
      · rw [if_pos h1]
        refine au ?_
        refine GQ.heap (H' := H3) ?_ (fun w hw => hw.sub SubH.out)
        exact GQ.done2 rfl rfl rfl ⟨rfl, rfl⟩
      · rw [if_neg h1]
        generalize Asc.splitB 46 x = ps at hne hple hlen ⊢
        have hpos : 0 < ps.length := List.length_pos_iff.2 hne
        refine au ?_
        refine G.ef rfl rfl rfl (Eff.callF rfl ((anyBad_spec ps bk ps.length (Nat.le_refl _) (by omega) (fun y hy => by have := hple y hy; omega) (RO.cells (cs := strs ps) (fun j u h => by simpa using h))).mono ?_))
        rintro v H5 ⟨rfl, rfl⟩
        cases hany : ps.any badL with
        | true =>
          rw [if_pos (Or.inl rfl)]
          refine au ?_
          refine GQ.heap (H' := H3) ?_ (fun w hw => hw.sub SubH.out)
          exact GQ.done2 rfl rfl rfl ⟨rfl, rfl⟩
        | false =>
          have hgl : ps.getLast?.getD [] = ps[ps.length - 1] := by rw [List.getLast?_eq_getElem?, List.getElem?_eq_getElem (by omega)]; rfl
          rw [hgl]
          refine au ?_
          rw [show ((ps.length : Int) - 1) = ((ps.length - 1 : Nat) : Int) by omega]
          refine G.rd (Rd.load rfl (cellH (cell_strs ps (ps.length - 1) (by omega)))) rfl rfl ?_
          refine G.ef rfl rfl rfl (Eff.callF rfl ((containsFunc_spec other_pred otherP_high ps[ps.length - 1]).mono ?_))
          rintro v H6 ⟨rfl, rfl⟩
          cases hlast : (ps[ps.length - 1]).any (fun b => otherP b.toNat) with
          | false =>
            rw [if_pos (Or.inr rfl)]
            refine au ?_
            refine GQ.heap (H' := H3) ?_ (fun w hw => hw.sub SubH.out)
            exact GQ.done2 rfl rfl rfl ⟨rfl, rfl⟩
          | true =>
            rw [if_neg (by simp)]
            refine au ?_
            refine GQ.heap (H' := H3) ?_ (fun w hw => hw.sub SubH.out)
            exact GQ.done2 rfl rfl rfl ⟨rfl, rfl⟩
end
end Go.Nam
