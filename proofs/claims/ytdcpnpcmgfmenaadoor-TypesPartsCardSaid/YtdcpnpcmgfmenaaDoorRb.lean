/-
  What the row's condition gives: the tables. Conditions: none.
-/
import Derived.Test.YtdcpnpcmgfmenaaDoorRa
import Derived.Test.YtdcpnpcmgfmenaaDoorRows
import Derived.ProofKit
import Derived.Lay
import Derived.Below
import Derived.SizedLaws
import Derived.SevenTiedAt
import Derived.Stop.Joined
set_option linter.unusedVariables false
set_option maxRecDepth 100000
namespace Go.Proofs.YtdcpnpcmgfmenaaDoor
open Go Go.Proofs.YtdcpnpcmgfmenaaDoor.Lg Go.ChangeShapes Go.WideShapes Go.RowKit

def laidL : List (String × DataW Unit) := [("unicode/utf8.acceptRanges", Rows.laid_unicode_utf8_acceptRanges), ("calamus/types.kinds", Rows.laid_calamus_types_kinds), ("unicode/utf8.first", Rows.laid_unicode_utf8_first)]
theorem u8t : U8Types Tryd.prog Tryd.laysValid_ren := U8Types.of196 Tryd.laysValid
theorem u8x : U8Extra Tryd.prog Tryd.laysValid_ren := { n3 := by kernel_rfl, y3 := by kernel_rfl, n4 := by kernel_rfl, y4 := by kernel_rfl, c5 := by kernel_rfl, c119 := by kernel_rfl, c138 := by kernel_rfl }
theorem first_eq : Rows.laid_unicode_utf8_first = Lib.firstData := by kernel_rfl
theorem accept_eq : (Rows.laid_unicode_utf8_acceptRanges : DataW Unit) = Lib.acceptData := by kernel_rfl
theorem tabs_of_laid {W : World} (h : laidMetH Tryd.prog laidL W) : Lib.Utf8Tabs gFirst gAccept W := by
  rw [MakeChecks.laidMetH_plain _ _ _ (by kernel_rfl)] at h
  have h3 := Lib.laidMet.reads h (n := "unicode/utf8.first") (d := Rows.laid_unicode_utf8_first) (by simp [laidL])
  have h4 := Lib.laidMet.reads h (n := "unicode/utf8.acceptRanges") (d := Rows.laid_unicode_utf8_acceptRanges) (by simp [laidL])
  rw [first_eq] at h3
  rw [accept_eq] at h4
  exact utf8Tabs_of_readsT u8t u8x h3 h4
theorem kinds_of_laid {W : World} (h : laidMetH Tryd.prog laidL W) : ∀ (j : Nat) c, gl0[j]? = some c → ∃ v, c = .v v ∧ W.cell? ⟨0, j, none⟩ = some v := by
  rw [MakeChecks.laidMetH_plain _ _ _ (by kernel_rfl)] at h
  obtain ⟨g, t, cs, fuel, p, hg, ht, hv, hd⟩ := Lib.laidMet.reads h (n := "calamus/types.kinds") (d := Rows.laid_calamus_types_kinds) (by simp [laidL])
  obtain rfl := Option.some.inj ((show Tryd.prog.globalNamed "calamus/types.kinds" = some 0 by kernel_rfl).symm.trans hg)
  obtain rfl := Option.some.inj ((show (Tryd.prog.globals[0]?).map (·.type) = some 69 by kernel_rfl).symm.trans ht)
  have hcs := Lib.cells_of_tab (zs := [0, 0, 1, 2, 3, 3, 4, 5, 6]) (k := .i64) Tryd.underlying69 Tryd.underlying35 (by kernel_rfl) (by kernel_rfl) hd
  intro j c hj
  rw [World.var?_cell hg hv j, ← Array.getElem?_toList, hcs]
  match j, hj with
  | 0, hj | 1, hj | 2, hj | 3, hj | 4, hj | 5, hj | 6, hj | 7, hj | 8, hj => cases hj; exact ⟨_, rfl, rfl⟩
  | j + 9, hj => simp [gl0] at hj

/-- How a call of the law finds the world. -/
def g0 (W : World) : G := { ρ := fun _ => 0, κ := fun _ => 0, cap := fun _ => 0, vt := fun _ => false, I := Lt W, J := Lt W }
theorem cell_lt {W : World} {b o : Nat} {v : Value} (h : W.cell? ⟨b, o, none⟩ = some v) : b < W.heap.size := by
  unfold World.cell? at h
  split at h
  · rename_i hh; exact (Array.getElem?_eq_some_iff.1 hh).1
  · cases h
theorem gl_cells {W : World} {i : Nat} {cs : List D} (h0 : 0 < cs.length) (h : ∀ (j : Nat) c, cs[j]? = some c → ∃ v, c = .v v ∧ W.cell? ⟨i, j, none⟩ = some v) :
    Lt W i ∧ ∃ f : Nat → Value, (∀ (j : Nat) c, cs[j]? = some c → W.cell? ⟨i, j, none⟩ = some (f j)) ∧ ∀ (j : Nat) c, cs[j]? = some c → DR W (Lt W) (Lt W) c (f j) := by
  refine ⟨?_, fun j => (W.cell? ⟨i, j, none⟩).getD undef, fun j c hc => ?_, fun j c hc => ?_⟩
  · obtain ⟨v, _, hv⟩ := h 0 _ (List.getElem?_eq_getElem h0)
    exact cell_lt hv
  · obtain ⟨v, _, hv⟩ := h j c hc
    simp only [hv, Option.getD_some]
  · obtain ⟨v, rfl, hv⟩ := h j c hc
    simp only [hv, Option.getD_some]
    exact .v _
theorem start_hr {W : World} (h : laidMetH Tryd.prog laidL W) : HRel env W (g0 W) 0 (fun _ => .dead) := by
  refine ⟨fun _ h => by omega, fun _ _ => rfl, fun _ _ h => by omega, fun _ h => h, fun _ h => h, fun b _ ⟨l, hl, _⟩ => by omega, fun i cs hcs => ?_⟩
  have hT := tabs_of_laid h
  have hcs : glT i = some cs := hcs
  unfold glT at hcs
  split at hcs
  · injection hcs with hcs; subst hcs
    exact gl_cells (by decide) (kinds_of_laid h)
  · injection hcs with hcs; subst hcs
    refine gl_cells (by simp [gl1]) fun j c hj => ?_
    simp only [gl1, List.getElem?_map, Option.map_eq_some_iff] at hj
    obtain ⟨a, ha, rfl⟩ := hj
    obtain ⟨hlt, hra⟩ := List.getElem?_eq_some_iff.1 ha
    simp at hlt hra
    subst hra
    exact ⟨_, rfl, hT.1 j hlt⟩
  · injection hcs with hcs; subst hcs
    refine gl_cells (by decide) fun j c hj => ?_
    have hj32 : j < 32 := by have := (List.getElem?_eq_some_iff.1 hj).1; simpa [gl2] using this
    have key : ∀ i, i < 16 → gl2[2 * i]? = some (.v (.int .u8 (Lib.accLo i))) ∧ gl2[2 * i + 1]? = some (.v (.int .u8 (Lib.accHi i))) := by
      intro i hi
      match i, hi with
      | 0, _ | 1, _ | 2, _ | 3, _ | 4, _ | 5, _ | 6, _ | 7, _ | 8, _ | 9, _ | 10, _ | 11, _ | 12, _ | 13, _ | 14, _ | 15, _ => exact ⟨rfl, rfl⟩
      | i + 16, h => omega
    have ht := hT.2 (j / 2) (by omega)
    have hk := key (j / 2) (by omega)
    rcases Nat.mod_two_eq_zero_or_one j with e | e
    · have : j = 2 * (j / 2) := by omega
      rw [this] at hj ⊢
      rw [hk.1] at hj
      cases hj
      exact ⟨_, rfl, ht.1⟩
    · have : j = 2 * (j / 2) + 1 := by omega
      rw [this] at hj ⊢
      rw [hk.2] at hj
      cases hj
      exact ⟨_, rfl, ht.2⟩
  · cases hcs

theorem own0 : ownKnob Tryd.prog.godebug = none := by kernel_rfl
theorem laidOut0 : laidOutB Tryd.prog = true := by kernel_rfl
theorem vr_of {W : World} {ds : List D} {xs : Array Value} (h : DRs W ds xs.toList) : VR W (g0 W) 0 (.d (.agg ds)) (.agg xs) :=
  .d _ _ (.agg _ _ (by simpa using h.1) fun i c x hc hx => h.2 i c x hc (by simpa using hx))
end Go.Proofs.YtdcpnpcmgfmenaaDoor
