/-
  New objects, reading and writing them. Conditions: none.
-/
import Derived.Test.YtdcpnpcmgfmenaaDoorSc
import Derived.Laws.CopyRow
import Derived.Laws.Tables
set_option linter.unusedSimpArgs false
set_option linter.unusedVariables false
namespace Go.Proofs.YtdcpnpcmgfmenaaDoor.Lg
open Go Go.RowKit

section
variable {E : Env} {B : Base} {Q : Exit → St → Prop} {σ : St} {g : G} {w : World} {a : Act}

/-- A nil slice, counted as a growing row of ours. -/
theorem rel_virt (hr : Rel E B g σ w a) (e sz : Nat) :
    Rel E B (g.at σ.nx 0 0 true) { σ with h := upd σ.h σ.nx (.arr 0 e sz []), nx := σ.nx + 1 } w a ∧ VR w (g.at σ.nx 0 0 true) (σ.nx + 1) (.own σ.nx 0 sz 0 0) (.slice none 0 0) := by
  have hg := gle_at g σ.nx 0 0 true
  have hw : ∀ b, g.J b → w.heap[b]? = w.heap[b]? := fun _ _ => rfl
  have hold : ∀ b, Owned (g.at σ.nx 0 0 true) (σ.nx + 1) (upd σ.h σ.nx (.arr 0 e sz [])) b → Owned g σ.nx σ.h b := by
    rintro b ⟨l, hl, hd, hv, hb⟩
    by_cases e : l = σ.nx
    · subst e; simp [G.at, upd] at hv
    · have hl' : l < σ.nx := by omega
      exact ⟨l, hl', by simpa [upd, e] using hd, by simpa [G.at, upd, e] using hv, by simpa [G.at, upd, e] using hb⟩
  refine ⟨⟨hr.size, tm_mono (σ := σ) hr hg (Nat.le_succ _) hw, ⟨?_, ?_, ?_, hr.hr.Jlt, hr.hr.IJ, fun b hb ho => hr.hr.dis b hb (hold b ho), gl_mono hr.hr (fun _ h => h) (fun _ h => h) hw⟩, ?_, hr.df⟩, ?_⟩
  · intro l hl
    by_cases e' : l = σ.nx
    · subst e'; simp only [upd, if_true]
      refine ⟨by simp [G.at, upd], by simp, by simp, fun _ => ⟨rfl, by simp [G.at, upd]⟩, [], ⟨by simp, .inl ⟨by simp [handle, G.at, upd], rfl⟩⟩, by simp⟩
    · have hl' : l < σ.nx := by simp at hl; omega
      simp only [upd, e', if_false]
      exact (hr.hr.hp l hl').mono hg (Nat.le_succ _) hw hl' (by simp [G.at, upd, e']) (fun _ _ => rfl)
  · intro l hl
    simp at hl
    simp only [upd]; rw [if_neg (by omega)]; exact hr.hr.hd l (by omega)
  · intro l l' hl hl' hd hd' hv hv' he
    simp only at hl hl'
    by_cases e1 : l = σ.nx
    · subst e1; simp [G.at, upd] at hv
    · by_cases e2 : l' = σ.nx
      · subst e2; simp [G.at, upd] at hv'
      · exact hr.hr.inj l l' (by omega) (by omega) (by simpa [upd, e1] using hd) (by simpa [upd, e2] using hd') (by simpa [G.at, upd, e1] using hv) (by simpa [G.at, upd, e2] using hv') (by simpa [G.at, upd, e1, e2] using he)
  · have hx := hr.ext
    exact ⟨hx.os, hx.tape, hx.output, hx.size, hx.block, hx.gle.trans hx.nle hg, by have := hx.nle; simp; omega, hx.inew, fun b hb => hx.own b (hold b hb)⟩
  · exact .own _ _ _ _ _ _ rfl (by omega) (by simp [G.at, upd]) (fun _ => by simp [OwnV, handle, G.at, upd])

/-- An object's cells turn; its place stays. -/
theorem rel_turn (hr : Rel E B g σ w a) {l : Nat} (hl : l < σ.nx) (hv : g.vt l = false) (o o' : AO) (ho : σ.h l = o) (hod : o ≠ .dead) (hod' : o' ≠ .dead) {w' : World}
    (hos : w'.os = w.os) (htp : w'.tape = w.tape) (hout : w'.output = w.output) (hsz : w'.heap.size = w.heap.size) (hoth : ∀ b, b ≠ g.ρ l → w'.heap[b]? = w.heap[b]?)
    (hor : OR w' g σ.nx l o') : Rel E B g { σ with h := upd σ.h l o' } w' a := by
  have hown : Owned g σ.nx σ.h (g.ρ l) := ⟨l, hl, by rw [ho]; exact hod, hv, rfl⟩
  have hJ : ∀ b, g.J b → w'.heap[b]? = w.heap[b]? := fun b hb => hoth b (fun e => hr.hr.dis b hb (e ▸ hown))
  have hold : ∀ b, Owned g σ.nx (upd σ.h l o') b → Owned g σ.nx σ.h b := by
    rintro b ⟨k, hk, hd, hvk, hb⟩
    by_cases e : k = l
    · subst e; exact ⟨k, hk, by rw [ho]; exact hod, hvk, hb⟩
    · exact ⟨k, hk, by simpa [upd, e] using hd, hvk, hb⟩
  refine ⟨hr.size, tm_mono (σ := σ) hr (GLe.refl g _) (Nat.le_refl _) hJ, ⟨?_, ?_, ?_, fun b hb => by rw [hsz]; exact hr.hr.Jlt b hb, hr.hr.IJ, fun b hb h => hr.hr.dis b hb (hold b h), gl_mono hr.hr (fun _ h => h) (fun _ h => h) hJ⟩, ?_, hr.df⟩
  · intro k hk
    by_cases e : k = l
    · subst e; simp only [upd, if_true]; exact hor
    · simp only [upd, e, if_false]
      refine (hr.hr.hp k hk).mono (GLe.refl g _) (Nat.le_refl _) hJ hk rfl (fun hd hvk => hoth _ (fun e' => e ?_))
      exact hr.hr.inj k l hk hl hd (by rw [ho]; exact hod) hvk hv e'
  · intro k hk
    simp only [upd]
    rw [if_neg (by simp at hk; omega)]; exact hr.hr.hd k hk
  · intro k k' hk hk' hd hd' hvk hvk' he
    refine hr.hr.inj k k' hk hk' ?_ ?_ hvk hvk' he
    · by_cases e : k = l
      · subst e; rw [ho]; exact hod
      · simpa [upd, e] using hd
    · by_cases e : k' = l
      · subst e; rw [ho]; exact hod
      · simpa [upd, e] using hd'
  · have hx := hr.ext
    refine ⟨hos.trans hx.os, htp.trans hx.tape, hout.trans hx.output, by rw [hsz]; exact hx.size, fun b hb hn => ?_, hx.gle, hx.nle, hx.inew, fun b hb => hx.own b (hold b hb)⟩
    rw [hoth b ?_]
    · exact hx.block b hb hn
    · rintro rfl
      rcases hx.own _ hown with h | h
      · exact hn h
      · omega
end
end Go.Proofs.YtdcpnpcmgfmenaaDoor.Lg
