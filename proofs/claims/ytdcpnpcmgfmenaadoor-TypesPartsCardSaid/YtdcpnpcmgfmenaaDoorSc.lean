/-
  Single operations over abstract states. Conditions: none.
-/
import Derived.Test.YtdcpnpcmgfmenaaDoorSb
import Derived.Laws.StructEq
import Derived.Laws.Cells
import Derived.WalkLawsBesides
set_option linter.unusedSimpArgs false
set_option linter.unusedVariables false
namespace Go.Proofs.YtdcpnpcmgfmenaaDoor.Lg
open Go Go.RowKit

section
variable {E : Env} {B : Base} {Q : Exit → St → Prop} {σ : St} {ops : Array Oper} {l : List Oper}

theorem sops_go {o : Oper} (hg : o.guard = none) (h : Step .all E B o (SOps E B ops l Q) Q σ) : SOps E B ops (o :: l) Q σ :=
  sops_cons true (by unfold runs; rw [hg]) (fun _ => h) (by simp)
theorem sops_yes {o : Oper} {j d : Nat} {want : Bool} (hg : o.guard = some (j, want)) (hd : (ops[j]?).bind (·.dst) = some d) (hn : decide (d < σ.n) = true) (ht : σ.t d = .d (.v (.bool want)))
    (h : Step .all E B o (SOps E B ops l Q) Q σ) : SOps E B ops (o :: l) Q σ :=
  sops_cons true (by unfold runs; rw [hg]; exact ⟨d, hd, by simpa using hn, .inl ⟨want, ht, by simp⟩⟩) (fun _ => h) (by simp)
theorem sops_no {o : Oper} {j d : Nat} {want : Bool} (hg : o.guard = some (j, want)) (hd : (ops[j]?).bind (·.dst) = some d) (hn : decide (d < σ.n) = true) (ht : σ.t d = .d (.v (.bool (!want))))
    (hl : dlt o.dst σ.n = true) (h : SOps E B ops l Q (σ.put o.dst un)) : SOps E B ops (o :: l) Q σ :=
  sops_cons false (by unfold runs; rw [hg]; exact ⟨d, hd, by simpa using hn, .inl ⟨!want, ht, by cases want <;> rfl⟩⟩) (by simp) (fun _ => ⟨hl, h⟩)
theorem sops_un {o : Oper} {j d : Nat} {want : Bool} (hg : o.guard = some (j, want)) (hd : (ops[j]?).bind (·.dst) = some d) (hn : decide (d < σ.n) = true) (ht : σ.t d = un)
    (hl : dlt o.dst σ.n = true) (h : SOps E B ops l Q (σ.put o.dst un)) : SOps E B ops (o :: l) Q σ :=
  sops_cons false (by unfold runs; rw [hg]; exact ⟨d, hd, by simpa using hn, .inr ⟨ht, rfl⟩⟩) (by simp) (fun _ => ⟨hl, h⟩)

variable {o : Oper} {K : St → Prop}

theorem st_move {q : Md} [Qt q] {v : AV} {x : Operand} (ho : o.op = .move x) (hd : dlt o.dst σ.n = true) (hv : ev E σ x = v) (hK : K (σ.put o.dst v)) : Step q E B o K Q σ := by
  subst hv
  exact step_val (ev E σ x) (fun B g w a hr => ⟨_, by simp only [execOp, ho]; rfl, ev_ok hr x⟩) hd hK
theorem st_assign {q : Md} [Qt q] {v : AV} {x : Operand} (ho : o.op = .assign x) (hd : dlt o.dst σ.n = true) (hv : ev E σ x = v) (hK : K (σ.put o.dst v)) : Step q E B o K Q σ := by
  subst hv
  exact step_val (ev E σ x) (fun B g w a hr => ⟨_, by simp only [execOp, ho]; rfl, ev_ok hr x⟩) hd hK
theorem st_pick {q : Md} [Qt q] {v : AV} {c x y : Operand} (ho : o.op = .pick c x y) {t : Bool} (hc : ev E σ c = .d (.v (.bool t))) (hd : dlt o.dst σ.n = true)
    (hv : (bif t then ev E σ x else ev E σ y) = v) (hK : K (σ.put o.dst v)) : Step q E B o K Q σ := by
  subst hv
  exact step_val _ (fun B g w a hr => by
    have he := ev_ok hr c
    rw [hc] at he
    have hb := vr_bool he
    refine ⟨if t = true then a.eval x else a.eval y, by simp only [execOp, ho, hb, asBool, Sem.run_bind, Sem.run_pure, Result.andThen_ok], ?_⟩
    cases t
    · exact ev_ok hr y
    · exact ev_ok hr x) hd hK

/-- The two bounds of data. -/
theorem vr_data {w : World} {g : G} {nx : Nat} {c : D} {x : Value} (h : VR w g nx (.d c) x) : DR w g.I g.J c x := by cases h with | d _ _ h => exact h

/-- A value's cells. -/
def cellsA : AV → Option (List AV)
  | .any => none
  | .d (.agg ds) => some (ds.map .d)
  | .d (.v (.agg _)) => none
  | .d (.v (.tuple _)) => none
  | .d x => some [.d x]
  | .agg cs => some cs
  | .tup _ => none
  | v => some [v]

theorem cellsA_ok {w : World} {g : G} {nx : Nat} {v : AV} {x : Value} {cs : List AV} (hc : cellsA v = some cs) (h : VR w g nx v x) :
    x.cells.size = cs.length ∧ ∀ (i : Nat) c y, cs[i]? = some c → x.cells[i]? = some y → VR w g nx c y := by
  have one : ∀ x : Value, x.oneCell' = true → x.cells = #[x] := fun x h => by cases x <;> first | rfl | cases h
  have single : ∀ (v : AV) (x : Value), VR w g nx v x → x.cells = #[x] → x.cells.size = [v].length ∧ ∀ (i : Nat) c y, [v][i]? = some c → x.cells[i]? = some y → VR w g nx c y := by
    intro v x h hx
    rw [hx]
    refine ⟨rfl, fun i c y h1 h2 => ?_⟩
    cases i with
    | zero => simp at h1 h2; subst h1; subst h2; exact h
    | succ i => simp at h1
  cases h with
  | any x => cases hc
  | d c x h =>
    cases h with
    | v x => cases x <;> simp [cellsA] at hc <;> subst hc <;> exact single _ _ (.d _ _ (.v _)) rfl
    | agg ds xs h1 h2 =>
      simp [cellsA] at hc; subst hc
      refine ⟨by simp [Value.cells, h1], fun i c y hi hy => ?_⟩
      simp only [List.getElem?_map, Option.map_eq_some_iff] at hi
      obtain ⟨z, hz, rfl⟩ := hi
      exact .d _ _ (h2 i z y hz hy)
    | nil s a n => simp [cellsA] at hc; subst hc; exact single _ _ (.d _ _ (.nil s a n)) rfl
    | sl s es b off n f h1 h2 h3 h4 h5 => simp [cellsA] at hc; subst hc; exact single _ _ (.d _ _ (.sl s es b off n f h1 h2 h3 h4 h5)) rfl
    | map es b ms clock h1 h2 h3 h4 h5 => simp [cellsA] at hc; subst hc; exact single _ _ (.d _ _ (.map es b ms clock h1 h2 h3 h4 h5)) rfl
  | agg cs' xs h1 h2 => simp [cellsA] at hc; subst hc; exact ⟨h1, h2⟩
  | tup cs' xs h1 h2 => cases hc
  | dp cs' off b o f h1 h2 h3 => simp [cellsA] at hc; subst hc; exact single _ _ (.dp cs' off b o f h1 h2 h3) rfl
  | p l k off x h0 h1 h2 h3 => simp [cellsA] at hc; subst hc; exact single _ _ (.p l k off x h0 h1 h2 h3) (one x h0)
  | pe l k sz i j x h0 h1 h2 h3 => simp [cellsA] at hc; subst hc; exact single _ _ (.pe l k sz i j x h0 h1 h2 h3) (one x h0)
  | own l k sz off n x h0 h1 h2 h3 => simp [cellsA] at hc; subst hc; exact single _ _ (.own l k sz off n x h0 h1 h2 h3) (one x h0)
  | map l x h0 h1 h2 => simp [cellsA] at hc; subst hc; exact single _ _ (.map l x h0 h1 h2) (one x h0)
  | fn f caps xs h1 h2 => simp [cellsA] at hc; subst hc; exact single _ _ (.fn f caps xs h1 h2) rfl
end
end Go.Proofs.YtdcpnpcmgfmenaaDoor.Lg
