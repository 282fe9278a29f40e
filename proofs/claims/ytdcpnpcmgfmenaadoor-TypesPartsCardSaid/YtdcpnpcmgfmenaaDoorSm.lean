/-
  Regions that draw, whose head makes nothing: the rule and its steps. Conditions: none.
-/
import Derived.Test.YtdcpnpcmgfmenaaDoorSl
set_option linter.unusedSimpArgs false
set_option linter.unusedVariables false
namespace Go.Proofs.YtdcpnpcmgfmenaaDoor.Lg
open Go Go.RowKit

/-- What an operation may look at, where the head makes nothing. -/
def sight0 (ops : Array Oper) (wr : List Nat) (σ : St) (td : Nat → AV) (o : Oper) : St :=
  { t := fun d => bif has wr d then (bif has (waitDst ops o) d then td d else .any) else σ.t d, n := σ.n, h := σ.h, nx := σ.nx }

def HOps0 (E : Env) (B : Base) (Q : Exit → St → Prop) (ops : Array Oper) (wr : List Nat) (σ : St) (K : (Nat → AV) → Prop) : List Oper → (Nat → AV) → Prop
  | [], td => K td
  | o :: l, td =>
    (runs ops o (sight0 ops wr σ td o) false ∧ dlt o.dst σ.n = true ∧ HOps0 E B Q ops wr σ K l (pput td o.dst un)) ∨
    (runs ops o (sight0 ops wr σ td o) true ∧ ∃ v, QStep E o (sight0 ops wr σ td o) v ∧ dlt o.dst σ.n = true ∧ HOps0 E B Q ops wr σ K l (pput td o.dst v))

section
variable {E : Env} {B : Base} {Q : Exit → St → Prop} {σ : St} {ops : Array Oper} {wr : List Nat} {K : (Nat → AV) → Prop} {l : List Oper} {o : Oper} {td : Nat → AV}

theorem hops_of0 {K' : (Nat → AV) → (Nat → AO) → Nat → Prop} (hz : cut σ.nx σ.h = σ.h) (hK : ∀ td, K td → K' td σ.h 0) :
    ∀ (l : List Oper) (lv : List Nat) (td : Nat → AV), (∀ j, lv.getD j 0 = 0) → HOps0 E B Q ops wr σ K l td → HOps none E B Q ops wr σ K' l lv td σ.h 0
  | [], _, td, _, h => hK td h
  | o :: l, lv, td, h0, h => by
    have hl : lev lv o = 0 := Nat.le_zero.1 (lev_le _ _ _ _ (Nat.le_refl _) fun j _ => Nat.le_of_eq (h0 j))
    have hs : sight ops wr σ lv td σ.h o = sight0 ops wr σ td o := by
      unfold sight sight0
      rw [hl, Nat.add_zero, hz]
    have h1 : ∀ j, (lv ++ [lev lv o]).getD j 0 = 0 := fun j => by
      rw [hl]
      rcases Nat.lt_trichotomy j lv.length with hj | hj | hj
      · have := h0 j; simp [List.getD, List.getElem?_append_left hj] at this ⊢; exact this
      · subst hj; simp [List.getD]
      · rw [List.getD, List.getElem?_eq_none (by simp; omega)]; rfl
    rcases h with ⟨hr, hd, h⟩ | ⟨hr, v, hq, hd, h⟩
    · exact .inl ⟨rfl, by rw [hs]; exact hr, hd, hops_of0 hz hK l _ _ h1 h⟩
    · exact .inr (.inl ⟨rfl, by rw [hs]; exact hr, v, by rw [hs]; exact hq, hd, hops_of0 hz hK l _ _ h1 h⟩)

theorem swp_regionQ {id : Nat} {l : List Oper} (n : Nat) {wr : List Nat} {hd tl : List Oper} (hchk : regD l.toArray n = true) (hwr : headDst l.toArray n = wr) (hhd : l.take n = hd) (htl : l.drop n = tl)
    (h : HOps0 E B Q l.toArray wr σ (fun td => SOps E B l.toArray tl Q { σ with t := td }) hd σ.t) : SWP E B (.region id l.toArray true) Q σ := by
  intro g w a hr
  have hz : cut σ.nx σ.h = σ.h := by
    funext x
    rw [cut_if]
    split
    · rfl
    · exact (hr.hr.hd x (by omega)).symm
  exact swp_regionD n hchk hwr hhd htl (hops_of0 hz (fun td hk => hk) _ _ _ (fun j => by simp) h) g w a hr

theorem h0_go (hg : o.guard = none) (h : Step .quiet E B o (fun σ' => ∃ v, σ' = St.put (sight0 ops wr σ td o) o.dst v ∧ HOps0 E B Q ops wr σ K l (pput td o.dst v)) Q (sight0 ops wr σ td o)) : HOps0 E B Q ops wr σ K (o :: l) td := by
  obtain ⟨v, hq, hd, v', he, hK⟩ := h
  refine .inr ⟨by unfold runs; rw [hg], v, hq, hd, ?_⟩
  have : pput td o.dst v = pput td o.dst v' := by
    cases hod : o.dst with
    | none => rfl
    | some d =>
      rw [hod] at he
      simp only [St.put, St.mk.injEq, and_true, true_and] at he
      have := congrFun he d
      rw [upd_same, upd_same] at this
      rw [this]
  rw [this]; exact hK
theorem h0_yes {j d : Nat} {want : Bool} (hg : o.guard = some (j, want)) (hd : (ops[j]?).bind (·.dst) = some d) (hn : decide (d < σ.n) = true) (ht : (sight0 ops wr σ td o).t d = .d (.v (.bool want)))
    (h : Step .quiet E B o (fun σ' => ∃ v, σ' = St.put (sight0 ops wr σ td o) o.dst v ∧ HOps0 E B Q ops wr σ K l (pput td o.dst v)) Q (sight0 ops wr σ td o)) : HOps0 E B Q ops wr σ K (o :: l) td := by
  obtain ⟨v, hq, hd', v', he, hK⟩ := h
  refine .inr ⟨by unfold runs; rw [hg]; exact ⟨d, hd, by simpa [sight0] using hn, .inl ⟨want, ht, by simp⟩⟩, v, hq, hd', ?_⟩
  have : pput td o.dst v = pput td o.dst v' := by
    cases hod : o.dst with
    | none => rfl
    | some d =>
      rw [hod] at he
      simp only [St.put, St.mk.injEq, and_true, true_and] at he
      have := congrFun he d
      rw [upd_same, upd_same] at this
      rw [this]
  rw [this]; exact hK
theorem h0_no {j d : Nat} {want : Bool} (hg : o.guard = some (j, want)) (hd : (ops[j]?).bind (·.dst) = some d) (hn : decide (d < σ.n) = true) (ht : (sight0 ops wr σ td o).t d = .d (.v (.bool (!want))))
    (hl : dlt o.dst σ.n = true) (h : HOps0 E B Q ops wr σ K l (pput td o.dst un)) : HOps0 E B Q ops wr σ K (o :: l) td :=
  .inl ⟨by unfold runs; rw [hg]; exact ⟨d, hd, by simpa [sight0] using hn, .inl ⟨!want, ht, by cases want <;> rfl⟩⟩, hl, h⟩
theorem h0_un {j d : Nat} {want : Bool} (hg : o.guard = some (j, want)) (hd : (ops[j]?).bind (·.dst) = some d) (hn : decide (d < σ.n) = true) (ht : (sight0 ops wr σ td o).t d = un)
    (hl : dlt o.dst σ.n = true) (h : HOps0 E B Q ops wr σ K l (pput td o.dst un)) : HOps0 E B Q ops wr σ K (o :: l) td :=
  .inl ⟨by unfold runs; rw [hg]; exact ⟨d, hd, by simpa [sight0] using hn, .inr ⟨ht, rfl⟩⟩, hl, h⟩
theorem h0_nil (h : K td) : HOps0 E B Q ops wr σ K [] td := h

/-- The same, where the head makes objects: the level x is told. -/
theorem hd_go {dS : Option Nat} {K : (Nat → AV) → (Nat → AO) → Nat → Prop} {lv : List Nat} {hc : Nat → AO} {m : Nat} (x : Nat) (hx : lev lv o = x) (hns : notS dS o.dst = true) (hg : o.guard = none)
    (h : Step .quiet E B o (fun σ' => ∃ v, σ' = St.put (sight ops wr σ lv td hc o) o.dst v ∧ HOps dS E B Q ops wr σ K l (lv ++ [x]) (pput td o.dst v) hc m) Q (sight ops wr σ lv td hc o)) : HOps dS E B Q ops wr σ K (o :: l) lv td hc m := by
  subst hx
  obtain ⟨v, hq, hd, v', he, hK⟩ := h
  refine .inr (.inl ⟨hns, by unfold runs; rw [hg], v, hq, hd, ?_⟩)
  have : pput td o.dst v = pput td o.dst v' := by
    cases hod : o.dst with
    | none => rfl
    | some d =>
      rw [hod] at he
      simp only [St.put, St.mk.injEq, and_true, true_and] at he
      have := congrFun he d
      rw [upd_same, upd_same] at this
      rw [this]
  rw [this]; exact hK
theorem hd_new {dS : Option Nat} {K : (Nat → AV) → (Nat → AO) → Nat → Prop} {lv : List Nat} {hc : Nat → AO} {m : Nat} (hx : lev lv o = m) (hns : notS dS o.dst = true) (hg : o.guard = none)
    (h : Step .new E B o (fun σ' => ∃ v ob, σ' = St.put { sight ops wr σ lv td hc o with h := upd (sight ops wr σ lv td hc o).h (sight ops wr σ lv td hc o).nx ob, nx := (sight ops wr σ lv td hc o).nx + 1 } o.dst v ∧
      HOps dS E B Q ops wr σ K l (lv ++ [m + 1]) (pput td o.dst v) (upd hc (σ.nx + m) ob) (m + 1)) Q (sight ops wr σ lv td hc o)) : HOps dS E B Q ops wr σ K (o :: l) lv td hc m := by
  obtain ⟨v, ob, ha, hne, hd, v', ob', he, hK⟩ := h
  have hob : ob = ob' := by
    have := congrArg St.h he
    cases hod : o.dst with
    | none =>
      rw [hod] at this
      have := congrFun this (sight ops wr σ lv td hc o).nx
      simpa [St.put, upd] using this
    | some d =>
      rw [hod] at this
      have := congrFun this (sight ops wr σ lv td hc o).nx
      simpa [St.put, upd] using this
  subst hob
  refine .inr (.inr (.inl ⟨hns, by unfold runs; rw [hg], hx, v, ob, ha, hne, hd, ?_⟩))
  have : pput td o.dst v = pput td o.dst v' := by
    cases hod : o.dst with
    | none => rfl
    | some d =>
      rw [hod] at he
      simp only [St.put, St.mk.injEq, and_true, true_and] at he
      have := congrFun he d
      rw [upd_same, upd_same] at this
      rw [this]
  rw [this]; exact hK
theorem hd_nil {dS : Option Nat} {K : (Nat → AV) → (Nat → AO) → Nat → Prop} {lv : List Nat} {hc : Nat → AO} {m : Nat} (h : K td hc m) : HOps dS E B Q ops wr σ K [] lv td hc m := h
theorem hd_side {dS : Nat} {K : (Nat → AV) → (Nat → AO) → Nat → Prop} {lv : List Nat} {hc : Nat → AO} {m : Nat} (x : Nat) (hx : lev lv o = x) (hg : o.guard = none) {t : TypeId} {z : Value} (hop : o.op = .alloc t) (hz : (E.P.info? t).bind (·.zero) = some z) (hdst : o.dst = some dS) (hd : dlt o.dst σ.n = true)
    (h : HOps (some dS) E B Q ops wr σ K l (lv ++ [x]) (pput td o.dst .any) hc m) : HOps (some dS) E B Q ops wr σ K (o :: l) lv td hc m := by
  subst hx
  exact .inr (.inr (.inr ⟨⟨hg, t, z, dS, hop, hz, hdst, rfl⟩, hd, h⟩))
end
end Go.Proofs.YtdcpnpcmgfmenaaDoor.Lg
