/-
  More operations: stores, elements, lengths, reckoning. Conditions: none.
-/
import Derived.Test.YtdcpnpcmgfmenaaDoorSe
set_option linter.unusedSimpArgs false
set_option linter.unusedVariables false
namespace Go.Proofs.YtdcpnpcmgfmenaaDoor.Lg
open Go Go.RowKit

/-! ### Lists written within -/
def splice {α : Type} (xs : List α) (i : Nat) (ys : List α) : List α := xs.take i ++ ys ++ xs.drop (i + ys.length)
theorem splice_length {α : Type} (xs ys : List α) (i : Nat) (h : i + ys.length ≤ xs.length) : (splice xs i ys).length = xs.length := by
  simp [splice]; omega
theorem splice_get {α : Type} (xs ys : List α) (i m : Nat) (h : i + ys.length ≤ xs.length) :
    (splice xs i ys)[m]? = if m < i then xs[m]? else if m < i + ys.length then ys[m - i]? else xs[m]? := by
  have h1 : (xs.take i).length = i := by simp; omega
  unfold splice
  split
  · rename_i hm
    rw [List.append_assoc, List.getElem?_append_left (by omega), List.getElem?_take_of_lt hm]
  · rename_i hm
    rw [List.append_assoc, List.getElem?_append_right (by omega), h1]
    split
    · rename_i hm2
      rw [List.getElem?_append_left (by omega)]
    · rename_i hm2
      rw [List.getElem?_append_right (by omega), List.getElem?_drop]
      congr 1; omega
theorem splice_append_left {α : Type} (r q ys : List α) (j : Nat) (h : j + ys.length ≤ r.length) : splice (r ++ q) j ys = splice r j ys ++ q := by
  unfold splice
  rw [List.take_append_of_le_length (by omega), List.drop_append_of_le_length (by omega)]; simp
theorem splice_append_right {α : Type} (r q ys : List α) (k : Nat) : splice (r ++ q) (r.length + k) ys = r ++ splice q k ys := by
  unfold splice
  rw [List.take_append, List.take_of_length_le (by omega), show r.length + k - r.length = k by omega, Nat.add_assoc, List.drop_append, List.drop_of_length_le (by omega), show r.length + (k + ys.length) - r.length = k + ys.length by omega]
  simp
theorem flat_set {α : Type} {n : Nat} : ∀ {es : List (List α)}, (∀ r ∈ es, r.length = n) → ∀ {i : Nat} {row : List α}, es[i]? = some row → ∀ {j : Nat} {ys : List α}, j + ys.length ≤ n →
    (es.set i (splice row j ys)).flatten = splice es.flatten (i * n + j) ys
  | [], _, i, row, h, _, _, _ => by simp at h
  | r :: es, hl, 0, row, h, j, ys, hj => by
    simp at h; subst h
    have := hl r (by simp)
    simp only [List.set_cons_zero, List.flatten_cons, Nat.zero_mul, Nat.zero_add]
    rw [splice_append_left _ _ _ _ (by omega)]
  | r :: es, hl, i + 1, row, h, j, ys, hj => by
    have h0 := hl r (by simp)
    simp only [List.set_cons_succ, List.flatten_cons]
    rw [flat_set (fun r hr => hl r (by simp [hr])) (by simpa using h) hj, show (i + 1) * n + j = r.length + (i * n + j) by rw [h0, Nat.add_mul]; omega, splice_append_right]

section
variable {E : Env} {B : Base} {Q : Exit → St → Prop} {σ : St} {o : Oper} {K : St → Prop}

def cellOk : AV → Bool
  | .any | .agg _ | .tup _ | .d (.agg _) => false
  | .d (.v x) => x.oneCell'
  | _ => true
theorem cellOk_ok {w : World} {g : G} {nx : Nat} {c : AV} {x : Value} (h : VR w g nx c x) (hc : cellOk c = true) : x.oneCell' = true := by
  cases h with
  | any x => cases hc
  | d c x h =>
    cases h with
    | v x => exact hc
    | agg _ _ _ _ => cases hc
    | nil s a n => rfl
    | sl _ _ _ _ _ _ _ _ _ _ _ => rfl
    | map _ _ _ _ _ _ _ _ _ => rfl
  | agg _ _ _ _ => cases hc
  | tup _ _ _ _ => cases hc
  | dp _ _ _ _ _ _ _ _ => rfl
  | p _ _ _ _ h0 _ _ _ => exact h0
  | pe _ _ _ _ _ _ h0 _ _ _ => exact h0
  | own _ _ _ _ _ _ h0 _ _ _ => exact h0
  | map _ _ h0 _ _ => exact h0
  | fn _ _ _ _ _ => rfl

/-- What a store makes of the objects. -/
def stored (h : Nat → AO) (v : AV) (ys : List AV) : Option (Nat → AO) :=
  match v with
  | .p l k off => match h l with
    | .cells cs => if k = 0 ∧ off + ys.length ≤ cs.length then some (upd h l (.cells (splice cs off ys))) else none
    | _ => none
  | .pe l k sz i j => match h l with
    | .arr k' e sz' es => match es[i]? with
      | some row => if k = k' ∧ sz = sz' ∧ j + ys.length ≤ sz then some (upd h l (.arr k' e sz' (es.set i (splice row j ys)))) else none
      | none => none
    | _ => none
  | _ => none

theorem rel_splice {R : AV → Value → Prop} {cs ys : List AV} {xs : List Value} {vs : List Value} {i : Nat} (hi : i + ys.length ≤ cs.length) (hx : cs.length ≤ xs.length) (hv : vs.length = ys.length)
    (h : ∀ (m : Nat) c x, cs[m]? = some c → xs[m]? = some x → R c x) (h' : ∀ (m : Nat) c x, ys[m]? = some c → vs[m]? = some x → R c x) :
    ∀ (m : Nat) c x, (splice cs i ys)[m]? = some c → (splice xs i vs)[m]? = some x → R c x := by
  intro m c x hc hxm
  rw [splice_get _ _ _ _ hi] at hc
  rw [splice_get _ _ _ _ (by omega), hv] at hxm
  split at hc
  · rename_i hm; rw [if_pos hm] at hxm; exact h m c x hc hxm
  · rename_i hm
    rw [if_neg hm] at hxm
    split at hc
    · rename_i hm2; rw [if_pos hm2] at hxm; exact h' _ c x hc hxm
    · rename_i hm2; rw [if_neg hm2] at hxm; exact h m c x hc hxm

theorem st_store {t : TypeId} {x y : Operand} (ho : o.op = .store t x y) {ys : List AV} (hy : cellsA (ev E σ y) = some ys) {h' : Nat → AO} (hs : stored σ.h (ev E σ x) ys = some h')
    (hsz : (E.P.info? t).map (·.size) = some ys.length) (hok : ys.all cellOk = true) (hd : dlt o.dst σ.n = true) (hK : K (St.put { σ with h := h' } o.dst .any)) : Step .all E B o K Q σ := by
  refine step_skip h' σ.nx (fun g w a hr => ?_) hd hK
  obtain ⟨hc1, hc2⟩ := cellsA_ok hy (ev_ok hr y)
  have hx := ev_ok hr x
  have h1 : ∀ v ∈ (a.eval y).cells.toList, v.oneCell' = true := by
    intro v hv
    obtain ⟨i, hi, rfl⟩ := List.mem_iff_getElem.1 hv
    have hi' : i < ys.length := by rw [← hc1]; simpa using hi
    refine cellOk_ok (hc2 i ys[i] _ (List.getElem?_eq_getElem hi') ?_) (List.all_eq_true.1 hok _ (List.getElem_mem _))
    rw [← Array.getElem?_toList]; exact List.getElem?_eq_getElem hi
  have hvl : (a.eval y).cells.toList.length = ys.length := by simpa using hc1
  have run : ∀ (b p : Nat) (cur : Array Value) (ty : TypeId), a.eval x = .pointer (some ⟨b, p, none⟩) → w.heap[b]? = some (.cells cur ty (0, 0)) → p + ys.length ≤ cur.size →
      (execOp a.eval o).run E.P w = .ok .skip (w.setRow b (splice cur.toList p (a.eval y).cells.toList).toArray) := by
    intro b p cur ty hxe hb hp
    simp only [execOp, ho]
    refine run_u ?_
    have := run_storeCells_at E.P b p ty (a.eval y).cells.toList 0 cur w hb (by rw [hvl]; simpa using hp) h1
    simp only [Nat.add_zero] at this
    have hne : ¬ (a.eval y).cells.size ≠ ys.length := by simp [hc1]
    simp only [Instr.storeAt, hxe, Instr.sureAddr, Sem.run_bind, Sem.run_pure, Result.andThen_ok, storeVar, run_sizeOf hsz, hne, if_false, this, splice]
  generalize hv : ev E σ x = v at hs hx
  cases v with
  | p l k off =>
    simp only [stored] at hs
    cases hol : σ.h l with
    | cells cs =>
      rw [hol] at hs
      simp only at hs
      split at hs
      · rename_i hk
        obtain ⟨rfl, hoff⟩ := hk
        obtain rfl : upd σ.h l (.cells (splice cs off ys)) = h' := by injection hs
        cases hx with
        | p _ _ _ _ _ h1' h2 h3 =>
          have hor := hr.hr.hp l h1'
          rw [hol] at hor
          obtain ⟨g1, g2, xs, ty, g3, g4, g5⟩ := hor
          refine ⟨_, g, run _ _ xs ty (h3 g1) g3 (by rw [g4]; exact hoff), ?_⟩
          refine rel_turn hr h1' g2 _ _ hol (by simp) (by simp) rfl rfl rfl (by simp) (fun b hb => setRow_other w _ b _ hb) ?_
          refine ⟨g1, g2, _, ty, setRow_heap w _ xs _ ty _ g3, by simp [splice_length _ _ _ (show off + (a.eval y).cells.toList.length ≤ xs.toList.length by rw [hvl]; simp [g4, hoff]), splice_length _ _ _ hoff, g4], ?_⟩
          have hJ : ∀ b, g.J b → (w.setRow (g.ρ l) (splice xs.toList off (a.eval y).cells.toList).toArray).heap[b]? = w.heap[b]? :=
            fun b hb => setRow_other w _ b _ (fun e => hr.hr.dis b hb ⟨l, h1', by rw [hol]; simp, g2, e.symm⟩)
          intro i c z hc hz
          refine rel_splice (R := VR _ g σ.nx) (xs := xs.toList) hoff (by simp [g4]) hvl ?_ ?_ i c z hc (by simpa using hz)
          · intro m c x hc hx
            exact (g5 m c x hc (by simpa using hx)).mono (GLe.refl g _) (Nat.le_refl _) hJ
          · intro m c x hc hx
            exact (hc2 m c x hc (by simpa using hx)).mono (GLe.refl g _) (Nat.le_refl _) hJ
      · cases hs
    | _ => rw [hol] at hs; cases hs
  | pe l k sz i j =>
    simp only [stored] at hs
    cases hol : σ.h l with
    | arr k' e sz' es =>
      rw [hol] at hs
      simp only at hs
      cases hrow : es[i]? with
      | none => rw [hrow] at hs; cases hs
      | some row =>
      rw [hrow] at hs
      simp only at hs
      split at hs
      · rename_i hk
        obtain ⟨rfl, rfl, hj⟩ := hk
        obtain rfl : upd σ.h l (.arr k e sz (es.set i (splice row j ys))) = h' := by injection hs
        cases hx with
        | pe _ _ _ _ _ _ _ h1' h2 h3 =>
          have hor := hr.hr.hp l h1'
          rw [hol] at hor
          obtain ⟨g1, g2, g3, g4, xs, g5, g6⟩ := hor
          have hvt : g.vt l = false := by
            cases hv : g.vt l with
            | false => rfl
            | true => obtain ⟨rfl, _⟩ := g4 hv; simp at hrow
          obtain ⟨a1, a2, a3, cur, a4, a5, a6⟩ := owns_block hvt g5
          have hi : i < es.length := (List.getElem?_eq_some_iff.1 hrow).1
          have hle : i * sz + sz ≤ es.length * sz := by
            have := Nat.mul_le_mul_right sz (show i + 1 ≤ es.length from hi)
            rwa [Nat.add_mul, Nat.one_mul] at this
          have hcap : es.length * sz ≤ cur.size := by rw [a5]; exact Nat.mul_le_mul_right sz a2
          have hfl := flat_length g3
          refine ⟨_, g, run _ _ cur e (h3 g1) a4 (by omega), ?_⟩
          refine rel_turn hr h1' hvt _ _ hol (by simp) (by simp) rfl rfl rfl (by simp) (fun b hb => setRow_other w _ b _ hb) ?_
          have hJ : ∀ b, g.J b → (w.setRow (g.ρ l) (splice cur.toList (i * sz + j) (a.eval y).cells.toList).toArray).heap[b]? = w.heap[b]? :=
            fun b hb => setRow_other w _ b _ (fun e => hr.hr.dis b hb ⟨l, h1', by rw [hol]; simp, hvt, e.symm⟩)
          have hsl : (splice cur.toList (i * sz + j) (a.eval y).cells.toList).length = cur.size := by rw [splice_length _ _ _ (by rw [hvl]; simp; omega)]; simp
          refine ⟨g1, by simpa using g2, ?_, (fun hv => by rw [hvt] at hv; cases hv), (splice cur.toList (i * sz + j) (a.eval y).cells.toList).take (es.length * sz), ?_, ?_⟩
          · intro r hr'
            rcases List.mem_or_eq_of_mem_set hr' with h | h
            · exact g3 r h
            · subst h
              rw [splice_length _ _ _ (by rw [g3 row (List.mem_of_getElem? hrow)]; exact hj)]
              exact g3 row (List.mem_of_getElem? hrow)
          · simp only [List.length_set]
            refine ⟨by rw [List.length_take, hsl]; omega, .inr ⟨g.ρ l, g.cap l, _, by simp [handle, hvt], Nat.zero_le _, setRow_heap w _ cur _ e _ a4, a2, a3, by simp [hsl, a5], by simp⟩⟩
          · intro m c z hc hz
            rw [flat_set g3 hrow hj] at hc
            have hm : m < es.length * sz := by
              have := (List.getElem?_eq_some_iff.1 hc).1
              rw [splice_length _ _ _ (by rw [hfl]; omega), hfl] at this
              exact this
            rw [List.getElem?_take_of_lt hm] at hz
            refine rel_splice (R := VR _ g σ.nx) (by rw [hfl]; omega) (by rw [hfl]; simpa using hcap) hvl ?_ ?_ m c z hc hz
            · intro m c x hc hx
              have hm : m < es.length * sz := by rw [← hfl]; exact (List.getElem?_eq_some_iff.1 hc).1
              refine (g6 m c x hc ?_).mono (GLe.refl g _) (Nat.le_refl _) hJ
              rw [← a6, List.getElem?_take_of_lt hm]; exact hx
            · intro m c x hc hx
              exact (hc2 m c x hc (by simpa using hx)).mono (GLe.refl g _) (Nat.le_refl _) hJ
      · cases hs
    | _ => rw [hol] at hs; cases hs
  | _ => cases hs

theorem st_nilCheck {q : Md} [Qt q] {x : Operand} (ho : o.op = .nilCheck x) (hv : (ev E σ x).live σ.h = true) (hd : dlt o.dst σ.n = true) (hK : K (σ.put o.dst (ev E σ x))) : Step q E B o K Q σ := by
  refine step_val _ (fun B g w a hr => ?_) hd hK
  have hx := ev_ok hr x
  obtain ⟨b, p, hx'⟩ := live_addr hr hv hx
  exact ⟨a.eval x, by simp only [execOp, ho, hx']; rfl, hx⟩

end
end Go.Proofs.YtdcpnpcmgfmenaaDoor.Lg
