/-
  Regions that draw: what runs in any order. Conditions: none.
-/
import Derived.Test.YtdcpnpcmgfmenaaDoorSj
import Derived.StillTail
set_option linter.unusedSimpArgs false
set_option linter.unusedVariables false
namespace Go.Proofs.YtdcpnpcmgfmenaaDoor.Lg
open Go Go.RowKit

def has : List Nat → Nat → Bool
  | [], _ => false
  | x :: r, d => bif Nat.beq x d then true else has r d
theorem has_iff : ∀ {l : List Nat} {d : Nat}, has l d = true ↔ d ∈ l
  | [], d => by simp [has]
  | x :: r, d => by
    simp only [has, List.mem_cons]
    by_cases h : x = d
    · subst h; simp
    · have h1 : Nat.beq x d = false := by
        cases hb : Nat.beq x d with
        | false => rfl
        | true => exact absurd (Nat.eq_of_beq_eq_true hb) h
      rw [h1, cond_false, has_iff (l := r)]
      constructor
      · exact .inr
      · rintro (h2 | h2)
        · exact absurd h2.symm h
        · exact h2

/-- What an operation waits for. -/
def waits (o : Oper) : List Nat := (o.after.toList.filter (Region.binds .any)).map (·.on)
def waitDst (ops : Array Oper) (o : Oper) : List Nat := (waits o).filterMap fun j => (ops[j]?).bind (·.dst)
def lev (lv : List Nat) (o : Oper) : Nat := (waits o).foldl (fun m j => max m (lv.getD j 0)) 0
def cut (n : Nat) (h : Nat → AO) : Nat → AO := fun l => bif Nat.blt l n then h l else .dead

/-- What an operation may look at, whatever ran ahead of it. -/
def sight (ops : Array Oper) (wr : List Nat) (σ : St) (lv : List Nat) (td : Nat → AV) (hc : Nat → AO) (o : Oper) : St :=
  { t := fun d => bif has wr d then (bif has (waitDst ops o) d then td d else .any) else σ.t d, n := σ.n, h := cut (σ.nx + lev lv o) hc, nx := σ.nx + lev lv o }

def pput (td : Nat → AV) (dst : Option Nat) (v : AV) : Nat → AV :=
  match dst with
  | some d => upd td d v
  | none => td

/-- An object that nobody in the head looks at: it is told behind the head. -/
def SideOp (E : Env) (dS : Option Nat) (o : Oper) : Prop := o.guard = none ∧ ∃ t z d, o.op = .alloc t ∧ (E.P.info? t).bind (·.zero) = some z ∧ o.dst = some d ∧ dS = some d
def notS : Option Nat → Option Nat → Bool
  | some d, some d' => !(Nat.beq d d')
  | _, _ => true
theorem notS_side {E : Env} {dS : Option Nat} {o : Oper} (h : notS dS o.dst = true) (hs : SideOp E dS o) : False := by
  obtain ⟨_, _, _, d, _, _, h1, h2⟩ := hs
  rw [h1, h2] at h
  simp [notS] at h

def HOps (dS : Option Nat) (E : Env) (B : Base) (Q : Exit → St → Prop) (ops : Array Oper) (wr : List Nat) (σ : St) (K : (Nat → AV) → (Nat → AO) → Nat → Prop) : List Oper → List Nat → (Nat → AV) → (Nat → AO) → Nat → Prop
  | [], _, td, hc, m => K td hc m
  | o :: l, lv, td, hc, m =>
    (notS dS o.dst = true ∧ runs ops o (sight ops wr σ lv td hc o) false ∧ dlt o.dst σ.n = true ∧ HOps dS E B Q ops wr σ K l (lv ++ [lev lv o]) (pput td o.dst un) hc m) ∨
    (notS dS o.dst = true ∧ runs ops o (sight ops wr σ lv td hc o) true ∧ ∃ v, QStep E o (sight ops wr σ lv td hc o) v ∧ dlt o.dst σ.n = true ∧ HOps dS E B Q ops wr σ K l (lv ++ [lev lv o]) (pput td o.dst v) hc m) ∨
    (notS dS o.dst = true ∧ runs ops o (sight ops wr σ lv td hc o) true ∧ lev lv o = m ∧ ∃ v ob, AStep E o (sight ops wr σ lv td hc o) v ob ∧ ob ≠ .dead ∧ dlt o.dst σ.n = true ∧
      HOps dS E B Q ops wr σ K l (lv ++ [m + 1]) (pput td o.dst v) (upd hc (σ.nx + m) ob) (m + 1)) ∨
    (SideOp E dS o ∧ dlt o.dst σ.n = true ∧ HOps dS E B Q ops wr σ K l (lv ++ [lev lv o]) (pput td o.dst .any) hc m)

/-- What is known of an operation of the head, when all is known. -/
structure Fact (dS : Option Nat) (E : Env) (ops : Array Oper) (wr : List Nat) (σ : St) (tdF : Nat → AV) (hcF : Nat → AO) (lvF : List Nat) (mF : Nat) (i : Nat) (o : Oper) : Prop where
  d : dlt o.dst σ.n = true
  lm : lvF.getD i 0 ≤ mF
  way : (notS dS o.dst = true ∧ runs ops o (sight ops wr σ lvF tdF hcF o) false ∧ lvF.getD i 0 = lev lvF o ∧ ∀ d, o.dst = some d → tdF d = un) ∨
    (notS dS o.dst = true ∧ runs ops o (sight ops wr σ lvF tdF hcF o) true ∧ lvF.getD i 0 = lev lvF o ∧ ∃ v, QStep E o (sight ops wr σ lvF tdF hcF o) v ∧ ∀ d, o.dst = some d → tdF d = v) ∨
    (notS dS o.dst = true ∧ runs ops o (sight ops wr σ lvF tdF hcF o) true ∧ lvF.getD i 0 = lev lvF o + 1 ∧ (∀ j, j < i → lvF.getD j 0 ≤ lev lvF o) ∧
      ∃ v, AStep E o (sight ops wr σ lvF tdF hcF o) v (hcF (σ.nx + lev lvF o)) ∧ hcF (σ.nx + lev lvF o) ≠ .dead ∧ ∀ d, o.dst = some d → tdF d = v) ∨
    (SideOp E dS o ∧ lvF.getD i 0 = lev lvF o ∧ ∀ d, o.dst = some d → tdF d = .any)

theorem lev_foldl (f g : Nat → Nat) : ∀ (ws : List Nat) (m : Nat), (∀ j ∈ ws, f j = g j) → ws.foldl (fun m j => max m (f j)) m = ws.foldl (fun m j => max m (g j)) m
  | [], _, _ => rfl
  | w :: ws, m, h => by simp only [List.foldl_cons]; rw [h w (by simp)]; exact lev_foldl f g ws _ (fun j hj => h j (by simp [hj]))
theorem lev_le (f : Nat → Nat) (n : Nat) : ∀ (ws : List Nat) (m : Nat), m ≤ n → (∀ j ∈ ws, f j ≤ n) → ws.foldl (fun m j => max m (f j)) m ≤ n
  | [], _, h, _ => h
  | w :: ws, m, h, hw => by simp only [List.foldl_cons]; exact lev_le f n ws _ (by have := hw w (by simp); omega) (fun j hj => hw j (by simp [hj]))

section
variable {dS : Option Nat} {E : Env} {B : Base} {Q : Exit → St → Prop} {σ : St} {ops : Array Oper} {wr : List Nat}

theorem hops_facts {K : (Nat → AV) → (Nat → AO) → Nat → Prop} (hw : ∀ (i : Nat) (o : Oper), ops[i]? = some o → ∀ j ∈ waits o, j < i)
    (hdis : ∀ (i j : Nat) (o o' : Oper) (d : Nat), i < j → ops[i]? = some o → ops[j]? = some o' → o.dst = some d → o'.dst = some d → False) :
    ∀ (l : List Oper) (i : Nat) (lv : List Nat) (td : Nat → AV) (hc : Nat → AO) (m : Nat), (∀ k, k < l.length → l[k]? = ops[i + k]?) → lv.length = i → (∀ j, lv.getD j 0 ≤ m) → (∀ x, σ.nx + m ≤ x → hc x = .dead) →
    HOps dS E B Q ops wr σ K l lv td hc m → ∃ tdF hcF mF lvF, K tdF hcF mF ∧ m ≤ mF ∧ (∀ x, σ.nx + mF ≤ x → hcF x = .dead) ∧ (∀ α, m ≤ α → α < mF → ∃ k o, k < l.length ∧ ops[i + k]? = some o ∧ lvF.getD (i + k) 0 = lev lvF o + 1 ∧ lev lvF o = α) ∧ (∀ j, j < i → lvF.getD j 0 = lv.getD j 0) ∧
      (∀ d, (∀ k o, k < l.length → ops[i + k]? = some o → o.dst ≠ some d) → tdF d = td d) ∧ (∀ x, x < σ.nx + m → hcF x = hc x) ∧
      (∀ k o, k < l.length → ops[i + k]? = some o → Fact dS E ops wr σ tdF hcF lvF mF (i + k) o)
  | [], i, lv, td, hc, m, _, _, _, hz, h => ⟨td, hc, m, lv, h, Nat.le_refl _, hz, fun α _ _ => by omega, fun _ _ => rfl, fun _ _ => rfl, fun _ _ => rfl, fun k o hk => by simp at hk⟩
  | o :: l, i, lv, td, hc, m, hl, hlv, hm, hz, h => by
    have h0 : ops[i]? = some o := by simpa using (hl 0 (by simp)).symm
    have hl' : ∀ k, k < l.length → l[k]? = ops[i + 1 + k]? := fun k hk => by
      have := hl (k + 1) (by simp; omega)
      rw [show i + 1 + k = i + (k + 1) by omega]; simpa using this
    have hlev : lev lv o ≤ m := lev_le _ _ _ _ (Nat.zero_le _) fun j _ => hm j
    -- what is told of the place and the levels stands to the end
    have keep : ∀ (x : Nat) (tdF : Nat → AV) (hcF : Nat → AO) (mF : Nat) (lvF : List Nat) (td' : Nat → AV) (hc' : Nat → AO), 
        (∀ j, j < i + 1 → lvF.getD j 0 = (lv ++ [x]).getD j 0) → (∀ d, (∀ k o, k < l.length → ops[i + 1 + k]? = some o → o.dst ≠ some d) → tdF d = td' d) → (∀ d, o.dst ≠ some d → td' d = td d) →
        (∀ y, y < σ.nx + m → hcF y = hc' y) → (∀ y, y < σ.nx + m → hc' y = hc y) →
        lev lvF o = lev lv o ∧ sight ops wr σ lvF tdF hcF o = sight ops wr σ lv td hc o ∧ lvF.getD i 0 = x ∧ (∀ j, j < i → lvF.getD j 0 = lv.getD j 0) ∧ (∀ d, o.dst = some d → tdF d = td' d) ∧
          (∀ d, (∀ k o', k < (o :: l).length → ops[i + k]? = some o' → o'.dst ≠ some d) → tdF d = td d) := by
      intro x tdF hcF mF lvF td' hc' h1 h2 h3 h4 h5
      have hold : ∀ j, j < i → lvF.getD j 0 = lv.getD j 0 := fun j hj => by
        rw [h1 j (by omega)]
        simp [List.getD, List.getElem?_append_left (show j < lv.length by omega)]
      have hle : lev lvF o = lev lv o := lev_foldl _ _ _ _ fun j hj => hold j (hw i o h0 j hj)
      have hown : ∀ d, o.dst = some d → tdF d = td' d := fun d hd => h2 d fun k o' hk ho' he => hdis i (i + 1 + k) o o' d (by omega) h0 ho' hd he
      have hout : ∀ d, (∀ k o', k < (o :: l).length → ops[i + k]? = some o' → o'.dst ≠ some d) → tdF d = td d := fun d hd => by
        rw [h2 d (fun k o' hk ho' => hd (k + 1) o' (by simp; omega) (by rw [show i + (k + 1) = i + 1 + k by omega]; exact ho')), h3 d (hd 0 o (by simp) (by simpa using h0))]
      refine ⟨hle, ?_, ?_, hold, hown, hout⟩
      · unfold sight
        rw [hle]
        congr 1
        · funext d
          cases ha : has wr d with
          | false => rfl
          | true =>
            cases hb : has (waitDst ops o) d with
            | false => rfl
            | true =>
              simp only [cond_true]
              obtain ⟨j, hj, hd⟩ := List.mem_filterMap.1 (has_iff.1 hb)
              obtain ⟨oj, hoj, hd⟩ := Option.bind_eq_some_iff.1 hd
              have hji := hw i o h0 j hj
              exact hout d fun k o' hk ho' he => hdis j (i + k) oj o' d (by omega) hoj ho' hd he
        · funext y
          unfold cut
          cases hb : Nat.blt y (σ.nx + lev lv o) with
          | false => rfl
          | true =>
            have : y < σ.nx + lev lv o := Nat.le_of_ble_eq_true hb
            simp only [cond_true]
            rw [h4 y (by omega), h5 y (by omega)]
      · rw [h1 i (by omega)]; simp [List.getD, ← hlv]
    have split : ∀ (tdF : Nat → AV) (hcF : Nat → AO) (mF : Nat) (lvF : List Nat), Fact dS E ops wr σ tdF hcF lvF mF i o → (∀ k o, k < l.length → ops[i + 1 + k]? = some o → Fact dS E ops wr σ tdF hcF lvF mF (i + 1 + k) o) →
        ∀ k o', k < (o :: l).length → ops[i + k]? = some o' → Fact dS E ops wr σ tdF hcF lvF mF (i + k) o' := by
      intro tdF hcF mF lvF f1 f2 k o' hk ho'
      cases k with
      | zero =>
        have : o' = o := by rw [Nat.add_zero, h0] at ho'; exact (Option.some.inj ho').symm
        subst this; exact f1
      | succ k =>
        have := f2 k o' (by simp at hk; omega) (by rw [show i + 1 + k = i + (k + 1) by omega]; exact ho')
        rw [show i + (k + 1) = i + 1 + k by omega]; exact this
    have later : ∀ (lvF : List Nat) (mF : Nat), (∀ α, m ≤ α → α < mF → ∃ k o, k < l.length ∧ ops[i + 1 + k]? = some o ∧ lvF.getD (i + 1 + k) 0 = lev lvF o + 1 ∧ lev lvF o = α) →
        ∀ α, m ≤ α → α < mF → ∃ k o', k < (o :: l).length ∧ ops[i + k]? = some o' ∧ lvF.getD (i + k) 0 = lev lvF o' + 1 ∧ lev lvF o' = α := by
      intro lvF mF h α h1 h2
      obtain ⟨k, o', g1, g2, g3, g4⟩ := h α h1 h2
      exact ⟨k + 1, o', by simp; omega, by rw [show i + (k + 1) = i + 1 + k by omega]; exact g2, by rw [show i + (k + 1) = i + 1 + k by omega]; exact g3, g4⟩
    have pputs : ∀ v d, o.dst ≠ some d → pput td o.dst v d = td d := fun v d hd => by
      cases ho : o.dst with
      | none => rfl
      | some d' => exact upd_ne _ _ _ (fun e => hd (by rw [ho, e]))
    have pputs' : ∀ v d, o.dst = some d → pput td o.dst v d = v := fun v d hd => by simp only [pput, hd, upd_same]
    have lens : ∀ x, (lv ++ [x]).length = i + 1 := fun x => by simp [hlv]
    have bnd : ∀ x m', x ≤ m' → m ≤ m' → ∀ j, (lv ++ [x]).getD j 0 ≤ m' := fun x m' hx hmm j => by
      rcases Nat.lt_trichotomy j lv.length with hj | hj | hj
      · have := hm j; simp [List.getD, List.getElem?_append_left hj] at this ⊢; omega
      · subst hj; simp [List.getD, hx]
      · rw [List.getD, List.getElem?_eq_none (by simp; omega)]; simp
    rcases h with ⟨hns, hr, hd, h⟩ | ⟨hns, hr, v, hq, hd, h⟩ | ⟨hns, hr, hlm, v, ob, ha, hne, hd, h⟩ | ⟨hsd, hd, h⟩
    · obtain ⟨tdF, hcF, mF, lvF, e1, e2, e7, e8, e3, e4, e5, e6⟩ := hops_facts hw hdis l (i + 1) _ _ _ _ hl' (lens _) (bnd _ _ hlev (Nat.le_refl _)) hz h
      obtain ⟨k1, k2, k3, k4, k5, k6⟩ := keep _ tdF hcF mF lvF _ _ e3 e4 (pputs _) e5 (fun _ _ => rfl)
      exact ⟨tdF, hcF, mF, lvF, e1, e2, e7, later _ _ e8, k4, k6, e5, split _ _ _ _ ⟨hd, by omega, .inl ⟨hns, by rw [k2]; exact hr, by rw [k1]; exact k3, fun d hd => by rw [k5 d hd, pputs' _ d hd]⟩⟩ e6⟩
    · obtain ⟨tdF, hcF, mF, lvF, e1, e2, e7, e8, e3, e4, e5, e6⟩ := hops_facts hw hdis l (i + 1) _ _ _ _ hl' (lens _) (bnd _ _ hlev (Nat.le_refl _)) hz h
      obtain ⟨k1, k2, k3, k4, k5, k6⟩ := keep _ tdF hcF mF lvF _ _ e3 e4 (pputs _) e5 (fun _ _ => rfl)
      exact ⟨tdF, hcF, mF, lvF, e1, e2, e7, later _ _ e8, k4, k6, e5, split _ _ _ _ ⟨hd, by omega, .inr (.inl ⟨hns, by rw [k2]; exact hr, by rw [k1]; exact k3, v, by rw [k2]; exact hq, fun d hd => by rw [k5 d hd, pputs' _ d hd]⟩)⟩ e6⟩
    · obtain ⟨tdF, hcF, mF, lvF, e1, e2, e7, e8, e3, e4, e5, e6⟩ := hops_facts hw hdis l (i + 1) _ _ _ _ hl' (lens _) (bnd _ _ (Nat.le_refl _) (by omega)) (fun x hx => by rw [upd_ne _ _ _ (by omega)]; exact hz x (by omega)) h
      obtain ⟨k1, k2, k3, k4, k5, k6⟩ := keep _ tdF hcF mF lvF _ _ e3 e4 (pputs _) (fun y hy => e5 y (by omega)) (fun y hy => upd_ne _ _ _ (by omega))
      have hob : hcF (σ.nx + m) = ob := by rw [e5 _ (by omega), upd_same]
      refine ⟨tdF, hcF, mF, lvF, e1, by omega, e7, fun α h1 h2 => ?_, k4, k6, fun y hy => by rw [e5 y (by omega)]; exact upd_ne _ _ _ (by omega), split _ _ _ _ ⟨hd, by omega, .inr (.inr (.inl ⟨hns, by rw [k2]; exact hr, by rw [k1, hlm]; exact k3, fun j hj => ?_, v, ?_, ?_, fun d hd => by rw [k5 d hd, pputs' _ d hd]⟩))⟩ e6⟩
      · by_cases h3 : α = m
        · exact ⟨0, o, by simp, by simpa using h0, by rw [Nat.add_zero, k1, hlm]; exact k3, by rw [k1, hlm, h3]⟩
        · obtain ⟨k, o', g1, g2, g3, g4⟩ := e8 α (by omega) h2
          exact ⟨k + 1, o', by simp; omega, by rw [show i + (k + 1) = i + 1 + k by omega]; exact g2, by rw [show i + (k + 1) = i + 1 + k by omega]; exact g3, g4⟩
      · rw [k4 j hj, k1, hlm]; exact hm j
      · rw [k1, k2, hlm, hob]; exact ha
      · rw [k1, hlm, hob]; exact hne
    · obtain ⟨tdF, hcF, mF, lvF, e1, e2, e7, e8, e3, e4, e5, e6⟩ := hops_facts hw hdis l (i + 1) _ _ _ _ hl' (lens _) (bnd _ _ hlev (Nat.le_refl _)) hz h
      obtain ⟨k1, k2, k3, k4, k5, k6⟩ := keep _ tdF hcF mF lvF _ _ e3 e4 (pputs _) e5 (fun _ _ => rfl)
      exact ⟨tdF, hcF, mF, lvF, e1, e2, e7, later _ _ e8, k4, k6, e5, split _ _ _ _ ⟨hd, by omega, .inr (.inr (.inr ⟨hsd, by rw [k1]; exact k3, fun d hd => by rw [k5 d hd, pputs' _ d hd]⟩))⟩ e6⟩

/-! ### The head's operations, in whatever order -/
def headDst (ops : Array Oper) (n : Nat) : List Nat := (List.range n).filterMap fun i => (ops[i]?).bind (·.dst)
def doneDst (ops : Array Oper) (n : Nat) (listed : Array Bool) : List Nat := (List.range n).filterMap fun i => bif listed.getD i false then (ops[i]?).bind (·.dst) else none

/-- The state, behind those that are listed. -/
def mid (ops : Array Oper) (n : Nat) (σ : St) (tdF : Nat → AV) (hcF : Nat → AO) (listed : Array Bool) (k : Nat) : St :=
  { t := fun d => bif has (headDst ops n) d then (bif has (doneDst ops n listed) d then tdF d else .any) else σ.t d, n := σ.n, h := cut (σ.nx + k) hcF, nx := σ.nx + k }

theorem GLe.down {g g' : G} {nx nx' : Nat} (h : GLe g nx g') (hn : nx' ≤ nx) : GLe g nx' g' := ⟨h.I, h.J, fun l hl => h.κ l (by omega), fun l hl => h.same l (by omega)⟩
theorem gle_ext (g : G) (nx : Nat) (w w' : World) : GLe g nx (g.ext w w') := ⟨fun _ h => Or.inl h, fun _ h => Or.inl h, fun _ _ => Nat.le_refl _, fun _ _ _ => ⟨rfl, rfl, rfl⟩⟩

theorem cut_if (n : Nat) (h : Nat → AO) (l : Nat) : cut n h l = if l < n then h l else .dead := by
  unfold cut
  cases h1 : Nat.blt l n with
  | false =>
    have : ¬ l < n := fun h => by have := Nat.ble_eq_true_of_le (show l + 1 ≤ n from h); unfold Nat.blt at h1; rw [this] at h1; cases h1
    rw [if_neg this]; rfl
  | true =>
    have : l < n := Nat.le_of_ble_eq_true h1
    rw [if_pos this]; rfl

/-- Where a side object lies. -/
def SideAt (E : Env) (B : Base) (o : Oper) (a : Act) (w : World) (g : G) (nx : Nat) (h : Nat → AO) : Prop :=
  ∃ d b t z, o.op = .alloc t ∧ (E.P.info? t).bind (·.zero) = some z ∧ o.dst = some d ∧ a.tmps.getD d undef = .pointer (some ⟨b, 0, none⟩) ∧ w.heap[b]? = some (.cells z.cells t (0, 0)) ∧ ¬ g.J b ∧ ¬ Owned g nx h b ∧ B.w.heap.size ≤ b

/-- What stands when some of the head have run. -/
structure MInv (dS : Option Nat) (E : Env) (B : Base) (ops : Array Oper) (n : Nat) (σ : St) (tdF : Nat → AV) (hcF : Nat → AO) (lvF : List Nat) (mF : Nat) (listed : Array Bool) (a : Act) (w : World) (g : G) (k : Nat) : Prop where
  kle : k ≤ mF
  made : ∀ i o, i < n → ops[i]? = some o → lvF.getD i 0 = lev lvF o + 1 → (listed.getD i false = true ↔ lev lvF o < k)
  lv : ∀ i, i < n → listed.getD i false = true → lvF.getD i 0 ≤ k
  rel : Rel E B g (mid ops n σ tdF hcF listed k) w a
  told : ∀ d, has (headDst ops n) d = false → VR w g σ.nx (σ.t d) (a.tmps.getD d undef)
  tnew : ∀ i o d, i < n → listed.getD i false = true → ops[i]? = some o → o.dst = some d → VR w g (σ.nx + lvF.getD i 0) (tdF d) (a.tmps.getD d undef)
  hold : ∀ l, l < σ.nx → OR w g σ.nx l (hcF l)
  hnew : ∀ α, α < k → OR w g (σ.nx + α + 1) (σ.nx + α) (hcF (σ.nx + α))
  side : ∀ i o, i < n → listed.getD i false = true → ops[i]? = some o → SideOp E dS o → SideAt E B o a w g (σ.nx + k) (cut (σ.nx + k) hcF)

theorem OR.up {w : World} {g : G} {nx nx' l : Nat} {o : AO} (hl : l < nx) (hn : nx ≤ nx') (h : OR w g nx l o) : OR w g nx' l o :=
  h.mono (GLe.refl g nx) hn (fun _ _ => rfl) hl rfl (fun _ _ => rfl)

/-- A state with fewer places and objects. -/
theorem rel_cut {σ σ' : St} {g : G} {w : World} {a : Act} (hr : Rel E B g σ w a) (hn : σ'.n = σ.n) (hx : σ'.nx ≤ σ.nx) (hb : B.nx ≤ σ'.nx) (hh : ∀ l, l < σ'.nx → σ'.h l = σ.h l) (hd' : ∀ l, σ'.nx ≤ l → σ'.h l = .dead)
    (hbt : ∀ d, VR w g σ'.nx (σ'.t d) (a.tmps.getD d undef)) (hbh : ∀ l, l < σ'.nx → OR w g σ'.nx l (σ.h l)) : Rel E B g σ' w a := by
  have hdd : ∀ l, l < σ'.nx → σ'.h l ≠ .dead → σ.h l ≠ .dead := fun l hl h => by rw [← hh l hl]; exact h
  have hown : ∀ b, Owned g σ'.nx σ'.h b → Owned g σ.nx σ.h b := fun b ⟨l, hl, hd, hv, hb⟩ => ⟨l, by omega, hdd l hl hd, hv, hb⟩
  refine ⟨by rw [hr.size, hn], hbt, ⟨fun l hl => ?_, hd',
    fun l l' hl hl' h1 h2 h3 h4 h5 => hr.hr.inj l l' (by omega) (by omega) (hdd l hl h1) (hdd l' hl' h2) h3 h4 h5, hr.hr.Jlt, hr.hr.IJ, fun b hb ho => hr.hr.dis b hb (hown b ho), hr.hr.gl⟩, ?_, hr.df⟩
  · rw [hh l hl]; exact hbh l hl
  · have hx := hr.ext
    exact ⟨hx.os, hx.tape, hx.output, hx.size, hx.block, hx.gle, hb, hx.inew, fun b hb => hx.own b (hown b hb)⟩

theorem le_foldl (f : Nat → Nat) : ∀ (ws : List Nat) (m : Nat), m ≤ ws.foldl (fun m j => max m (f j)) m ∧ ∀ j ∈ ws, f j ≤ ws.foldl (fun m j => max m (f j)) m
  | [], m => ⟨Nat.le_refl _, fun _ h => by cases h⟩
  | x :: ws, m => by
    simp only [List.foldl_cons]
    obtain ⟨h1, h2⟩ := le_foldl f ws (max m (f x))
    refine ⟨by omega, fun j hj => ?_⟩
    rcases List.mem_cons.1 hj with rfl | hj
    · omega
    · exact h2 j hj

theorem rel_sight {n : Nat} {tdF : Nat → AV} {hcF : Nat → AO} {lvF : List Nat} {mF : Nat} {listed : Array Bool} {a : Act} {w : World} {g : G} {k : Nat} (inv : MInv dS E B ops n σ tdF hcF lvF mF listed a w g k) (hB : B.nx ≤ σ.nx)
    {i : Nat} {o : Oper} (hin : i < n) (hw : ∀ j ∈ waits o, j < i) (hall : ∀ j ∈ waits o, listed.getD j false = true) :
    lev lvF o ≤ k ∧ Rel E B g (sight ops (headDst ops n) σ lvF tdF hcF o) w a := by
  have hlev : lev lvF o ≤ k := lev_le _ _ _ _ (Nat.zero_le _) fun j hj => inv.lv j (by have := hw j hj; omega) (hall j hj)
  refine ⟨hlev, rel_cut inv.rel rfl (by simp [sight, mid]; omega) (by simp [sight]; omega) (fun l hl => ?_) (fun l hl => ?_) (fun d => ?_) (fun l hl => ?_)⟩
  · simp only [sight, mid, cut_if] at hl ⊢
    rw [if_pos hl, if_pos (by omega)]
  · simp only [sight, cut_if] at hl ⊢
    rw [if_neg (by omega)]
  · simp only [sight]
    cases ha : has (headDst ops n) d with
    | false => exact (inv.told d ha).mono (GLe.refl g _) (by omega) (fun _ _ => rfl)
    | true =>
      cases hb : has (waitDst ops o) d with
      | false => exact .any _
      | true =>
        simp only [cond_true]
        obtain ⟨j, hj, hd⟩ := List.mem_filterMap.1 (has_iff.1 hb)
        obtain ⟨oj, hoj, hd⟩ := Option.bind_eq_some_iff.1 hd
        refine (inv.tnew j oj d (by have := hw j hj; omega) (hall j hj) hoj hd).mono (GLe.refl g _) ?_ (fun _ _ => rfl)
        have := (le_foldl (fun j => lvF.getD j 0) (waits o) 0).2 j hj
        unfold lev; omega
  · simp only [sight, mid, cut_if] at hl ⊢
    rw [if_pos (by omega)]
    by_cases h : l < σ.nx
    · exact (inv.hold l h).up h (by omega)
    · have := inv.hnew (l - σ.nx) (by omega)
      rw [show σ.nx + (l - σ.nx) = l by omega] at this
      exact this.up (by omega) (by omega)

theorem done_set {n i : Nat} {o : Oper} {listed : Array Bool} (ho : ops[i]? = some o) (hin : i < n) (hs : i < listed.size) (d : Nat) :
    has (doneDst ops n (listed.setIfInBounds i true)) d = (has (doneDst ops n listed) d || decide (o.dst = some d)) := by
  rw [Bool.eq_iff_iff, has_iff, Bool.or_eq_true, has_iff, decide_eq_true_eq]
  simp only [doneDst, List.mem_filterMap, List.mem_range]
  constructor
  · rintro ⟨j, hj, h⟩
    by_cases e : j = i
    · subst e
      have : (listed.setIfInBounds j true).getD j false = true := by simp [hs]
      rw [this, cond_true, ho] at h; exact .inr h
    · rw [getD_set_ne false (Ne.symm e)] at h; exact .inl ⟨j, hj, h⟩
  · rintro (⟨j, hj, h⟩ | h)
    · cases hl : listed.getD j false with
      | false => rw [hl] at h; cases h
      | true => exact ⟨j, hj, by rw [getD_set_true hl]; rw [hl] at h; exact h⟩
    · refine ⟨i, hin, ?_⟩
      have : (listed.setIfInBounds i true).getD i false = true := by simp [hs]
      rw [this, cond_true, ho]; exact h

theorem set_iff {listed : Array Bool} {i j : Nat} (hs : i < listed.size) : (listed.setIfInBounds i true).getD j false = true ↔ (j = i ∨ listed.getD j false = true) := by
  by_cases e : j = i
  · subst e; simp [hs]
  · rw [getD_set_ne false (Ne.symm e)]; simp [e]

/-- One more of the head has run. -/
theorem minv_step {n : Nat} {tdF : Nat → AV} {hcF : Nat → AO} {lvF : List Nat} {mF : Nat} {listed : Array Bool} {a : Act} {w w' : World} {g g' : G} {k k' : Nat} (inv : MInv dS E B ops n σ tdF hcF lvF mF listed a w g k)
    {i : Nat} {o : Oper} (ho : ops[i]? = some o) (hin : i < n) (hun : listed.getD i true = false) (hs : i < listed.size)
    (hdis : ∀ (i j : Nat) (o o' : Oper) (d : Nat), i ≠ j → ops[i]? = some o → ops[j]? = some o' → i < n → j < n → o.dst = some d → o'.dst = some d → False) {x : Value}
    (hg : GLe g (σ.nx + k) g') (hJ : ∀ b, g.J b → w'.heap[b]? = w.heap[b]?) (hown : ∀ l, l < σ.nx + k → cut (σ.nx + k) hcF l ≠ .dead → g.vt l = false → w'.heap[g.ρ l]? = w.heap[g.ρ l]?) (hκ : ∀ l, l < σ.nx + k → g'.κ l = g.κ l)
    (hkk : k ≤ k') (kle : k' ≤ mF) (made : ∀ i' o', i' < n → ops[i']? = some o' → lvF.getD i' 0 = lev lvF o' + 1 → ((i' = i ∨ listed.getD i' false = true) ↔ lev lvF o' < k')) (hlv : lvF.getD i 0 ≤ k')
    (hnew : ∀ α, k ≤ α → α < k' → OR w' g' (σ.nx + α + 1) (σ.nx + α) (hcF (σ.nx + α)))
    (hrel : Rel E B g' { mid ops n σ tdF hcF listed k' with t := (mid ops n σ tdF hcF listed k).t } w' a)
    (hd : dlt o.dst σ.n = true) (hv : ∀ d, o.dst = some d → VR w' g' (σ.nx + lvF.getD i 0) (tdF d) x)
    (hall : ∀ b, b < w.heap.size → w'.heap[b]? = w.heap[b]?) (hJn : ∀ b, g'.J b → g.J b ∨ w.heap.size ≤ b) (hOn : ∀ b, Owned g' (σ.nx + k') (cut (σ.nx + k') hcF) b → Owned g (σ.nx + k) (cut (σ.nx + k) hcF) b ∨ w.heap.size ≤ b)
    (hsd : SideOp E dS o → SideAt E B o (a.put o.dst x) w' g' (σ.nx + k') (cut (σ.nx + k') hcF)) : MInv dS E B ops n σ tdF hcF lvF mF (listed.setIfInBounds i true) (a.put o.dst x) w' g' k' := by
  have hput : ∀ d, o.dst ≠ some d → (a.put o.dst x).tmps.getD d undef = a.tmps.getD d undef := fun d hd' => by
    cases hod : o.dst with
    | none => rfl
    | some d' =>
      have : d' ≠ d := fun e => hd' (by rw [hod, e])
      simp [Act.put, Array.getD_eq_getD_getElem?, Array.getElem?_setIfInBounds_ne this]
  have hput' : ∀ d, o.dst = some d → (a.put o.dst x).tmps.getD d undef = x := fun d hd' => by
    have hlt : d < a.tmps.size := by rw [hrel.size]; rw [hd'] at hd; simpa [dlt, mid] using hd
    rw [hd']; simp [Act.put, Array.getD_eq_getD_getElem?, hlt]
  have hhd : ∀ d, o.dst = some d → has (headDst ops n) d = true := fun d hd' => has_iff.2 (List.mem_filterMap.2 ⟨i, List.mem_range.2 hin, by rw [ho]; exact hd'⟩)
  refine ⟨kle, fun i' o' hi' ho' hl => by rw [set_iff hs]; exact made i' o' hi' ho' hl, fun j hj hl => ?_, ?_, fun d hd' => ?_, fun j oj d hj hl hoj hd' => ?_, fun l hl => ?_, fun α hα => ?_, fun j oj hj hl hoj hso => ?_⟩
  · rcases (set_iff hs).1 hl with e | e
    · subst e; exact hlv
    · have := inv.lv j hj e; omega
  · refine ⟨?_, fun d => ?_, hrel.hr, hrel.ext, ?_⟩
    · have := hrel.size
      cases hod : o.dst <;> simpa [Act.put, mid, hod] using this
    · simp only [mid]
      cases ha : has (headDst ops n) d with
      | false =>
        have hne : o.dst ≠ some d := fun e => by rw [hhd d e] at ha; cases ha
        have := hrel.tm d
        simp only [mid, ha, cond_false] at this
        rw [hput d hne]; exact this
      | true =>
        rw [done_set ho hin hs]
        by_cases hod : o.dst = some d
        · simp only [hod, decide_true, Bool.or_true, cond_true]
          rw [← hod, hput' d hod]
          exact (hv d hod).mono (GLe.refl g' _) (by omega) (fun _ _ => rfl)
        · have := hrel.tm d
          simp only [mid, ha, cond_true] at this
          rw [hput d hod]
          simpa [hod] using this
    · have := hrel.df
      cases hod : o.dst <;> simpa [Act.put, hod] using this
  · have hne : o.dst ≠ some d := fun e => by rw [hhd d e] at hd'; cases hd'
    rw [hput d hne]
    exact (inv.told d hd').mono (hg.down (by omega)) (Nat.le_refl _) hJ
  · rcases (set_iff hs).1 hl with e | e
    · subst e
      have : oj = o := Option.some.inj (hoj.symm.trans ho)
      subst this
      rw [hput' d hd']; exact hv d hd'
    · have hne : o.dst ≠ some d := fun e' => by
        by_cases hji : j = i
        · subst hji
          rw [getD_both hun] at e; cases e
        · exact hdis j i oj o d hji hoj ho hj hin hd' e'
      rw [hput d hne]
      exact (inv.tnew j oj d hj e hoj hd').mono (hg.down (by have := inv.lv j hj e; omega)) (Nat.le_refl _) hJ
  · refine (inv.hold l hl).mono (hg.down (by omega)) (Nat.le_refl _) hJ hl (hκ l (by omega)) (fun hdd hvt => hown l (by omega) ?_ hvt)
    rw [cut_if, if_pos (by omega)]; exact hdd
  · by_cases h : α < k
    · refine (inv.hnew α h).mono (hg.down (by omega)) (Nat.le_refl _) hJ (by omega) (hκ _ (by omega)) (fun hdd hvt => hown _ (by omega) ?_ hvt)
      rw [cut_if, if_pos (by omega)]; exact hdd
    · exact hnew α (by omega) hα
  · rcases (set_iff hs).1 hl with e | e
    · subst e
      have : oj = o := Option.some.inj (hoj.symm.trans ho)
      subst this; exact hsd hso
    · obtain ⟨d, b, t, z, h1, h2, h3, h4, h5, h6, h7, h8⟩ := inv.side j oj hj e hoj hso
      have hlt : b < w.heap.size := (Array.getElem?_eq_some_iff.1 h5).1
      have hne : o.dst ≠ some d := fun e' => by
        by_cases hji : j = i
        · subst hji
          rw [getD_both hun] at e; cases e
        · exact hdis j i oj o d hji hoj ho hj hin h3 e'
      refine ⟨d, b, t, z, h1, h2, h3, by rw [hput d hne]; exact h4, by rw [hall b hlt]; exact h5, fun h => ?_, fun h => ?_, h8⟩
      · rcases hJn b h with h | h
        · exact h6 h
        · omega
      · rcases hOn b h with h | h
        · exact h7 h
        · omega
end
end Go.Proofs.YtdcpnpcmgfmenaaDoor.Lg
