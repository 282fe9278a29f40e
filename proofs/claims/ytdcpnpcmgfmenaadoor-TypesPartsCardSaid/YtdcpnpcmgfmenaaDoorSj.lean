/-
  Forgetting: a state that tells less. Conditions: none.
-/
import Derived.Test.YtdcpnpcmgfmenaaDoorSi
import Derived.IntWalk
set_option linter.unusedSimpArgs false
set_option linter.unusedVariables false
namespace Go.Proofs.YtdcpnpcmgfmenaaDoor.Lg
open Go Go.RowKit

/-- Whoever is told σ may be told σ'. -/
def Wk (E : Env) (B : Base) (σ σ' : St) : Prop := ∀ g w a, Rel E B g σ w a → ∃ g', Rel E B g' σ' w a

mutual
def AV.bnd (n : Nat) : AV → Bool
  | .any | .d _ | .dp _ _ => true
  | .agg cs | .tup cs => AV.bnds n cs
  | .p l _ _ | .pe l _ _ _ _ | .own l _ _ _ _ | .map l => decide (l < n)
  | .fn _ caps => AV.bnds n caps
def AV.bnds (n : Nat) : List AV → Bool
  | [] => true
  | v :: r => v.bnd n && AV.bnds n r
end
theorem bnds_get {n : Nat} : ∀ {cs : List AV}, AV.bnds n cs = true → ∀ (i : Nat) c, cs[i]? = some c → c.bnd n = true
  | v :: r, h, 0, c, hc => by simp [AV.bnds] at h; simp at hc; subst hc; exact h.1
  | v :: r, h, i + 1, c, hc => by simp [AV.bnds] at h; exact bnds_get h.2 i c (by simpa using hc)

theorem VR.bnd {w : World} {g : G} {nx nx' : Nat} {c : AV} {x : Value} (h : VR w g nx c x) : c.bnd nx' = true → VR w g nx' c x := by
  induction h with
  | any x => exact fun _ => .any x
  | d c x h => exact fun _ => .d c x h
  | agg cs xs h1 _ ih => exact fun hb => .agg cs xs h1 fun i c x hc hx => ih i c x hc hx (bnds_get (by simpa [AV.bnd] using hb) i c hc)
  | tup cs xs h1 _ ih => exact fun hb => .tup cs xs h1 fun i c x hc hx => ih i c x hc hx (bnds_get (by simpa [AV.bnd] using hb) i c hc)
  | dp cs off b o f h1 h2 h3 => exact fun _ => .dp cs off b o f h1 h2 h3
  | p l k off x h0 h1 h2 h3 => exact fun hb => .p l k off x h0 (by simpa [AV.bnd] using hb) h2 h3
  | pe l k sz i j x h0 h1 h2 h3 => exact fun hb => .pe l k sz i j x h0 (by simpa [AV.bnd] using hb) h2 h3
  | own l k sz off n x h0 h1 h2 h3 => exact fun hb => .own l k sz off n x h0 (by simpa [AV.bnd] using hb) h2 h3
  | map l x h0 h1 h2 => exact fun hb => .map l x h0 (by simpa [AV.bnd] using hb) h2
  | fn f caps xs h1 _ ih => exact fun hb => .fn f caps xs h1 fun i c x hc hx => ih i c x hc hx (bnds_get (by simpa [AV.bnd] using hb) i c hc)

/-- A value that tells less; only objects below nx' are named. -/
def Le (nx nx' : Nat) (v v' : AV) : Prop := ∀ w g x, (∀ b, g.I b → g.J b) → VR w g nx v x → VR w g nx' v' x
theorem le_any {nx nx' : Nat} (v : AV) : Le nx nx' v .any := fun _ _ _ _ _ => .any _
theorem le_eq {nx nx' : Nat} {v v' : AV} (h : v = v') (hb : v'.bnd nx' = true) : Le nx nx' v v' := fun _ _ _ _ hv => by subst h; exact hv.bnd hb
theorem le_nil {nx nx' : Nat} : Le nx nx' (.d (.v (.slice none 0 0))) (.d (.sl true [])) := fun _ _ _ _ h => by rw [vr_val h]; exact .d _ _ (.nil _ _ _)
def Les (nx nx' : Nat) : List AV → List AV → Prop
  | [], [] => True
  | v :: vs, v' :: vs' => Le nx nx' v v' ∧ Les nx nx' vs vs'
  | _, _ => False
theorem les_get {nx nx' : Nat} : ∀ {cs ds : List AV}, Les nx nx' cs ds → cs.length = ds.length ∧ ∀ (i : Nat) c d, cs[i]? = some c → ds[i]? = some d → Le nx nx' c d := by
  intro cs
  induction cs with
  | nil => intro ds h; cases ds <;> simp_all [Les]
  | cons c cs ih =>
    intro ds h
    cases ds with
    | nil => simp [Les] at h
    | cons d ds =>
      simp only [Les] at h
      obtain ⟨h1, h2⟩ := ih h.2
      refine ⟨by simp [h1], fun i c' d' hc hd => ?_⟩
      cases i with
      | zero => simp at hc hd; subst hc; subst hd; exact h.1
      | succ i => exact h2 i c' d' (by simpa using hc) (by simpa using hd)
theorem le_agg {nx nx' : Nat} {cs ds : List AV} (h : Les nx nx' cs ds) : Le nx nx' (.agg cs) (.agg ds) := fun w g x hIJ hv => by
  obtain ⟨h1, h2⟩ := les_get h
  cases hv with
  | agg _ xs g1 g2 =>
    refine .agg _ _ (by omega) fun i d x hd hx => ?_
    have hi : i < cs.length := by rw [h1]; exact (List.getElem?_eq_some_iff.1 hd).1
    exact h2 i cs[i] d (List.getElem?_eq_getElem hi) hd w g x hIJ (g2 i _ x (List.getElem?_eq_getElem hi) hx)
theorem le_aggd {nx nx' : Nat} {cs : List AV} {ds : List D} (h : Les nx nx' cs (ds.map .d)) : Le nx nx' (.agg cs) (.d (.agg ds)) := fun w g x hIJ hv => by
  obtain ⟨h1, h2⟩ := les_get h
  cases hv with
  | agg _ xs g1 g2 =>
    refine .d _ _ (.agg _ _ (by simp at h1; omega) fun i d x hd hx => ?_)
    have hi : i < cs.length := by rw [h1]; simp; exact (List.getElem?_eq_some_iff.1 hd).1
    exact vr_data (h2 i cs[i] (.d d) (List.getElem?_eq_getElem hi) (by simp [hd]) w g x hIJ (g2 i _ x (List.getElem?_eq_getElem hi) hx))
theorem le_dagg {nx nx' : Nat} {cs ds : List D} (h : Les nx nx' (cs.map .d) (ds.map .d)) : Le nx nx' (.d (.agg cs)) (.d (.agg ds)) := fun w g x hIJ hv => by
  obtain ⟨h1, h2⟩ := les_get h
  have hd := vr_data hv
  cases hd with
  | agg _ xs g1 g2 =>
    refine .d _ _ (.agg _ _ (by simp at h1; omega) fun i d x hd hx => ?_)
    have hi : i < cs.length := by simp at h1; rw [h1]; exact (List.getElem?_eq_some_iff.1 hd).1
    exact vr_data (h2 i (.d cs[i]) (.d d) (by simp [hi]) (by simp [hd]) w g x hIJ (.d _ _ (g2 i _ x (List.getElem?_eq_getElem hi) hx)))

/-- An object that tells less. -/
inductive OLe (nx nx' : Nat) : AO → AO → Prop
  | dead (o : AO) : OLe nx nx' o .dead
  | cells (cs ds : List AV) : Les nx nx' cs ds → OLe nx nx' (.cells cs) (.cells ds)
  | arr (k e sz : Nat) (es fs : List (List AV)) : es = fs → (∀ r ∈ fs, ∀ c ∈ r, c.bnd nx' = true) → OLe nx nx' (.arr k e sz es) (.arr k e sz fs)
  | map (es fs : List (Value × AV)) : es = fs → (∀ p ∈ fs, p.2.bnd nx' = true) → OLe nx nx' (.map es) (.map fs)

theorem OLe.or {nx nx' : Nat} {o o' : AO} (h : OLe nx nx' o o') {w : World} {g : G} {l : Nat} (hIJ : ∀ b, g.I b → g.J b) (ho : OR w g nx l o) : OR w g nx' l o' := by
  cases h with
  | dead => trivial
  | cells cs ds h =>
    obtain ⟨h1, h2⟩ := les_get h
    obtain ⟨g1, g2, xs, t, g3, g4, g5⟩ := ho
    refine ⟨g1, g2, xs, t, g3, by omega, fun i d x hd hx => ?_⟩
    have hi : i < cs.length := by rw [h1]; exact (List.getElem?_eq_some_iff.1 hd).1
    exact h2 i cs[i] d (List.getElem?_eq_getElem hi) hd w g x hIJ (g5 i _ x (List.getElem?_eq_getElem hi) hx)
  | arr k e sz es fs h hb =>
    subst h
    obtain ⟨g1, g2, g3, g4, xs, g5, g6⟩ := ho
    refine ⟨g1, g2, g3, g4, xs, g5, fun i c x hc hx => (g6 i c x hc hx).bnd ?_⟩
    obtain ⟨r, hr, hcr⟩ := List.mem_flatten.1 (List.mem_of_getElem? hc)
    exact hb r hr c hcr
  | map es fs h hb =>
    subst h
    obtain ⟨g1, g2, ms, clock, g3, g4, g5⟩ := ho
    exact ⟨g1, g2, ms, clock, g3, g4, fun i e m he hm => ⟨(g5 i e m he hm).1, (g5 i e m he hm).2.bnd (hb e (List.mem_of_getElem? he))⟩⟩

def TLe (nx nx' : Nat) (t t' : Nat → AV) : Prop := ∀ i, Le nx nx' (t i) (t' i)
theorem tle_any {nx nx' : Nat} (t : Nat → AV) : TLe nx nx' t (fun _ => .any) := fun _ => le_any _
theorem tle_upd {nx nx' : Nat} {t t' : Nat → AV} {d : Nat} {v : AV} (hv : Le nx nx' (t d) v) (h : TLe nx nx' t t') : TLe nx nx' t (upd t' d v) := fun i => by
  simp only [upd]; split
  · rename_i e; subst e; exact hv
  · exact h i
def HLe (nx nx' : Nat) (h h' : Nat → AO) : Prop := ∀ l, OLe nx nx' (h l) (h' l)
theorem hle_dead {nx nx' : Nat} (h : Nat → AO) : HLe nx nx' h (fun _ => .dead) := fun _ => .dead _
theorem hle_upd {nx nx' : Nat} {h h' : Nat → AO} {l : Nat} {o : AO} (hv : OLe nx nx' (h l) o) (hh : HLe nx nx' h h') : HLe nx nx' h (upd h' l o) := fun i => by
  simp only [upd]; split
  · rename_i e; subst e; exact hv
  · exact hh i

section
variable {E : Env} {B : Base} {Q : Exit → St → Prop} {σ σ' : St}

theorem wk_of (hn : σ'.n = σ.n) (hx : σ'.nx ≤ σ.nx) (hb : B.nx ≤ σ'.nx) (ht : TLe σ.nx σ'.nx σ.t σ'.t) (hh : HLe σ.nx σ'.nx σ.h σ'.h) (hd : ∀ l, σ'.nx ≤ l → σ'.h l = .dead) : Wk E B σ σ' := by
  intro g w a hr
  have hdd : ∀ l, σ'.h l ≠ .dead → σ.h l ≠ .dead := fun l h e => by
    have := hh l
    rw [e] at this
    generalize σ'.h l = o at this h
    cases this
    exact h rfl
  have hown : ∀ b, Owned g σ'.nx σ'.h b → Owned g σ.nx σ.h b := fun b ⟨l, hl, hd, hv, hb⟩ => ⟨l, by omega, hdd l hd, hv, hb⟩
  refine ⟨g, by rw [hr.size, hn], fun i => ht i w g _ hr.hr.IJ (hr.tm i), ⟨fun l hl => (hh l).or hr.hr.IJ (hr.hr.hp l (by omega)), hd,
    fun l l' hl hl' h1 h2 h3 h4 h5 => hr.hr.inj l l' (by omega) (by omega) (hdd l h1) (hdd l' h2) h3 h4 h5, hr.hr.Jlt, hr.hr.IJ, fun b hb ho => hr.hr.dis b hb (hown b ho), hr.hr.gl⟩, ?_, hr.df⟩
  have hx := hr.ext
  exact ⟨hx.os, hx.tape, hx.output, hx.size, hx.block, hx.gle, hb, hx.inew, fun b hb => hx.own b (hown b hb)⟩

theorem wk_refl (σ : St) : Wk E B σ σ := fun g w a h => ⟨g, h⟩
theorem wk_trans {σ'' : St} (h : Wk E B σ σ') (h' : Wk E B σ' σ'') : Wk E B σ σ'' := fun g w a hr => by
  obtain ⟨g', hr'⟩ := h g w a hr
  exact h' g' w a hr'
theorem swp_wk {c : Code} (h : Wk E B σ σ') (hs : SWP E B c Q σ') : SWP E B c Q σ := fun g w a hr => by
  obtain ⟨g', hr'⟩ := h g w a hr
  exact hs g' w a hr'
theorem sops_wk {ops : Array Oper} {l : List Oper} (h : Wk E B σ σ') (hs : SOps E B ops l Q σ') : SOps E B ops l Q σ := fun g w a hr => by
  obtain ⟨g', hr'⟩ := h g w a hr
  exact hs g' w a hr'
/-- A nil slice in a temporary is a growing row of ours from now on. -/
theorem wk_virt (d e sz : Nat) (hd : σ.t d = .d (.v (.slice none 0 0))) :
    Wk E B σ { σ with t := upd σ.t d (.own σ.nx 0 sz 0 0), h := upd σ.h σ.nx (.arr 0 e sz []), nx := σ.nx + 1 } := fun g w a hr => by
  obtain ⟨h1, h2⟩ := rel_virt hr e sz
  refine ⟨_, h1.size, fun i => ?_, h1.hr, h1.ext, h1.df⟩
  simp only [upd]
  split
  · rename_i hi
    subst hi
    have := hr.tm i
    rw [hd] at this
    rw [vr_val this]; exact h2
  · exact h1.tm i

/-- A loop whose head is told by a family of states. -/
theorem swp_loopF {c : Code} {ι : Type} (F : ι → St) (P : ι → Prop) (μ : ι → Nat) (i : ι) (hP : P i) (h0 : Wk E B σ (F i))
    (round : ∀ i, P i → SWP E B c (after (fun σ' => ∃ j, P j ∧ μ j < μ i ∧ Wk E B σ' (F j)) Q) (F i)) : SWP E B (.loop c) Q σ := by
  refine swp_loop (fun n σ => ∃ i, P i ∧ μ i = n ∧ Wk E B σ (F i)) (μ i) ⟨i, hP, rfl, h0⟩ ?_
  rintro n σ ⟨i, hPi, rfl, hw⟩
  refine swp_wk hw ((round i hPi).mono ?_)
  intro e σ' h
  cases e with
  | normal => obtain ⟨j, hj, hm, hw'⟩ := h; exact ⟨μ j, hm, j, hj, rfl, hw'⟩
  | _ => exact h
end

theorem int_eq {k : IntKind} {a b : Int} (h : a = b) : AV.d (.v (.int k a)) = AV.d (.v (.int k b)) := by rw [h]
theorem i64_in {x : Int} (h0 : -9223372036854775808 ≤ x) (h1 : x ≤ 9223372036854775807) : IntKind.i64.wrap x = x := IntWalk.i64_in x (by constructor <;> omega)
end Go.Proofs.YtdcpnpcmgfmenaaDoor.Lg
