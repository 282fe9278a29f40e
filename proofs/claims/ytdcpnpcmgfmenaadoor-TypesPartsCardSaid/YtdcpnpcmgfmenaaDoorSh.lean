/-
  Calls of functions that turn nothing, and what their bodies owe. Conditions: none.
-/
import Derived.Test.YtdcpnpcmgfmenaaDoorSg
import Derived.Shelf.Abstract
set_option linter.unusedSimpArgs false
set_option linter.unusedVariables false
namespace Go.Proofs.YtdcpnpcmgfmenaaDoor.Lg
open Go Go.RowKit Go.Shelf

def G.res (g : G) (w w' : World) : G := { g with I := resI g.I w w', J := resI g.I w w' }
/-- How a callee sees what there is: nothing is its own. -/
def G.callee (g : G) (w : World) : G := { g with J := fun b => b < w.heap.size }

/-- The function, called with these, returns that; nothing that was there turns. -/
def Pure (E : Env) (f : FuncId) (args : List AV) (r : AV) : Prop :=
  Enters E.P f ∧ ∀ w g (vs : Array Value), HRel E w g 0 (fun _ => .dead) → vs.size = args.length → (∀ (i : Nat) c x, args[i]? = some c → vs[i]? = some x → VR w g 0 c x) →
    Calls E.P f vs w fun e w' => ∃ v, e = .returned v ∧ VR w' (g.res w w') 0 r v ∧ Below w.heap.size w w'

section
variable {E : Env} {B : Base} {Q : Exit → St → Prop} {σ : St} {o : Oper} {K : St → Prop}

theorem callee_hr {w : World} {g : G} {nx : Nat} {h : Nat → AO} (hr : HRel E w g nx h) : HRel E w (g.callee w) 0 (fun _ => .dead) :=
  ⟨fun _ h => by omega, fun _ _ => rfl, fun _ _ h => by omega, fun _ h => h, fun b hb => hr.Jlt b (hr.IJ b hb), fun b _ ⟨l, hl, _⟩ => by omega,
    gl_mono (g' := g.callee w) hr (fun _ h => h) (fun b hb => hr.Jlt b hb) (fun _ _ => rfl)⟩

/-- An argument, as the callee sees it. -/
def NA (E : Env) (σ : St) (v v' : AV) : Prop := ∀ B g w a, Rel E B g σ w a → ∀ x, VR w g σ.nx v x → VR w (g.callee w) 0 v' x
def NAs (E : Env) (σ : St) : List AV → List AV → Prop
  | [], [] => True
  | v :: vs, v' :: vs' => NA E σ v v' ∧ NAs E σ vs vs'
  | _, _ => False

theorem na_d (x : D) : NA E σ (.d x) (.d x) := fun B g w a hr y h => .d _ _ ((vr_data h).mono (fun _ h => h) (fun b hb => hr.hr.Jlt b hb) (fun _ _ => rfl))
theorem na_any (v : AV) : NA E σ v .any := fun B g w a hr y h => .any _
theorem na_nil : NA E σ (.d (.v (.slice none 0 0))) (.d (.sl true [])) := fun B g w a hr y h => by rw [vr_val h]; exact .d _ _ (.nil _ _ _)
theorem na_dp (cs : List D) (off : Nat) : NA E σ (.dp cs off) (.dp cs off) := fun B g w a hr y h => by
  cases h with
  | dp _ _ b o f h1 h2 h3 => exact .dp _ _ _ _ f (hr.hr.Jlt b h1) h2 (fun i c hc => (h3 i c hc).mono (fun _ h => h) (fun b hb => hr.hr.Jlt b hb) (fun _ _ => rfl))
theorem na_agg {cs : List AV} {ds : List D} (h : NAs E σ cs (ds.map .d)) : NA E σ (.agg cs) (.d (.agg ds)) := fun B g w a hr y hy => by
  have key : ∀ {cs : List AV} {ds : List D}, NAs E σ cs (ds.map .d) → cs.length = ds.length ∧ ∀ (i : Nat) c d, cs[i]? = some c → ds[i]? = some d → NA E σ c (.d d) := by
    intro cs
    induction cs with
    | nil => intro ds h; cases ds <;> simp_all [NAs]
    | cons c cs ih =>
      intro ds h
      cases ds with
      | nil => simp [NAs] at h
      | cons d ds =>
        simp only [List.map_cons, NAs] at h
        obtain ⟨h1, h2⟩ := ih h.2
        refine ⟨by simp [h1], fun i c' d' hc hd => ?_⟩
        cases i with
        | zero => simp at hc hd; subst hc; subst hd; exact h.1
        | succ i => exact h2 i c' d' (by simpa using hc) (by simpa using hd)
  obtain ⟨h1, h2⟩ := key h
  cases hy with
  | agg _ xs g1 g2 =>
    refine .d _ _ (.agg _ _ (by omega) fun i d x hd hx => ?_)
    have hi : i < cs.length := by rw [h1]; exact (List.getElem?_eq_some_iff.1 hd).1
    exact vr_data (h2 i cs[i] d (List.getElem?_eq_getElem hi) hd B g w a hr x (g2 i _ x (List.getElem?_eq_getElem hi) hx))
theorem na_fn {f : Nat} {caps caps' : List AV} (h : NAs E σ caps caps') : NA E σ (.fn f caps) (.fn f caps') := fun B g w a hr y hy => by
  have key : ∀ {cs ds : List AV}, NAs E σ cs ds → cs.length = ds.length ∧ ∀ (i : Nat) c d, cs[i]? = some c → ds[i]? = some d → NA E σ c d := by
    intro cs
    induction cs with
    | nil => intro ds h; cases ds <;> simp_all [NAs]
    | cons c cs ih =>
      intro ds h
      cases ds with
      | nil => simp [NAs] at h
      | cons d ds =>
        simp only [NAs] at h
        obtain ⟨h1, h2⟩ := ih h.2
        refine ⟨by simp [h1], fun i c' d' hc hd => ?_⟩
        cases i with
        | zero => simp at hc hd; subst hc; subst hd; exact h.1
        | succ i => exact h2 i c' d' (by simpa using hc) (by simpa using hd)
  obtain ⟨h1, h2⟩ := key h
  cases hy with
  | fn _ _ xs g1 g2 =>
    refine .fn _ _ _ (by omega) fun i d x hd hx => ?_
    have hi : i < caps.length := by rw [h1]; exact (List.getElem?_eq_some_iff.1 hd).1
    exact h2 i caps[i] d (List.getElem?_eq_getElem hi) hd B g w a hr x (g2 i _ x (List.getElem?_eq_getElem hi) hx)
/-- A pointer to an object of data, handed to one that only reads. -/
theorem na_p {l off : Nat} {ds : List D} (hl : σ.h l = .cells (ds.map .d)) : NA E σ (.p l 0 off) (.dp ds off) := fun B g w a hr y hy => by
  cases hy with
  | p _ _ _ _ h0 h1 h2 h3 =>
    have hor := hr.hr.hp l h1
    rw [hl] at hor
    obtain ⟨f1, f2, xs, t, f3, f4, f5⟩ := hor
    have hlt := (Array.getElem?_eq_some_iff.1 f3).1
    rw [h3 f1]
    have := VR.dp (w := w) (g := g.callee w) (nx := 0) ds off (g.ρ l) 0 (fun i => xs.getD i undef) hlt (fun i c hc => ?_) (fun i c hc => ?_)
    · simpa using this
    · have hi : i < xs.size := by rw [f4]; simp; exact (List.getElem?_eq_some_iff.1 hc).1
      simp [World.cell?, f3, hi]
    · have hi : i < xs.size := by rw [f4]; simp; exact (List.getElem?_eq_some_iff.1 hc).1
      have := vr_data (f5 i (.d c) xs[i] (by simp [hc]) (Array.getElem?_eq_getElem hi))
      have e : xs.getD i undef = xs[i] := by simp [hi]
      show DR w g.I _ c (xs.getD i undef)
      rw [e]; exact this.mono (fun _ h => h) (fun b hb => hr.hr.Jlt b hb) (fun _ _ => rfl)
/-- A growing row, lent to one that only reads. -/
theorem na_own {l k e sz off n : Nat} {rows : List (List D)} (hl : σ.h l = .arr k e sz (rows.map (·.map .d))) (hn : off + n ≤ rows.length) : NA E σ (.own l k sz off n) (.d (.sl false ((rows.drop off).take n))) := fun B g w a hr y hy => by
  cases hy with
  | own _ _ _ _ _ _ h0 h1 h2 h3 =>
    have hor := hr.hr.hp l h1
    rw [hl] at hor
    obtain ⟨f1, f2, f3, f4, xs, f5, f6⟩ := hor
    have hown := h3 f1
    by_cases hn0 : n = 0
    · subst hn0
      have : ∃ b c, y = .slice b 0 c := by
        unfold OwnV at hown
        split at hown
        · exact ⟨_, _, hown⟩
        · obtain ⟨b, c, h, _⟩ := hown; exact ⟨b, c, h⟩
      obtain ⟨b, c, rfl⟩ := this
      rw [List.take_zero]; exact .d _ _ (.nil _ _ _)
    · have hvt : g.vt l = false := by
        cases hv : g.vt l with
        | false => rfl
        | true => obtain ⟨h, _⟩ := f4 hv; simp at h; subst h; simp at hn; omega
      obtain ⟨a1, a2, a3, cur, a4, a5, a6⟩ := owns_block hvt f5
      have hlt := (Array.getElem?_eq_some_iff.1 a4).1
      have : ∃ c, y = .slice (some ⟨g.ρ l, off * sz, none⟩) n c ∧ n ≤ c := by
        unfold OwnV at hown
        split at hown
        · rename_i h; subst h; exact ⟨g.cap l, by simp [hown, handle, hvt], by simp at a2; omega⟩
        · obtain ⟨b, c, h, hnc, h'⟩ := hown; exact ⟨c, by rw [h, h' (by omega)], hnc⟩
      obtain ⟨c, rfl, hnc⟩ := this
      have hrl : ∀ r ∈ rows, r.length = sz := fun r hr' => by simpa using f3 (r.map .d) (List.mem_map_of_mem hr')
      have hlen : ((rows.drop off).take n).length = n := by simp; omega
      have hfl := flat_length hrl
      have hsub : ∀ (i : Nat) c, ((rows.drop off).take n).flatten[i]? = some c → rows.flatten[off * sz + i]? = some c := by
        intro i c hc
        have h4 : rows.flatten = (rows.take off).flatten ++ ((rows.drop off).take n).flatten ++ ((rows.drop off).drop n).flatten := by
          rw [← List.flatten_append, ← List.flatten_append, List.append_assoc, List.take_append_drop, List.take_append_drop]
        have h5 : (rows.take off).flatten.length = off * sz := by
          rw [flat_length (n := sz) (fun r hr' => hrl r (List.mem_of_mem_take hr')), List.length_take, Nat.min_eq_left (by omega)]
        rw [h4, List.append_assoc, List.getElem?_append_right (by omega), h5, show off * sz + i - off * sz = i by omega, List.getElem?_append_left (List.getElem?_eq_some_iff.1 hc).1]
        exact hc
      have get : ∀ (i : Nat) c, rows.flatten[i]? = some c → cur[i]? = some (cur.getD i undef) ∧ DR w g.I g.J c (cur.getD i undef) := by
        intro i c hc
        have hi : i < rows.length * sz := by rw [← hfl]; exact (List.getElem?_eq_some_iff.1 hc).1
        have hi2 : i < cur.size := by
          have : rows.length * sz ≤ cur.size := by rw [a5]; exact Nat.mul_le_mul_right sz (by simpa using a2)
          omega
        have e : cur.getD i undef = cur[i] := by simp [hi2]
        refine ⟨by rw [e]; exact Array.getElem?_eq_getElem hi2, vr_data (f6 i (.d c) _ ?_ ?_)⟩
        · show (rows.map (List.map AV.d)).flatten[i]? = _
          rw [← List.map_flatten, List.getElem?_map, hc]; rfl
        · rw [← a6, List.getElem?_take_of_lt (by simpa using hi), Array.getElem?_toList, e]; exact Array.getElem?_eq_getElem hi2
      have hres := DR.sl (w := w) (I := g.I) (J := fun b => b < w.heap.size) false ((rows.drop off).take n) (g.ρ l) (off * sz) c (fun i => cur.getD (off * sz + i) undef) (by simp) hlt (by rw [hlen]; simp at f2; exact ⟨by omega, hnc⟩)
        (fun i c hc => by
          have := (get _ c (hsub i c hc)).1
          simp only [World.cell?, a4, Option.isSome_none, Bool.false_eq_true, if_false]; exact this)
        (fun i c hc => ((get _ c (hsub i c hc)).2).mono (fun _ h => h) (fun b hb => hr.hr.Jlt b hb) (fun _ _ => rfl))
      rw [hlen] at hres
      exact .d _ _ hres

theorem nas_get : ∀ {cs ds : List AV}, NAs E σ cs ds → cs.length = ds.length ∧ ∀ (i : Nat) c d, cs[i]? = some c → ds[i]? = some d → NA E σ c d := by
  intro cs
  induction cs with
  | nil => intro ds h; cases ds <;> simp_all [NAs]
  | cons c cs ih =>
    intro ds h
    cases ds with
    | nil => simp [NAs] at h
    | cons d ds =>
      simp only [NAs] at h
      obtain ⟨h1, h2⟩ := ih h.2
      refine ⟨by simp [h1], fun i c' d' hc hd => ?_⟩
      cases i with
      | zero => simp at hc hd; subst hc; subst hd; exact h.1
      | succ i => exact h2 i c' d' (by simpa using hc) (by simpa using hd)

/-- A loc-free value means the same whatever objects there are. -/
theorem vr_free {w : World} {g g' : G} {nx : Nat} (hI : ∀ b, g.I b → g'.I b) (hJ : ∀ b, g.J b → g'.J b) {c : AV} {x : Value} (h : VR w g 0 c x) : VR w g' nx c x :=
  h.mono ⟨hI, hJ, fun _ h => by omega, fun _ h => by omega⟩ (Nat.zero_le _) (fun _ _ => rfl)

theorem st_call {q : Md} [Qt q] {fo : Operand} {ar : Array Operand} {ts : Array TypeId} (ho : o.op = .call { callee := .value fo, args := ar, argTypes := ts }) {f : FuncId} {caps : List AV} (hf : ev E σ fo = .fn f caps)
    {args : List AV} {r : AV} (hp : Pure E f args r) (ha : NAs E σ (ar.toList.map (ev E σ) ++ caps) args) (hd : dlt o.dst σ.n = true) (hK : K (σ.put o.dst r)) : Step q E B o K Q σ := by
  refine step_q r (fun B g w a hr next Q' hn => ?_) hd hK
  have hfo := ev_ok hr fo
  rw [hf] at hfo
  generalize hfx : a.eval fo = fx at hfo
  cases hfo with
  | fn _ _ xs h1 h2 =>
    have hexec : (execOp a.eval o).run E.P w = .ok (.enter f (ar.map a.eval ++ xs)) w := by
      simp only [execOp, ho, resolve, hfx, Deferred.ofValue, Sem.run_bind, Sem.run_pure, Result.andThen_ok, invoke, Array.empty_append]
      exact hp.1 _ _
    obtain ⟨hl, hget⟩ := nas_get ha
    have hc := hp.2 w (g.callee w) (ar.map a.eval ++ xs) (callee_hr hr.hr) (by rw [← hl]; simp [h1]) (fun i c x hc hx => by
      have hi : i < (ar.toList.map (ev E σ) ++ caps).length := by rw [hl]; exact (List.getElem?_eq_some_iff.1 hc).1
      refine hget i _ c (List.getElem?_eq_getElem hi) hc B g w a hr x ?_
      by_cases his : i < ar.size
      · have e1 : (ar.toList.map (ev E σ) ++ caps)[i] = ev E σ ar[i] := by
          rw [List.getElem_append_left (by simpa using his)]; simp
        have e2 : x = a.eval ar[i] := by
          rw [Array.getElem?_append_left (by simpa using his)] at hx
          simp [his] at hx; exact hx.symm
        rw [e1, e2]; exact ev_ok hr _
      · have hi2 : i - ar.size < caps.length := by simp at hi; omega
        have e1 : (ar.toList.map (ev E σ) ++ caps)[i]? = caps[i - ar.size]? := by
          rw [List.getElem?_append_right (by simpa using his)]; simp
        rw [Array.getElem?_append_right (by simpa using his)] at hx
        refine h2 (i - ar.size) _ x ?_ (by simpa using hx)
        rw [← e1]; exact List.getElem?_eq_getElem hi)
    unfold Oper.wp
    rw [hexec, Oper.upon_enter]
    refine hc.mono ?_
    rintro e w' ⟨v, rfl, hv, hb⟩
    exact hn w' v hb (vr_free (g := (g.callee w).res w w') (g' := g.ext w w') (fun _ h => h) (fun _ h => .inr h) hv)

/-! ### Bodies -/
def argsT : List AV → Nat → Nat → AV
  | [], _ => fun _ => .any
  | v :: vs, k => upd (argsT vs (k + 1)) k v
def initSt (args : List AV) (n : Nat) : St := { t := argsT args 0, n := n, h := fun _ => .dead, nx := 0 }

theorem argsT_get : ∀ (vs : List AV) (k i : Nat), argsT vs k i = if k ≤ i then vs.getD (i - k) .any else .any
  | [], k, i => by simp [argsT]
  | v :: vs, k, i => by
    simp only [argsT, upd]
    split
    · rename_i h; subst h; simp
    · rename_i h
      rw [argsT_get vs (k + 1) i]
      by_cases h1 : k ≤ i
      · rw [if_pos h1, if_pos (by omega), show i - k = (i - (k + 1)) + 1 by omega]; simp
      · rw [if_neg h1, if_neg (by omega)]

/-- A value that is handed back, as the caller sees it. -/
def RA (E : Env) (σ : St) (v v' : AV) : Prop := ∀ B g w a, B.nx = 0 → Rel E B g σ w a → ∀ x, VR w g σ.nx v x → VR w (B.g.res B.w w) 0 v' x

/-- Data without what was but lent. -/
def Keeps (x : D) : Prop := ∀ (w : World) (I J : Nat → Prop) y, (∀ b, I b → J b) → DR w I J x y → DR w I I x y

theorem keeps_v (x : Value) : Keeps (.v x) := fun w I J y _ h => by cases h; exact .v _
theorem keeps_agg {cs : List D} (h : ∀ c ∈ cs, Keeps c) : Keeps (.agg cs) := fun w I J y hIJ hd => by
  cases hd with
  | agg _ xs h1 h2 => exact .agg _ _ h1 fun i c x hc hx => h c (List.mem_of_getElem? hc) w I J x hIJ (h2 i c x hc hx)
theorem keeps_map (es : List (Value × Value)) : Keeps (.map es) := fun w I J y hIJ hd => by
  cases hd with
  | map _ b ms clock h1 h2 h3 h4 h5 => exact .map es b ms clock h1 h1 h3 h4 h5
theorem keeps_nil (s : Bool) : Keeps (.sl s []) := fun w I J y _ hd => by
  cases hd with
  | nil => exact .nil _ _ _
  | sl _ _ b off c f _ _ _ _ _ => exact .nil _ _ _
theorem keeps_sl {es : List (List D)} (h : ∀ r ∈ es, ∀ c ∈ r, Keeps c) : Keeps (.sl true es) := fun w I J y hIJ hd => by
  cases hd with
  | nil => exact .nil _ _ _
  | sl _ _ b off c f h1 h2 h3 h4 h5 =>
    refine .sl true es b off c f h1 (h1 rfl) h3 h4 fun i c hc => ?_
    obtain ⟨r, hr, hcr⟩ := List.mem_flatten.1 (List.mem_of_getElem? hc)
    exact h r hr c hcr w I J _ hIJ (h5 i c hc)

theorem res_I {g : G} {w : World} {a : Act} (hB : B.nx = 0) (hr : Rel E B g σ w a) {b : Nat} (h : g.I b) : resI B.g.I B.w w b := by
  have hlt := hr.hr.Jlt b (hr.hr.IJ b h)
  rcases hr.ext.inew b h with h | ⟨l, hl, _⟩ | h
  · exact .inl h
  · omega
  · exact .inr ⟨h, hlt⟩

theorem ra_d {x : D} (h : Keeps x) : RA E σ (.d x) (.d x) := fun B g w a hB hr y hy =>
  .d _ _ ((h w g.I g.J y hr.hr.IJ (vr_data hy)).mono (fun b hb => res_I hB hr hb) (fun b hb => res_I hB hr hb) (fun _ _ => rfl))
/-- A map of plain values, handed over. -/
theorem ra_map {l : Nat} {es : List (Value × Value)} (hl : σ.h l = .map (es.map fun p => (p.1, .d (.v p.2)))) : RA E σ (.map l) (.d (.map es)) := fun B g w a hB hr y hy => by
  cases hy with
  | map _ _ g0 g1 g2 =>
    have hor := hr.hr.hp l g1
    rw [hl] at hor
    obtain ⟨f1, f2, ms, clock, f3, f4, f5⟩ := hor
    rw [g2 f1]
    have hb : resI B.g.I B.w w (g.ρ l) := by
      have hlt := (Array.getElem?_eq_some_iff.1 f3).1
      rcases hr.ext.own (g.ρ l) ⟨l, g1, by rw [hl]; simp, f2, rfl⟩ with ⟨l', h, _⟩ | h
      · omega
      · exact .inr ⟨h, hlt⟩
    refine .d _ _ (.map es (g.ρ l) ms clock hb hb f3 (by simpa using f4) fun i e m he hm => ?_)
    obtain ⟨h1, h2⟩ := f5 i (e.1, .d (.v e.2)) m (by simp [he]) hm
    exact ⟨h1, vr_val h2⟩
theorem ra_nil : RA E σ (.d (.v (.slice none 0 0))) (.d (.sl true [])) := fun B g w a hB hr y h => by rw [vr_val h]; exact .d _ _ (.nil _ _ _)

def RAs (E : Env) (σ : St) : List AV → List AV → Prop
  | [], [] => True
  | v :: vs, v' :: vs' => RA E σ v v' ∧ RAs E σ vs vs'
  | _, _ => False
theorem ras_get : ∀ {cs ds : List AV}, RAs E σ cs ds → cs.length = ds.length ∧ ∀ (i : Nat) c d, cs[i]? = some c → ds[i]? = some d → RA E σ c d := by
  intro cs
  induction cs with
  | nil => intro ds h; cases ds <;> simp_all [RAs]
  | cons c cs ih =>
    intro ds h
    cases ds with
    | nil => simp [RAs] at h
    | cons d ds =>
      simp only [RAs] at h
      obtain ⟨h1, h2⟩ := ih h.2
      refine ⟨by simp [h1], fun i c' d' hc hd => ?_⟩
      cases i with
      | zero => simp at hc hd; subst hc; subst hd; exact h.1
      | succ i => exact h2 i c' d' (by simpa using hc) (by simpa using hd)
theorem ra_agg {cs : List AV} {ds : List D} (h : RAs E σ cs (ds.map .d)) : RA E σ (.agg cs) (.d (.agg ds)) := fun B g w a hB hr y hy => by
  obtain ⟨h1, h2⟩ := ras_get h
  cases hy with
  | agg _ xs g1 g2 =>
    refine .d _ _ (.agg _ _ (by simp at h1; omega) fun i d x hd hx => ?_)
    have hi : i < cs.length := by rw [h1]; simp; exact (List.getElem?_eq_some_iff.1 hd).1
    exact vr_data (h2 i cs[i] (.d d) (List.getElem?_eq_getElem hi) (by simp [hd]) B g w a hB hr x (g2 i _ x (List.getElem?_eq_getElem hi) hx))

/-- A result that lies in a cell. -/
def RC (E : Env) (σ : St) (t : Nat) (ty : TypeId) (r : AV) : Prop :=
  ∃ cs s b, at_ σ.h (σ.t t) = some cs ∧ (E.P.info? ty).map (·.size) = some s ∧ aggT E.P ty = some b ∧ s ≤ cs.length ∧ (b = true ∨ 0 < s) ∧ RA E σ (if b = true then mkAgg (cs.take s) else cs.headD .any) r

theorem rc_run {t : Nat} {ty : TypeId} {r : AV} (h : RC E σ t ty r) {g : G} {w : World} {a : Act} (hB : B.nx = 0) (hr : Rel E B g σ w a) :
    ∃ p v, a.tmps.getD t undef = .pointer (some p) ∧ (loadVar ty p).run E.P w = .ok v w ∧ VR w (B.g.res B.w w) 0 r v := by
  obtain ⟨cs, s, b, hc, hs, hb, hl', h1, hra⟩ := h
  obtain ⟨b', p, f, hx, hf⟩ := at_ok hr hc (hr.tm t)
  cases b with
  | true =>
    refine ⟨_, .agg ((List.range s).map f).toArray, hx, ?_, hra B g w a hB hr _ ?_⟩
    · have hcells : (loadCells ⟨b', p, none⟩ s).run E.P w = .ok ((List.range s).map f).toArray w := run_loadCells w _ s f fun j hj => by
        rw [add_mk]
        exact (hf j cs[j] (List.getElem?_eq_getElem (by omega))).1
      simp only [Sem.run_bind, Sem.run_pure, Result.andThen_ok, loadVar, run_isAgg hb, if_true, run_sizeOf hs, hcells]
    · simp only [if_true]
      refine vr_mkAgg (by simp; omega) fun i c y hi hy => ?_
      by_cases his : i < s
      · rw [List.getElem?_take_of_lt his] at hi
        have : y = f i := by simp [his] at hy; exact hy.symm
        rw [this]; exact (hf i c hi).2
      · simp [List.getElem?_take, his] at hi
  | false =>
    have hs0 : 0 < s := by rcases h1 with h | h; cases h; exact h
    cases cs with
    | nil => simp at hl'; omega
    | cons c0 cs =>
      obtain ⟨h1, h2⟩ := hf 0 c0 rfl
      refine ⟨_, f 0, hx, ?_, hra B g w a hB hr _ (by simpa using h2)⟩
      simp only [Nat.add_zero] at h1
      simp only [Sem.run_bind, Sem.run_pure, Result.andThen_ok, loadVar, run_isAgg hb, Bool.false_eq_true, if_false, run_load, h1]

/-- What the function's results are. -/
def ResOk (E : Env) (fn : Func) (σ : St) (r : AV) : Prop :=
  (∃ t, fn.results = #[.tmp t] ∧ RA E σ (σ.t t) r) ∨
  (∃ t u r1 r2, fn.results = #[.tmp t, .tmp u] ∧ r = .tup [r1, r2] ∧ RA E σ (σ.t t) r1 ∧ RA E σ (σ.t u) r2) ∨
  (∃ t u v r1 r2 r3, fn.results = #[.tmp t, .tmp u, .tmp v] ∧ r = .tup [r1, r2, r3] ∧ RA E σ (σ.t t) r1 ∧ RA E σ (σ.t u) r2 ∧ RA E σ (σ.t v) r3) ∨
  (fn.results = #[] ∧ r = .tup []) ∨
  (∃ t ty, fn.results = #[.cell t ty] ∧ RC E σ t ty r) ∨
  (∃ t ty u r1 r2, fn.results = #[.cell t ty, .tmp u] ∧ r = .tup [r1, r2] ∧ RC E σ t ty r1 ∧ RA E σ (σ.t u) r2) ∨
  (∃ t ty u uy r1 r2, fn.results = #[.cell t ty, .cell u uy] ∧ r = .tup [r1, r2] ∧ RC E σ t ty r1 ∧ RC E σ u uy r2)

theorem resOk_run {fn : Func} {r : AV} (h : ResOk E fn σ r) {g : G} {w : World} {a : Act} (hB : B.nx = 0) (hr : Rel E B g σ w a) : ∃ v, (results fn a.tmps).run E.P w = .ok v w ∧ VR w (B.g.res B.w w) 0 r v := by
  rcases h with ⟨t, h1, h2⟩ | ⟨t, u, r1, r2, h1, rfl, h2, h3⟩ | ⟨t, u, v, r1, r2, r3, h1, rfl, h2, h3, h4⟩ | ⟨h1, rfl⟩ | ⟨t, ty, h1, h2⟩ | ⟨t, ty, u, r1, r2, h1, rfl, h2, h3⟩ | ⟨t, ty, u, uy, r1, r2, h1, rfl, h2, h3⟩
  · exact ⟨_, results_tmp h1 _ _ _, h2 B g w a hB hr _ (hr.tm t)⟩
  · refine ⟨_, results_tmp2 h1 _ _ _, .tup _ _ rfl fun i c x hc hx => ?_⟩
    match i with
    | 0 => simp at hc hx; subst hc; subst hx; exact h2 B g w a hB hr _ (by simpa [Array.getD_eq_getD_getElem?] using hr.tm t)
    | 1 => simp at hc hx; subst hc; subst hx; exact h3 B g w a hB hr _ (by simpa [Array.getD_eq_getD_getElem?] using hr.tm u)
    | i + 2 => simp at hc
  · refine ⟨_, results_tmp3 h1 _ _ _, .tup _ _ rfl fun i c x hc hx => ?_⟩
    match i with
    | 0 => simp at hc hx; subst hc; subst hx; exact h2 B g w a hB hr _ (by simpa [Array.getD_eq_getD_getElem?] using hr.tm t)
    | 1 => simp at hc hx; subst hc; subst hx; exact h3 B g w a hB hr _ (by simpa [Array.getD_eq_getD_getElem?] using hr.tm u)
    | 2 => simp at hc hx; subst hc; subst hx; exact h4 B g w a hB hr _ (by simpa [Array.getD_eq_getD_getElem?] using hr.tm v)
    | i + 3 => simp at hc
  · exact ⟨_, results_none h1 _ _ _, .tup _ _ rfl fun i c x hc => by simp at hc⟩
  · obtain ⟨p, v, e1, e2, e3⟩ := rc_run h2 hB hr
    exact ⟨v, by simp [results, h1, ← Array.getD_eq_getD_getElem?, e1, asAddr, e2], e3⟩
  · obtain ⟨p, v, e1, e2, e3⟩ := rc_run h2 hB hr
    refine ⟨.tuple #[v, a.tmps.getD u undef], by simp [results, h1, ← Array.getD_eq_getD_getElem?, e1, asAddr, e2], .tup _ _ rfl fun i c x hc hx => ?_⟩
    match i with
    | 0 => simp at hc hx; subst hc; subst hx; exact e3
    | 1 => simp at hc hx; subst hc; subst hx; exact h3 B g w a hB hr _ (by simpa [Array.getD_eq_getD_getElem?] using hr.tm u)
    | i + 2 => simp at hc
  · obtain ⟨p, v, e1, e2, e3⟩ := rc_run h2 hB hr
    obtain ⟨p', v', e1', e2', e3'⟩ := rc_run h3 hB hr
    refine ⟨.tuple #[v, v'], by simp [results, h1, ← Array.getD_eq_getD_getElem?, e1, asAddr, e2, e1', e2'], .tup _ _ rfl fun i c x hc hx => ?_⟩
    match i with
    | 0 => simp at hc hx; subst hc; subst hx; exact e3
    | 1 => simp at hc hx; subst hc; subst hx; exact e3'
    | i + 2 => simp at hc

def Fin (E : Env) (fn : Func) (r : AV) : Exit → St → Prop := fun e σ => (e = .ret ∨ e = .normal) ∧ ResOk E fn σ r

theorem pure_of_body {f : FuncId} {fn : Func} {c : Code} (hf : E.P.funcs[f]? = some fn) (hname : (fn.name == "runtime.NumGoroutine") = false) (hb : fn.body = some c) {args : List AV} {r : AV} (hn' : decide (args.length ≤ fn.ntmps) = true)
    (h : ∀ B : Base, B.nx = 0 → SWP E B c (Fin E fn r) (initSt args fn.ntmps)) : Pure E f args r := by
  have hn : args.length ≤ fn.ntmps := by simpa using hn'
  refine ⟨enters_of hf hname hb, fun w g vs hr hs hv => ?_⟩
  let B : Base := ⟨w, g, 0, fun _ => .dead⟩
  have hrel : Rel E B g (initSt args fn.ntmps) w { tmps := vs ++ Array.replicate (fn.ntmps - vs.size) undef, defers := [] } := by
    refine ⟨by simp [initSt]; omega, fun i => ?_, hr, ⟨rfl, rfl, rfl, Nat.le_refl _, fun _ _ _ => rfl, GLe.refl _ _, Nat.le_refl _, fun b h => .inl h, fun b h => .inl h⟩, rfl⟩
    simp only [initSt, argsT_get, Nat.zero_le, if_true, Nat.sub_zero]
    by_cases hi : i < args.length
    · have h1 : args.getD i .any = args[i] := by simp [List.getD, hi]
      have h2 : (vs ++ Array.replicate (fn.ntmps - vs.size) undef).getD i undef = vs[i]'(by omega) := by
        rw [Array.getD_eq_getD_getElem?, Array.getElem?_append_left (by omega), Array.getElem?_eq_getElem (by omega)]; rfl
      rw [h1, h2]
      exact hv i _ _ (List.getElem?_eq_getElem hi) (Array.getElem?_eq_getElem (by omega))
    · have : args.getD i .any = .any := by simp [List.getD, List.getElem?_eq_none (Nat.le_of_not_lt hi)]
      rw [this]; exact .any _
  refine calls_of_wp hf hb (wp_mono (h B rfl g w _ hrel) ?_)
  rintro e a' w' ⟨g', σ', hr', he, hres⟩
  obtain ⟨v, hrun, hvr⟩ := resOk_run hres rfl hr'
  have hbel : Below w.heap.size w w' := ⟨hr'.ext.os, hr'.ext.tape, hr'.ext.output, hr'.ext.size, fun k hk => hr'.ext.block k hk (fun ⟨l, hl, _⟩ => Nat.not_lt_zero _ hl)⟩
  rcases he with rfl | rfl
  · exact ⟨hr'.df, v, hrun, v, rfl, hvr, hbel⟩
  · exact ⟨hr'.df, v, hrun, v, rfl, hvr, hbel⟩
end
end Go.Proofs.YtdcpnpcmgfmenaaDoor.Lg
