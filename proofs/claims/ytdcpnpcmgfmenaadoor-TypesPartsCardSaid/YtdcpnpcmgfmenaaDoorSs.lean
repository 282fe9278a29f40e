/-
  Rows of one's own, handed back: as data, or as rows that the caller may go on with. Conditions: none.
-/
import Derived.Test.YtdcpnpcmgfmenaaDoorSr
import Derived.Laws.Cover3
set_option linter.unusedVariables false
set_option linter.unusedSimpArgs false
namespace Go.Proofs.YtdcpnpcmgfmenaaDoor.Lg
open Go Go.RowKit

section
variable {E : Env} {B : Base} {Q : Exit → St → Prop} {σ : St} {fn : Func}

theorem ra_own {l k e sz off n : Nat} {rows : List (List D)} (hl : σ.h l = .arr k e sz (rows.map (·.map .d))) (hn : off + n ≤ rows.length) (hk : ∀ r ∈ rows, ∀ c ∈ r, Keeps c) : RA E σ (.own l k sz off n) (.d (.sl true ((rows.drop off).take n))) := fun B g w a hB hr y hy => by
  cases hy with
  | own _ _ _ _ _ _ h0 h1 h2 h3 =>
    have hor := hr.hr.hp l h1
    rw [hl] at hor
    obtain ⟨f1, f2, f3, f4, xs, f5, f6⟩ := hor
    have hown := h3 f1
    by_cases hn0 : n = 0
    · subst hn0
      have : ∃ b c, y = .slice b 0 c := by
        unfold OwnV at hown
        split at hown
        · exact ⟨_, _, hown⟩
        · obtain ⟨b, c, h, _⟩ := hown; exact ⟨b, c, h⟩
      obtain ⟨b, c, rfl⟩ := this
      rw [List.take_zero]; exact .d _ _ (.nil _ _ _)
    · have hvt : g.vt l = false := by
        cases hv : g.vt l with
        | false => rfl
        | true => obtain ⟨h, _⟩ := f4 hv; simp at h; subst h; simp at hn; omega
      obtain ⟨a1, a2, a3, cur, a4, a5, a6⟩ := owns_block hvt f5
      have hlt := (Array.getElem?_eq_some_iff.1 a4).1
      have : ∃ c, y = .slice (some ⟨g.ρ l, off * sz, none⟩) n c ∧ n ≤ c := by
        unfold OwnV at hown
        split at hown
        · rename_i h; subst h; exact ⟨g.cap l, by simp [hown, handle, hvt], by simp at a2; omega⟩
        · obtain ⟨b, c, h, hnc, h'⟩ := hown; exact ⟨c, by rw [h, h' (by omega)], hnc⟩
      obtain ⟨c, rfl, hnc⟩ := this
      have hrl : ∀ r ∈ rows, r.length = sz := fun r hr' => by simpa using f3 (r.map .d) (List.mem_map_of_mem hr')
      have hlen : ((rows.drop off).take n).length = n := by simp; omega
      have hfl := flat_length hrl
      have hsub : ∀ (i : Nat) c, ((rows.drop off).take n).flatten[i]? = some c → rows.flatten[off * sz + i]? = some c := by
        intro i c hc
        have h4 : rows.flatten = (rows.take off).flatten ++ ((rows.drop off).take n).flatten ++ ((rows.drop off).drop n).flatten := by
          rw [← List.flatten_append, ← List.flatten_append, List.append_assoc, List.take_append_drop, List.take_append_drop]
        have h5 : (rows.take off).flatten.length = off * sz := by
          rw [flat_length (n := sz) (fun r hr' => hrl r (List.mem_of_mem_take hr')), List.length_take, Nat.min_eq_left (by omega)]
        rw [h4, List.append_assoc, List.getElem?_append_right (by omega), h5, show off * sz + i - off * sz = i by omega, List.getElem?_append_left (List.getElem?_eq_some_iff.1 hc).1]
        exact hc
      have hres : resI B.g.I B.w w (g.ρ l) := by
        rcases hr.ext.own (g.ρ l) ⟨l, h1, by rw [hl]; simp, hvt, rfl⟩ with ⟨l', h, _⟩ | h
        · omega
        · exact .inr ⟨h, hlt⟩
      have get : ∀ (i : Nat) c, rows.flatten[i]? = some c → cur[i]? = some (cur.getD i undef) ∧ DR w (resI B.g.I B.w w) (resI B.g.I B.w w) c (cur.getD i undef) := by
        intro i c hc
        have hi : i < rows.length * sz := by rw [← hfl]; exact (List.getElem?_eq_some_iff.1 hc).1
        have hi2 : i < cur.size := by
          have : rows.length * sz ≤ cur.size := by rw [a5]; exact Nat.mul_le_mul_right sz (by simpa using a2)
          omega
        have e : cur.getD i undef = cur[i] := by simp [hi2]
        refine ⟨by rw [e]; exact Array.getElem?_eq_getElem hi2, ?_⟩
        have hd := vr_data (f6 i (.d c) (cur.getD i undef) (by
          show (rows.map (List.map AV.d)).flatten[i]? = _
          rw [← List.map_flatten, List.getElem?_map, hc]; rfl) (by
          rw [← a6, List.getElem?_take_of_lt (by simpa using hi), Array.getElem?_toList, e]; exact Array.getElem?_eq_getElem hi2))
        obtain ⟨r, hrm, hcr⟩ := List.mem_flatten.1 (List.mem_of_getElem? hc)
        exact (hk r hrm c hcr w g.I g.J _ hr.hr.IJ hd).mono (fun b hb => res_I hB hr hb) (fun b hb => res_I hB hr hb) (fun _ _ => rfl)
      have hfin := DR.sl (w := w) (I := resI B.g.I B.w w) (J := resI B.g.I B.w w) true ((rows.drop off).take n) (g.ρ l) (off * sz) c (fun i => cur.getD (off * sz + i) undef) (fun _ => hres) hres (by rw [hlen]; simp at f2; exact ⟨by omega, hnc⟩)
        (fun i c hc => by
          have := (get _ c (hsub i c hc)).1
          simp only [World.cell?, a4, Option.isSome_none, Bool.false_eq_true, if_false]; exact this)
        (fun i c hc => (get _ c (hsub i c hc)).2)
      rw [hlen] at hfin
      exact .d _ _ hfin
theorem ra_row {l k e sz : Nat} {rows : List (List D)} {n : Nat} (hl : σ.h l = .arr k e sz (rows.map (·.map .d))) (hn : n = rows.length) (hk : ∀ r ∈ rows, ∀ c ∈ r, Keeps c) : RA E σ (.own l k sz 0 n) (.d (.sl true rows)) := by
  have := ra_own (E := E) (σ := σ) (off := 0) (n := n) hl (by omega) hk
  rw [List.drop_zero, hn, List.take_length] at this
  rw [hn]; exact this

/-! ### A row for the caller to go on with -/
def G.resO (g : G) (w w' : World) (b c : Nat) (v : Bool) : G :=
  { g.at 0 b c v with I := fun x => g.I x ∨ (w.heap.size ≤ x ∧ x < w'.heap.size ∧ x ≠ b), J := fun x => g.I x ∨ (w.heap.size ≤ x ∧ x < w'.heap.size ∧ x ≠ b) }

def PureO (E : Env) (f : FuncId) (args : List AV) (e sz : Nat) (rows : List (List D)) : Prop :=
  Enters E.P f ∧ ∀ w g (vs : Array Value), HRel E w g 0 (fun _ => .dead) → vs.size = args.length → (∀ (i : Nat) c x, args[i]? = some c → vs[i]? = some x → VR w g 0 c x) →
    Calls E.P f vs w fun en w' => ∃ b c v, en = .returned (handle (g.resO w w' b c v) 0 rows.length) ∧ Below w.heap.size w w' ∧ (v = true ∨ (w.heap.size ≤ b ∧ b < w'.heap.size)) ∧
      OR w' (g.resO w w' b c v) 1 0 (.arr 0 e sz (rows.map (·.map .d)))

theorem or_move {w : World} {g g' : G} {l l' nx nx' k k' e sz : Nat} {rows : List (List D)} (h1 : g'.ρ l' = g.ρ l) (h2 : g'.cap l' = g.cap l) (h3 : g'.vt l' = g.vt l) (hκ : g'.κ l' = k')
    (hc : ∀ (c : D) (x : Value), (∃ r ∈ rows, c ∈ r) → DR w g.I g.J c x → DR w g'.I g'.J c x)
    (h : OR w g nx l (.arr k e sz (rows.map (·.map .d)))) : OR w g' nx' l' (.arr k' e sz (rows.map (·.map .d))) := by
  obtain ⟨f1, f2, f3, f4, xs, f5, f6⟩ := h
  have hh : ∀ n, handle g' l' n = handle g l n := fun n => by unfold handle; rw [h1, h2, h3]
  refine ⟨hκ, f2, f3, by rw [h3, h2]; exact f4, xs, by rw [hh]; exact f5, fun i c x hc' hx => ?_⟩
  have := f6 i c x hc' hx
  have hm : c ∈ (rows.map (List.map AV.d)).flatten := List.mem_of_getElem? hc'
  rw [← List.map_flatten] at hm
  obtain ⟨d, hd, rfl⟩ := List.mem_map.1 hm
  exact .d _ _ (hc d x (by obtain ⟨r, h1, h2⟩ := List.mem_flatten.1 hd; exact ⟨r, h1, h2⟩) (vr_data this))

theorem st_callO {q : Md} [Nw q] {o : Oper} {K : St → Prop} {fo : Operand} {ar : Array Operand} {ts : Array TypeId} (ho : o.op = .call { callee := .value fo, args := ar, argTypes := ts }) {f : FuncId} {caps : List AV} (hf : ev E σ fo = .fn f caps)
    {args : List AV} {e sz : Nat} {rows : List (List D)} (hp : PureO E f args e sz rows) (ha : NAs E σ (ar.toList.map (ev E σ) ++ caps) args) (hd : dlt o.dst σ.n = true)
    (hK : K (St.put { σ with h := upd σ.h σ.nx (.arr 0 e sz (rows.map (·.map .d))), nx := σ.nx + 1 } o.dst (.own σ.nx 0 sz 0 rows.length))) : Step q E B o K Q σ := by
  refine step_newW _ _ (by simp) (fun B g w a hr next Q' hn => ?_) hd hK
  have hfo := ev_ok hr fo
  rw [hf] at hfo
  generalize hfx : a.eval fo = fx at hfo
  cases hfo with
  | fn _ _ xs h1 h2 =>
    have hexec : (execOp a.eval o).run E.P w = .ok (.enter f (ar.map a.eval ++ xs)) w := by
      simp only [execOp, ho, resolve, hfx, Deferred.ofValue, Sem.run_bind, Sem.run_pure, Result.andThen_ok, invoke, Array.empty_append]
      exact hp.1 _ _
    obtain ⟨hl, hget⟩ := nas_get ha
    have hc := hp.2 w (g.callee w) (ar.map a.eval ++ xs) (callee_hr hr.hr) (by rw [← hl]; simp [h1]) (fun i c x hc hx => by
      have hi : i < (ar.toList.map (ev E σ) ++ caps).length := by rw [hl]; exact (List.getElem?_eq_some_iff.1 hc).1
      refine hget i _ c (List.getElem?_eq_getElem hi) hc B g w a hr x ?_
      by_cases his : i < ar.size
      · have e1 : (ar.toList.map (ev E σ) ++ caps)[i] = ev E σ ar[i] := by
          rw [List.getElem_append_left (by simpa using his)]; simp
        have e2 : x = a.eval ar[i] := by
          rw [Array.getElem?_append_left (by simpa using his)] at hx
          simp [his] at hx; exact hx.symm
        rw [e1, e2]; exact ev_ok hr _
      · have hi2 : i - ar.size < caps.length := by simp at hi; omega
        have e1 : (ar.toList.map (ev E σ) ++ caps)[i]? = caps[i - ar.size]? := by
          rw [List.getElem?_append_right (by simpa using his)]; simp
        rw [Array.getElem?_append_right (by simpa using his)] at hx
        refine h2 (i - ar.size) _ x ?_ (by simpa using hx)
        rw [← e1]; exact List.getElem?_eq_getElem hi)
    unfold Oper.wp
    rw [hexec, Oper.upon_enter]
    refine hc.mono ?_
    rintro en w' ⟨b, c, v, rfl, hb, hbv, hor⟩
    refine hn w' _ b c v hb hbv (or_move (g := (g.callee w).resO w w' b c v) (g' := g.mk' σ.nx b c v w w') (l := 0) (l' := σ.nx) (by simp [G.mk', G.at, upd, G.resO]) (by simp [G.mk', G.at, upd, G.resO]) (by simp [G.mk', G.at, upd, G.resO]) (by simp [G.mk', G.at, upd]) (fun c x _ hd => hd.mono (fun _ h => h) (fun x h => ?_) (fun _ _ => rfl)) hor) ?_
    · rcases h with h | h
      · exact .inl (hr.hr.IJ x h)
      · exact .inr h
    · refine .own _ _ _ _ _ _ ?_ (by omega) (by simp [G.mk', G.at, upd]) (fun _ => ?_)
      · unfold handle; rfl
      · unfold OwnV; simp [handle, G.mk', G.at, upd, G.resO]

def FinO (E : Env) (fn : Func) (e sz : Nat) (rows : List (List D)) : Exit → St → Prop := fun en σ =>
  (en = .ret ∨ en = .normal) ∧ (∀ r ∈ rows, ∀ c ∈ r, Keeps c) ∧ ∃ t, fn.results = #[.tmp t] ∧
    ((σ.t t = .d (.v (.slice none 0 0)) ∧ rows = []) ∨ ∃ l k, σ.t t = .own l k sz 0 rows.length ∧ σ.h l = .arr k e sz (rows.map (·.map .d)))

theorem pureO_of_body {f : FuncId} {c : Code} (hf : E.P.funcs[f]? = some fn) (hname : (fn.name == "runtime.NumGoroutine") = false) (hb : fn.body = some c) {args : List AV} {e sz : Nat} {rows : List (List D)} (hn' : decide (args.length ≤ fn.ntmps) = true)
    (h : ∀ B : Base, B.nx = 0 → SWP E B c (FinO E fn e sz rows) (initSt args fn.ntmps)) : PureO E f args e sz rows := by
  have hn : args.length ≤ fn.ntmps := by simpa using hn'
  refine ⟨enters_of hf hname hb, fun w g vs hr hs hv => ?_⟩
  let B : Base := ⟨w, g, 0, fun _ => .dead⟩
  have hrel : Rel E B g (initSt args fn.ntmps) w { tmps := vs ++ Array.replicate (fn.ntmps - vs.size) undef, defers := [] } := by
    refine ⟨by simp [initSt]; omega, fun i => ?_, hr, ⟨rfl, rfl, rfl, Nat.le_refl _, fun _ _ _ => rfl, GLe.refl _ _, Nat.le_refl _, fun b h => .inl h, fun b h => .inl h⟩, rfl⟩
    simp only [initSt, argsT_get, Nat.zero_le, if_true, Nat.sub_zero]
    by_cases hi : i < args.length
    · have h1 : args.getD i .any = args[i] := by simp [List.getD, hi]
      have h2 : (vs ++ Array.replicate (fn.ntmps - vs.size) undef).getD i undef = vs[i]'(by omega) := by
        rw [Array.getD_eq_getD_getElem?, Array.getElem?_append_left (by omega), Array.getElem?_eq_getElem (by omega)]; rfl
      rw [h1, h2]
      exact hv i _ _ (List.getElem?_eq_getElem hi) (Array.getElem?_eq_getElem (by omega))
    · have : args.getD i .any = .any := by simp [List.getD, List.getElem?_eq_none (Nat.le_of_not_lt hi)]
      rw [this]; exact .any _
  refine calls_of_wp hf hb (wp_mono (h B rfl g w _ hrel) ?_)
  rintro en a' w' ⟨g', σ', hr', he, hk, t, hres, hval⟩
  have hbel : Below w.heap.size w w' := ⟨hr'.ext.os, hr'.ext.tape, hr'.ext.output, hr'.ext.size, fun k hk => hr'.ext.block k hk (fun ⟨l, hl, _⟩ => Nat.not_lt_zero _ hl)⟩
  have key : ∃ b c v, a'.tmps.getD t undef = handle (g.resO w w' b c v) 0 rows.length ∧ (v = true ∨ (w.heap.size ≤ b ∧ b < w'.heap.size)) ∧ OR w' (g.resO w w' b c v) 1 0 (.arr 0 e sz (rows.map (·.map .d))) := by
    have htm := hr'.tm t
    rcases hval with ⟨h1, rfl⟩ | ⟨l, k, h1, h2⟩
    · rw [h1] at htm
      refine ⟨0, 0, true, by rw [vr_val htm]; simp [handle, G.resO, G.at, upd], .inl rfl, ?_⟩
      refine ⟨by simp [G.resO, G.at, upd], by simp, by simp, fun _ => ⟨rfl, by simp [G.resO, G.at, upd]⟩, [], ⟨by simp, .inl ⟨by simp [handle, G.resO, G.at, upd], rfl⟩⟩, by simp⟩
    · rw [h1] at htm
      generalize a'.tmps.getD t undef = y at htm
      cases htm with
      | own _ _ _ _ _ _ h0 hl1 hl2 hl3 =>
        have hor := hr'.hr.hp l hl1
        rw [h2] at hor
        have hκ := hor.1
        have hy := hl3 hκ
        unfold OwnV at hy
        simp only [if_true] at hy
        have hblk : g'.vt l = true ∨ (w.heap.size ≤ g'.ρ l ∧ g'.ρ l < w'.heap.size) := by
          cases hv : g'.vt l with
          | true => exact .inl rfl
          | false =>
            right
            have ho : Owned g' σ'.nx σ'.h (g'.ρ l) := ⟨l, hl1, by rw [h2]; simp, hv, rfl⟩
            refine ⟨?_, Owned.lt hr'.hr ho⟩
            rcases hr'.ext.own _ ho with ⟨l', h, _⟩ | h
            · exact absurd h (Nat.not_lt_zero _)
            · exact h
        refine ⟨g'.ρ l, g'.cap l, g'.vt l, by rw [hy]; simp [handle, G.resO, G.at, upd], hblk, ?_⟩
        refine or_move (g := g') (g' := g.resO w w' (g'.ρ l) (g'.cap l) (g'.vt l)) (l := l) (l' := 0) (by simp [G.resO, G.at, upd]) (by simp [G.resO, G.at, upd]) (by simp [G.resO, G.at, upd]) (by simp [G.resO, G.at, upd]) (fun c x hc hd => ?_) hor
        obtain ⟨r, hrm, hcr⟩ := hc
        by_cases hv : g'.vt l = true
        · have := (hor.2.2.2.1 hv).1
          have hrn : rows = [] := by simpa using this
          rw [hrn] at hrm; cases hrm
        · have hv : g'.vt l = false := by simpa using hv
          have hsub : ∀ b, g'.I b → (g.resO w w' (g'.ρ l) (g'.cap l) (g'.vt l)).I b := fun b hb => by
            have := res_I (B := B) rfl hr' hb
            rcases this with h | h
            · exact .inl h
            · refine .inr ⟨h.1, h.2, fun e => ?_⟩
              exact hr'.hr.dis b (hr'.hr.IJ b hb) ⟨l, hl1, by rw [h2]; simp, hv, e.symm⟩
          exact (hk r hrm c hcr w' g'.I g'.J x hr'.hr.IJ hd).mono hsub hsub (fun _ _ => rfl)
  obtain ⟨b, c, v, k1, k2, k3⟩ := key
  rcases he with rfl | rfl
  · exact ⟨hr'.df, _, results_tmp hres _ _ _, b, c, v, by rw [k1], hbel, k2, k3⟩
  · exact ⟨hr'.df, _, results_tmp hres _ _ _, b, c, v, by rw [k1], hbel, k2, k3⟩

theorem rows_bnd (rows : List (List D)) (n : Nat) : ∀ r ∈ rows.map (·.map AV.d), ∀ c ∈ r, c.bnd n = true := by
  intro r hr c hc
  obtain ⟨r', _, rfl⟩ := List.mem_map.1 hr
  obtain ⟨d, _, rfl⟩ := List.mem_map.1 hc
  rfl

/-! ### Is a slice nil? -/
theorem so_nilSl {o : Oper} {K : St → Prop} {op : BinOp} {t u : TypeId} {x : Operand} (ho : o.op = .binOp op t x (.const (.slice none 0 0)) u) {i : TI} (hi : E.ti t = some i) {e : TypeId} (ht : i.desc = .slice e) {s : Bool} {es : List (List D)} (hx : ev E σ x = .d (.sl s es)) (hop : op = .eql) (hd : dlt o.dst σ.n = true)
    (hK : ∀ b : Bool, (b = true → es = []) → K (σ.put o.dst (.d (.v (.bool b))))) : Step .all E B o K Q σ := by
  subst hop
  intro g w a hr next hn
  have hx' := ev_ok hr x
  rw [hx] at hx'
  have hd' := vr_data hx'
  obtain ⟨ad, n, c, hax, hes⟩ : ∃ ad n c, a.eval x = .slice ad n c ∧ (ad = none → es = []) := by
    generalize a.eval x = y at hd'
    cases hd' with
    | nil s ad c => exact ⟨ad, 0, c, rfl, fun _ => rfl⟩
    | sl s es b off c f h1 h2 h3 h4 h5 => exact ⟨_, _, _, rfl, fun h => by cases h⟩
  have hrun : (execOp a.eval o).run E.P w = .ok (.value (.bool ad.isNone)) w := by
    simp only [execOp, ho]
    refine run_v ?_
    have : (binOp .eql t (.slice ad n c) (.slice none 0 0)).run E.P w = .ok (.bool ad.isNone) w := by
      simp [binOp, run_equal_slice_nil w t e ad n c (by rw [E.und hi, ht])]
    rw [show a.eval (.const (.slice none 0 0)) = .slice none 0 0 from rfl, hax]
    simpa [eqGuard] using this
  unfold Oper.wp
  rw [hrun, Oper.upon_value]
  exact hn g _ w _ (rel_put hr hd (.d _ _ (.v _))) (hK _ (fun h => hes (by simpa using h)))
end
end Go.Proofs.YtdcpnpcmgfmenaaDoor.Lg
