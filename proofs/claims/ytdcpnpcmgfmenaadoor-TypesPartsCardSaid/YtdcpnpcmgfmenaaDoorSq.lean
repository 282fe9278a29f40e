/-
  Small helps for walks. Conditions: none.
-/
import Derived.Test.YtdcpnpcmgfmenaaDoorSp
set_option linter.unusedVariables false
namespace Go.Proofs.YtdcpnpcmgfmenaaDoor.Lg
open Go Go.RowKit

theorem dead_none {n : Nat} : ∀ l, n ≤ l → (fun _ => AO.dead : Nat → AO) l = .dead := fun _ _ => rfl
theorem dead_upd {n i : Nat} {h : Nat → AO} {o : AO} (hi : i < n) (hh : ∀ l, n ≤ l → h l = .dead) : ∀ l, n ≤ l → upd h i o l = .dead := fun l hl => by
  rw [upd_ne _ _ _ (by omega)]; exact hh l hl

/-- A loop's next round number. -/
theorem next_i64 {k n : Nat} (h : k < n) (hn : n ≤ 9223372036854775807) : AV.d (.v (.int .i64 (IntKind.i64.wrap ((k : Int) + 1)))) = AV.d (.v (.int .i64 ((k + 1 : Nat) : Int))) :=
  int_eq (by rw [i64_in (by omega) (by omega)]; omega)
theorem add_i64 {a b : Int} (h0 : -9223372036854775808 ≤ a + b) (h1 : a + b ≤ 9223372036854775807) : AV.d (.v (.int .i64 (IntKind.i64.wrap (a + b)))) = AV.d (.v (.int .i64 (a + b))) := int_eq (i64_in h0 h1)

section
variable {E : Env} {B : Base} {Q : Exit → St → Prop} {σ : St}
/-- What a state tells of a slice of data in an object: it is no longer than a slice may be. -/
theorem swp_len {c : Code} {l i : Nat} {cs : List AV} {s : Bool} {es : List (List D)} (hl : σ.h l = .cells cs) (hi : cs[i]? = some (.d (.sl s es))) (hx : Nat.blt l σ.nx = true) (h : es.length ≤ 9223372036854775807 → SWP E B c Q σ) : SWP E B c Q σ := fun g w a hr => by
  have hor := hr.hr.hp l (Nat.le_of_ble_eq_true hx)
  rw [hl] at hor
  obtain ⟨_, _, xs, t, h3, h4, h5⟩ := hor
  have hlt : i < xs.size := by rw [h4]; exact (List.getElem?_eq_some_iff.1 hi).1
  have hd := vr_data (h5 i _ xs[i] hi (Array.getElem?_eq_getElem hlt))
  refine h ?_ g w a hr
  generalize xs[i] = x at hd
  cases hd with
  | nil => simp
  | sl _ _ _ _ _ _ _ _ hm _ _ => exact hm.1
/-- The same of a temporary. -/
theorem swp_lenT {c : Code} {i : Nat} {s : Bool} {es : List (List D)} (hi : σ.t i = .d (.sl s es)) (h : es.length ≤ 9223372036854775807 → SWP E B c Q σ) : SWP E B c Q σ := fun g w a hr => by
  have hd := hr.tm i
  rw [hi] at hd
  have hd := vr_data hd
  refine h ?_ g w a hr
  generalize a.tmps.getD i undef = x at hd
  cases hd with
  | nil => simp
  | sl _ _ _ _ _ _ _ _ hm _ _ => exact hm.1

/-- A truth value that is told apart within a region. -/
theorem sops_case {ops : Array Oper} {l : List Oper} (d : Nat) {b : Bool} (hd : σ.t d = .d (.v (.bool b))) (ht : b = true → SOps E B ops l Q { σ with t := upd σ.t d (.d (.v (.bool true))) })
    (hf : b = false → SOps E B ops l Q { σ with t := upd σ.t d (.d (.v (.bool false))) }) : SOps E B ops l Q σ := by
  have key : ∀ b', b = b' → { σ with t := upd σ.t d (.d (.v (.bool b'))) } = σ := fun b' e => by
    subst e
    have : upd σ.t d (.d (.v (.bool b))) = σ.t := by
      funext i
      simp only [upd]
      split
      · rename_i h; subst h; exact hd.symm
      · rfl
    rw [this]
  cases hb : b with
  | true => have := ht hb; rwa [key true hb] at this
  | false => have := hf hb; rwa [key false hb] at this
theorem h0_case {ops : Array Oper} {wr : List Nat} {K : (Nat → AV) → Prop} {l : List Oper} {td : Nat → AV} (d : Nat) {b : Bool} (hd : td d = .d (.v (.bool b))) (ht : b = true → HOps0 E B Q ops wr σ K l (upd td d (.d (.v (.bool true)))))
    (hf : b = false → HOps0 E B Q ops wr σ K l (upd td d (.d (.v (.bool false))))) : HOps0 E B Q ops wr σ K l td := by
  have key : ∀ b', b = b' → upd td d (.d (.v (.bool b'))) = td := fun b' e => by
    subst e
    funext i
    simp only [upd]
    split
    · rename_i h; subst h; exact hd.symm
    · rfl
  cases hb : b with
  | true => have := ht hb; rwa [key true hb] at this
  | false => have := hf hb; rwa [key false hb] at this
theorem swp_condT {c : Operand} {x y : Code} (hb : ev E σ c = .d (.v (.bool true))) (h : SWP E B x Q σ) : SWP E B (.cond c x y) Q σ := swp_cond true hb (fun _ => h) (by simp)
theorem swp_condF {c : Operand} {x y : Code} (hb : ev E σ c = .d (.v (.bool false))) (h : SWP E B y Q σ) : SWP E B (.cond c x y) Q σ := swp_cond false hb (by simp) (fun _ => h)
/-- A sequence, cut where a family of states tells what stands. -/
theorem swp_seqF {x y : Code} {ι : Type} (F : ι → St) (P : ι → Prop) (h : SWP E B x (after (fun σ' => ∃ j, P j ∧ Wk E B σ' (F j)) Q) σ) (hy : ∀ j, P j → SWP E B y Q (F j)) : SWP E B (.seq x y) Q σ :=
  swp_seq (h.mono fun e σ' hq => by
    cases e with
    | normal => obtain ⟨j, hj, hw⟩ := hq; exact swp_wk hw (hy j hj)
    | _ => exact hq)

theorem na_free {v : AV} (hb : v.bnd 0 = true) : NA E σ v v := fun B g w a hr x h =>
  VR.mono (g := g) (w := w) (nx := 0) (g' := g.callee w) ⟨fun _ h => h, fun b hb => hr.hr.Jlt b hb, fun _ h => by omega, fun _ h => by omega⟩ (Nat.le_refl _) (fun _ _ => rfl) (h.bnd hb)
theorem nas_free : ∀ {vs : List AV}, AV.bnds 0 vs = true → NAs E σ vs vs
  | [], _ => trivial
  | v :: r, h => by
    simp only [AV.bnds, Bool.and_eq_true] at h
    exact ⟨na_free h.1, nas_free h.2⟩

/-! ### Functions of whose result only a part is told -/
def PureS (E : Env) (f : FuncId) (args : List AV) (R : AV → Prop) : Prop :=
  Enters E.P f ∧ ∀ w g (vs : Array Value), HRel E w g 0 (fun _ => .dead) → vs.size = args.length → (∀ (i : Nat) c x, args[i]? = some c → vs[i]? = some x → VR w g 0 c x) →
    Calls E.P f vs w fun e w' => ∃ v r, R r ∧ e = .returned v ∧ VR w' (g.res w w') 0 r v ∧ Below w.heap.size w w'

theorem PureS.of {f : FuncId} {args : List AV} {r : AV} {R : AV → Prop} (h : Pure E f args r) (hR : R r) : PureS E f args R :=
  ⟨h.1, fun w g vs h1 h2 h3 => (h.2 w g vs h1 h2 h3).mono fun e w' ⟨v, h4, h5, h6⟩ => ⟨v, r, hR, h4, h5, h6⟩⟩

theorem st_callS {o : Oper} {K : St → Prop} {fo : Operand} {ar : Array Operand} {ts : Array TypeId} (ho : o.op = .call { callee := .value fo, args := ar, argTypes := ts }) {f : FuncId} {caps : List AV} (hf : ev E σ fo = .fn f caps)
    {args : List AV} {R : AV → Prop} (hp : PureS E f args R) (ha : NAs E σ (ar.toList.map (ev E σ) ++ caps) args) (hd : dlt o.dst σ.n = true) (hK : ∀ r, R r → K (σ.put o.dst r)) : Step .all E B o K Q σ := by
  intro g w a hr next hn
  have hfo := ev_ok hr fo
  rw [hf] at hfo
  generalize hfx : a.eval fo = fx at hfo
  cases hfo with
  | fn _ _ xs h1 h2 =>
    have hexec : (execOp a.eval o).run E.P w = .ok (.enter f (ar.map a.eval ++ xs)) w := by
      simp only [execOp, ho, resolve, hfx, Deferred.ofValue, Sem.run_bind, Sem.run_pure, Result.andThen_ok, invoke, Array.empty_append]
      exact hp.1 _ _
    obtain ⟨hl, hget⟩ := nas_get ha
    have hc := hp.2 w (g.callee w) (ar.map a.eval ++ xs) (callee_hr hr.hr) (by rw [← hl]; simp [h1]) (fun i c x hc hx => by
      have hi : i < (ar.toList.map (ev E σ) ++ caps).length := by rw [hl]; exact (List.getElem?_eq_some_iff.1 hc).1
      refine hget i _ c (List.getElem?_eq_getElem hi) hc B g w a hr x ?_
      by_cases his : i < ar.size
      · have e1 : (ar.toList.map (ev E σ) ++ caps)[i] = ev E σ ar[i] := by
          rw [List.getElem_append_left (by simpa using his)]; simp
        have e2 : x = a.eval ar[i] := by
          rw [Array.getElem?_append_left (by simpa using his)] at hx
          simp [his] at hx; exact hx.symm
        rw [e1, e2]; exact ev_ok hr _
      · have hi2 : i - ar.size < caps.length := by simp at hi; omega
        have e1 : (ar.toList.map (ev E σ) ++ caps)[i]? = caps[i - ar.size]? := by
          rw [List.getElem?_append_right (by simpa using his)]; simp
        rw [Array.getElem?_append_right (by simpa using his)] at hx
        refine h2 (i - ar.size) _ x ?_ (by simpa using hx)
        rw [← e1]; exact List.getElem?_eq_getElem hi)
    unfold Oper.wp
    rw [hexec, Oper.upon_enter]
    refine hc.mono ?_
    rintro e w' ⟨v, r, hR, rfl, hv, hb⟩
    exact hn (g.ext w w') _ w' _ (rel_put (rel_below hr hb) hd (vr_free (g := (g.callee w).res w w') (g' := g.ext w w') (fun _ h => h) (fun _ h => .inr h) hv)) (hK r hR)

def FinS (E : Env) (fn : Func) (R : AV → Prop) : Exit → St → Prop := fun e σ => (e = .ret ∨ e = .normal) ∧ ∃ r, R r ∧ ResOk E fn σ r

theorem pureS_of_body {f : FuncId} {fn : Func} {c : Code} (hf : E.P.funcs[f]? = some fn) (hname : (fn.name == "runtime.NumGoroutine") = false) (hb : fn.body = some c) {args : List AV} {R : AV → Prop} (hn' : decide (args.length ≤ fn.ntmps) = true)
    (h : ∀ B : Base, B.nx = 0 → SWP E B c (FinS E fn R) (initSt args fn.ntmps)) : PureS E f args R := by
  have hn : args.length ≤ fn.ntmps := by simpa using hn'
  refine ⟨enters_of hf hname hb, fun w g vs hr hs hv => ?_⟩
  let B : Base := ⟨w, g, 0, fun _ => .dead⟩
  have hrel : Rel E B g (initSt args fn.ntmps) w { tmps := vs ++ Array.replicate (fn.ntmps - vs.size) undef, defers := [] } := by
    refine ⟨by simp [initSt]; omega, fun i => ?_, hr, ⟨rfl, rfl, rfl, Nat.le_refl _, fun _ _ _ => rfl, GLe.refl _ _, Nat.le_refl _, fun b h => .inl h, fun b h => .inl h⟩, rfl⟩
    simp only [initSt, argsT_get, Nat.zero_le, if_true, Nat.sub_zero]
    by_cases hi : i < args.length
    · have h1 : args.getD i .any = args[i] := by simp [List.getD, hi]
      have h2 : (vs ++ Array.replicate (fn.ntmps - vs.size) undef).getD i undef = vs[i]'(by omega) := by
        rw [Array.getD_eq_getD_getElem?, Array.getElem?_append_left (by omega), Array.getElem?_eq_getElem (by omega)]; rfl
      rw [h1, h2]
      exact hv i _ _ (List.getElem?_eq_getElem hi) (Array.getElem?_eq_getElem (by omega))
    · have : args.getD i .any = .any := by simp [List.getD, List.getElem?_eq_none (Nat.le_of_not_lt hi)]
      rw [this]; exact .any _
  refine calls_of_wp hf hb (wp_mono (h B rfl g w _ hrel) ?_)
  rintro e a' w' ⟨g', σ', hr', he, r, hR, hres⟩
  obtain ⟨v, hrun, hvr⟩ := resOk_run hres rfl hr'
  have hbel : Below w.heap.size w w' := ⟨hr'.ext.os, hr'.ext.tape, hr'.ext.output, hr'.ext.size, fun k hk => hr'.ext.block k hk (fun ⟨l, hl, _⟩ => Nat.not_lt_zero _ hl)⟩
  rcases he with rfl | rfl
  · exact ⟨hr'.df, v, hrun, v, r, hR, rfl, hvr, hbel⟩
  · exact ⟨hr'.df, v, hrun, v, r, hR, rfl, hvr, hbel⟩

/-- Some whole number; some truth value. -/
def isInt (r : AV) : Prop := ∃ n : Int, r = .d (.v (.int .i64 n))
def isBool (r : AV) : Prop := ∃ b : Bool, r = .d (.v (.bool b))
end
end Go.Proofs.YtdcpnpcmgfmenaaDoor.Lg
