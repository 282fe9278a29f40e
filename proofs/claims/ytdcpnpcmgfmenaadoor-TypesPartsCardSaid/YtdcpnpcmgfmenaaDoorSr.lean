/-
  Ends of walks, results in cells, sets of texts. Conditions: none.
-/
import Derived.Test.YtdcpnpcmgfmenaaDoorSq
set_option linter.unusedVariables false
set_option linter.unusedSimpArgs false
namespace Go.Proofs.YtdcpnpcmgfmenaaDoor.Lg
open Go Go.RowKit

section
variable {E : Env} {B : Base} {Q : Exit → St → Prop} {σ : St} {fn : Func}

theorem rc_of {t : Nat} {ty : TypeId} {r : AV} {v : AV} {cs : List AV} {i : TI} (hi : E.ti ty = some i) (hc : at_ σ.h (σ.t t) = some cs) (hl : decide (i.size ≤ cs.length) = true) (h0 : decide (0 < i.size) = true)
    (hv : (bif i.agg then mkAgg (cs.take i.size) else cs.headD .any) = v) (hra : RA E σ v r) : RC E σ t ty r := by
  refine ⟨cs, i.size, i.agg, hc, E.sz hi, E.agg hi, by simpa using hl, .inr (by simpa using h0), ?_⟩
  rw [← hv] at hra
  cases h : i.agg <;> simpa [h] using hra

/-! ### One result -/
theorem fin_v {t : Nat} {x y : Value} (h1 : fn.results = #[.tmp t]) (h2 : σ.t t = .d (.v x)) (h : y = x) : Fin E fn (.d (.v y)) .ret σ := by
  subst h; exact ⟨.inl rfl, .inl ⟨t, h1, by rw [h2]; exact ra_d (keeps_v _)⟩⟩
theorem fin_b {t : Nat} {x y : Bool} (h1 : fn.results = #[.tmp t]) (h2 : σ.t t = .d (.v (.bool x))) (h : y = x) : Fin E fn (.d (.v (.bool y))) .ret σ := fin_v h1 h2 (by rw [h])
theorem fin_i {t : Nat} {k : IntKind} {x y : Int} (h1 : fn.results = #[.tmp t]) (h2 : σ.t t = .d (.v (.int k x))) (h : y = x) : Fin E fn (.d (.v (.int k y))) .ret σ := fin_v h1 h2 (by rw [h])
theorem fin_s {t : Nat} {x y : ByteArray} (h1 : fn.results = #[.tmp t]) (h2 : σ.t t = .d (.v (.string x))) (h : y = x) : Fin E fn (.d (.v (.string y))) .ret σ := fin_v h1 h2 (by rw [h])
theorem fin_d {t : Nat} {x y : D} (h1 : fn.results = #[.tmp t]) (h2 : σ.t t = .d x) (h : y = x) (hk : Keeps x) : Fin E fn (.d y) .ret σ := by
  subst h; exact ⟨.inl rfl, .inl ⟨t, h1, by rw [h2]; exact ra_d hk⟩⟩
theorem fin_c {t : Nat} {ty : TypeId} {r : AV} (h1 : fn.results = #[.cell t ty]) (h : RC E σ t ty r) : Fin E fn r .ret σ := ⟨.inl rfl, .inr (.inr (.inr (.inr (.inl ⟨t, ty, h1, h⟩))))⟩
/-! ### Two, three -/
theorem fin_2 {t u : Nat} {x y x' y' : D} (h1 : fn.results = #[.tmp t, .tmp u]) (h2 : σ.t t = .d x') (h3 : σ.t u = .d y') (e1 : x = x') (e2 : y = y') (k1 : Keeps x') (k2 : Keeps y') : Fin E fn (.tup [.d x, .d y]) .ret σ := by
  subst e1; subst e2; exact ⟨.inl rfl, .inr (.inl ⟨t, u, _, _, h1, rfl, by rw [h2]; exact ra_d k1, by rw [h3]; exact ra_d k2⟩)⟩
theorem fin_2v {t u : Nat} {x y x' y' : Value} (h1 : fn.results = #[.tmp t, .tmp u]) (h2 : σ.t t = .d (.v x')) (h3 : σ.t u = .d (.v y')) (e1 : x = x') (e2 : y = y') : Fin E fn (.tup [.d (.v x), .d (.v y)]) .ret σ :=
  fin_2 h1 h2 h3 (by rw [e1]) (by rw [e2]) (keeps_v _) (keeps_v _)
theorem fin_cv {t u : Nat} {ty : TypeId} {r : AV} {y y' : Value} (h1 : fn.results = #[.cell t ty, .tmp u]) (h2 : RC E σ t ty r) (h3 : σ.t u = .d (.v y')) (e2 : y = y') : Fin E fn (.tup [r, .d (.v y)]) .ret σ := by
  subst e2; exact ⟨.inl rfl, .inr (.inr (.inr (.inr (.inr (.inl ⟨t, ty, u, _, _, h1, rfl, h2, by rw [h3]; exact ra_d (keeps_v _)⟩)))))⟩
theorem fin_n {r : AV} (h : Fin E fn r .ret σ) : Fin E fn r .normal σ := ⟨.inr rfl, h.2⟩
theorem fin_s0 {R : AV → Prop} {r : AV} (hR : R r) (h : Fin E fn r .ret σ) : FinS E fn R .ret σ := ⟨h.1, r, hR, h.2⟩

/-- A test whose outcome is kept. -/
theorem swp_condC {t : Nat} {x y : Code} (b : Bool) (hb : σ.t t = .d (.v (.bool b))) (ht : b = true → SWP E B x Q { σ with t := upd σ.t t (.d (.v (.bool true))) }) (hf : b = false → SWP E B y Q { σ with t := upd σ.t t (.d (.v (.bool false))) }) :
    SWP E B (.cond (.tmp t) x y) Q σ := by
  have key : ∀ b', b = b' → { σ with t := upd σ.t t (.d (.v (.bool b'))) } = σ := fun b' e => by
    subst e
    have : upd σ.t t (.d (.v (.bool b))) = σ.t := by
      funext i
      simp only [upd]
      split
      · rename_i h; subst h; exact hb.symm
      · rfl
    rw [this]
  refine swp_cond b hb (fun h => ?_) (fun h => ?_)
  · have := ht h; rwa [key true h] at this
  · have := hf h; rwa [key false h] at this

/-! ### A part of a region, joined -/
theorem wp_upto {P : Program} {o : Oper} {a : Act} {w : World} {K K' : Act → World → Prop} {Q Q' : Exit → Act → World → Prop} (h : ∀ a w, K a w → K' a w) (hq : ∀ e a w, e ≠ .normal → Q e a w → Q' e a w)
    (hh : o.wp P a w K Q) : o.wp P a w K' Q' := by
  unfold Oper.wp at *
  generalize (execOp a.eval o).run P w = r at *
  cases r with
  | ok n w' =>
    cases n <;> simp only [Oper.upon] at hh ⊢ <;>
      first
        | exact h _ _ hh
        | exact Calls.mono hh (fun e w'' he => by
            cases e with
            | returned v => exact h _ _ he
            | panicked ch => exact hq _ _ _ (by simp) he
            | outgrown => obtain ⟨a, w, he⟩ := he; exact ⟨a, w, hq _ _ _ (by simp) he⟩)
        | exact Rows.mono hh (fun _ _ he => h _ _ he)
  | halt x w' => cases x <;> simp only [Oper.upon] at hh ⊢ <;> exact hq _ _ _ (by simp) hh
theorem wpList_app {P : Program} {ops : Array Oper} {Q Q' : Exit → Act → World → Prop} : ∀ (l1 l2 : List Oper) (a : Act) (w : World),
    wpList P ops Q l1 a w → (∀ a w, Q .normal a w → wpList P ops Q' l2 a w) → (∀ e a w, e ≠ .normal → Q e a w → Q' e a w) → wpList P ops Q' (l1 ++ l2) a w
  | [], l2, a, w, h, hn, hx => hn a w h
  | o :: l1, l2, a, w, h, hn, hx => by
    unfold wpList at h
    rw [List.cons_append]
    unfold wpList
    split at h
    · rename_i hw
      rw [if_pos hw]
      rcases h with h | ⟨h1, a', w', h2⟩
      · refine .inl (wp_upto (fun a w hk => wpList_app l1 l2 a w hk hn hx) (fun e a w he hq => hx e a w he hq) h)
      · exact .inr ⟨h1, a', w', hx _ _ _ (by simp) h2⟩
    · rename_i hw
      rw [if_neg hw]
      exact wpList_app l1 l2 _ w h hn hx

def forget (t : Nat → AV) : List Nat → Nat → AV
  | [] => t
  | d :: ds => forget (upd t d .any) ds
def updZip (t : Nat → AV) : List Nat → List AV → Nat → AV
  | d :: ds, v :: vs => updZip (upd t d v) ds vs
  | _, _ => t
theorem rel_t {g : G} {w : World} {a : Act} {t' : Nat → AV} (hr : Rel E B g σ w a) (ht : ∀ i x, VR w g σ.nx (σ.t i) x → VR w g σ.nx (t' i) x) : Rel E B g { σ with t := t' } w a :=
  ⟨hr.size, fun i => ht i _ (hr.tm i), hr.hr, hr.ext, hr.df⟩
theorem zip_forget {w : World} {g : G} {nx : Nat} {x : Value} (i : Nat) : ∀ (ds : List Nat) (vs : List AV) (t t' : Nat → AV), ds.length = vs.length → (VR w g nx (t i) x → VR w g nx (t' i) x) → VR w g nx (updZip t ds vs i) x → VR w g nx (forget t' ds i) x
  | [], [], t, t', _, h, hv => h hv
  | d :: ds, v :: vs, t, t', hl, h, hv => by
    refine zip_forget i ds vs (upd t d v) (upd t' d .any) (by simpa using hl) (fun hh => ?_) hv
    by_cases e : i = d
    · subst e; rw [upd_same]; exact .any _
    · rw [upd_ne _ _ _ e] at hh ⊢; exact h hh
  | [], _ :: _, _, _, hl, _, _ => by simp at hl
  | _ :: _, [], _, _, hl, _, _ => by simp at hl

/-- What stands behind a part of a region whose first test came out so. -/
def MidT (σ : St) (d : Nat) (b : Bool) (ds : List Nat) (p : Nat) (v : Bool) : Exit → St → Prop := fun e τ =>
  e = .normal ∧ τ.n = σ.n ∧ τ.h = σ.h ∧ τ.nx = σ.nx ∧ ∃ L : List AV, ds.length = L.length ∧ τ.t = upd (updZip (upd σ.t d (.d (.v (.bool b)))) ds L) p (.d (.v (.bool v)))

theorem midT_ok {d p : Nat} {b v : Bool} {ds : List Nat} (hd : σ.t d = .d (.v (.bool b))) {e : Exit} {τ : St} (h : MidT σ d b ds p v e τ) {g : G} {w : World} {a : Act} (hr : Rel E B g τ w a) :
    Rel E B g { σ with t := upd (forget σ.t ds) p (.d (.v (.bool v))) } w a := by
  obtain ⟨-, h1, h2, h3, L, hL, h4⟩ := h
  have hτ : τ = { σ with t := upd (updZip (upd σ.t d (.d (.v (.bool b)))) ds L) p (.d (.v (.bool v))) } := by
    cases τ; simp only at h1 h2 h3 h4; subst h1; subst h2; subst h3; subst h4; rfl
  subst hτ
  refine rel_t (σ := { σ with t := upd (updZip (upd σ.t d (.d (.v (.bool b)))) ds L) p (.d (.v (.bool v))) }) hr fun i x hx => ?_
  simp only at hx ⊢
  by_cases e : i = p
  · subst e; rw [upd_same]; rw [upd_same] at hx; exact hx
  · rw [upd_ne _ _ _ e]; rw [upd_ne _ _ _ e] at hx
    refine zip_forget i ds L _ _ hL (fun hh => ?_) hx
    by_cases e2 : i = d
    · subst e2; rw [hd]; rw [upd_same] at hh; exact hh
    · rw [upd_ne _ _ _ e2] at hh; exact hh

variable {ops : Array Oper} {l l1 l2 : List Oper}
theorem sops_join {d p : Nat} {b v v' r : Bool} (ds : List Nat) (n : Nat) (hd : σ.t d = .d (.v (.bool b))) (h1 : l.take n = l1) (h2 : l.drop n = l2)
    (hf : b = false → SOps E B ops l1 (MidT σ d false ds p v) { σ with t := upd σ.t d (.d (.v (.bool false))) }) (ht : b = true → SOps E B ops l1 (MidT σ d true ds p v') { σ with t := upd σ.t d (.d (.v (.bool true))) })
    (hr : r = bif b then v' else v) (hk : SOps E B ops l2 Q { σ with t := upd (forget σ.t ds) p (.d (.v (.bool r))) }) : SOps E B ops l Q σ := by
  rw [← List.take_append_drop n l, h1, h2]
  intro g w a hrel
  have key : ∀ b', b = b' → { σ with t := upd σ.t d (.d (.v (.bool b'))) } = σ := fun b' e => by
    subst e
    have : upd σ.t d (.d (.v (.bool b))) = σ.t := by
      funext i
      simp only [upd]
      split
      · rename_i h; subst h; exact hd.symm
      · rfl
    rw [this]
  subst hr
  cases hb : b with
  | false =>
    have h := hf hb
    rw [key false hb] at h
    rw [hb] at hk hd
    refine wpList_app l1 l2 a w (h g w a hrel) (fun a w ⟨g', τ, hr', hq⟩ => hk g' w a (midT_ok hd hq hr')) (fun e a w he ⟨g', τ, hr', hq⟩ => absurd hq.1 he)
  | true =>
    have h := ht hb
    rw [key true hb] at h
    rw [hb] at hk hd
    refine wpList_app l1 l2 a w (h g w a hrel) (fun a w ⟨g', τ, hr', hq⟩ => hk g' w a (midT_ok hd hq hr')) (fun e a w he ⟨g', τ, hr', hq⟩ => absurd hq.1 he)
theorem sops_or {d p : Nat} {b v : Bool} (ds : List Nat) (n : Nat) (hd : σ.t d = .d (.v (.bool b))) (h1 : l.take n = l1) (h2 : l.drop n = l2)
    (hf : b = false → SOps E B ops l1 (MidT σ d false ds p v) { σ with t := upd σ.t d (.d (.v (.bool false))) }) (ht : b = true → SOps E B ops l1 (MidT σ d true ds p true) { σ with t := upd σ.t d (.d (.v (.bool true))) })
    (hk : SOps E B ops l2 Q { σ with t := upd (forget σ.t ds) p (.d (.v (.bool (b || v)))) }) : SOps E B ops l Q σ := sops_join ds n hd h1 h2 hf ht (by cases b <;> rfl) hk
theorem sops_and {d p : Nat} {b v : Bool} (ds : List Nat) (n : Nat) (hd : σ.t d = .d (.v (.bool b))) (h1 : l.take n = l1) (h2 : l.drop n = l2)
    (ht : b = true → SOps E B ops l1 (MidT σ d true ds p v) { σ with t := upd σ.t d (.d (.v (.bool true))) }) (hf : b = false → SOps E B ops l1 (MidT σ d false ds p false) { σ with t := upd σ.t d (.d (.v (.bool false))) })
    (hk : SOps E B ops l2 Q { σ with t := upd (forget σ.t ds) p (.d (.v (.bool (b && v)))) }) : SOps E B ops l Q σ := sops_join ds n hd h1 h2 hf ht (by cases b <;> rfl) hk

theorem so_neT {o : Oper} {K : St → Prop} {q : Md} [Qt q] {op : BinOp} {t u : TypeId} {x y : Operand} (ho : o.op = .binOp op t x y u) (sts : List TypeId) (hst : (sts.all fun t => plainSt E.P t) = true) (hfit : ∀ t j, E.ti t = some j → fitsT E t = true) (hg : E.P.eqGuardType E.P.depth t = false)
    {i : TI} (hi : E.ti t = some i) {fs : Array Field} (hif : i.desc = .struct fs) {xs ys : List D} (hx : ev E σ x = .d (.agg xs)) (hy : ev E σ y = .d (.agg ys)) {vs ws : List Value} (hvs : valsOf xs = some vs) (hws : valsOf ys = some ws) (hvl : Nat.beq vs.length i.size = true) (hwl : Nat.beq ws.length i.size = true)
    (hop : op = .neq) (hd : dlt o.dst σ.n = true) {b : Bool} (hb : eqT E sts 8 t vs ws = some b) (hK : K (σ.put o.dst (.d (.v (.bool (!b)))))) : Step q E B o K Q σ := by
  subst hop
  refine step_val _ (fun B g w a hr => ?_) hd hK
  have hx' := ev_ok hr x
  have hy' := ev_ok hr y
  rw [hx] at hx'
  rw [hy] at hy'
  have hdx := vr_data hx'
  have hdy := vr_data hy'
  obtain ⟨ax, hax⟩ : ∃ ax, a.eval x = .agg ax := by generalize a.eval x = z at hdx; cases hdx; exact ⟨_, rfl⟩
  obtain ⟨ay, hay⟩ : ∃ ay, a.eval y = .agg ay := by generalize a.eval y = z at hdy; cases hdy; exact ⟨_, rfl⟩
  rw [hax] at hdx
  rw [hay] at hdy
  have e1 := valsOf_ok hvs hdx
  have e2 := valsOf_ok hws hdy
  subst e1; subst e2
  obtain ⟨_, h2, _⟩ := eqT_ok hst hfit w 9992 8 t i vs ws b hi (Nat.eq_of_beq_eq_true hvl) (Nat.eq_of_beq_eq_true hwl) hb
  have ha : aggT E.P t = some true := by simp [aggT, E.und hi, hif]
  simp only [asVal, ha, Option.getD_some, cond_true] at h2
  refine ⟨.bool (!b), ?_, .d _ _ (.v _)⟩
  simp only [execOp, ho, hax, hay]
  refine run_v ?_
  rw [Sem.run_bind, run_eqGuard_agg w .neq t x y _ _ hg, Result.andThen_ok, run_neq_struct w t, h2]; rfl


/-! ### Sets of texts -/
def encS (l : List ByteArray) : List (Value × AV) := l.map fun s => (.string s, .d (.v (.bool true)))
theorem encS_keys (l : List ByteArray) : ∀ p ∈ encS l, Go.MapKept.IsKey .string p.1 := by
  intro p hp
  obtain ⟨q, _, rfl⟩ := List.mem_map.1 hp
  trivial
def hasS (l : List ByteArray) (s : ByteArray) : Bool := l.any fun x => decide (x = s)
theorem so_setHas {o : Oper} {K : St → Prop} {t : TypeId} {x ix : Operand} (ho : o.op = .lookup t x ix false) {i : TI} (hi : E.ti t = some i) {kt et : TypeId} (ht : i.desc = .map kt et) {jk je : TI} (hjk : E.ti kt = some jk) (hje : E.ti et = some je) (hd1 : jk.desc = .string) (hz : je.zero = .bool false)
    {l : Nat} (hx : ev E σ x = .map l) {es : List ByteArray} (hl : σ.h l = .map (encS es)) {s : ByteArray} (hk : ev E σ ix = .d (.v (.string s))) (hd : dlt o.dst σ.n = true)
    (hK : K (σ.put o.dst (.d (.v (.bool (hasS es s)))))) : Step .all E B o K Q σ := by
  refine so_lookup ho hi ht hjk hje hx hl hk (by rw [hd1]; trivial) (by rw [hd1]; exact encS_keys es) hd (fun h0 => ?_) (fun j v h1 => ?_)
  · have e : hasS es s = false := by
      unfold hasS
      rw [List.any_eq_false]
      intro x hx he
      have : x = s := by simpa using he
      exact h0 (.string x, .d (.v (.bool true))) (List.mem_map.2 ⟨x, hx, rfl⟩) (by rw [this])
    rw [e] at hK
    rw [hz]; exact hK
  · simp only [encS, List.getElem?_map, Option.map_eq_some_iff] at h1
    obtain ⟨x, hx, he⟩ := h1
    simp only [Prod.mk.injEq, Value.string.injEq] at he
    have e : hasS es s = true := List.any_eq_true.2 ⟨x, List.mem_of_getElem? hx, by simpa using he.1⟩
    rw [e] at hK
    rw [← he.2]; exact hK
theorem so_setPut {o : Oper} {K : St → Prop} {t : TypeId} {x ix y : Operand} (ho : o.op = .mapUpdate t x ix y) {i : TI} (hi : E.ti t = some i) {kt et : TypeId} (ht : i.desc = .map kt et) {jk : TI} (hjk : E.ti kt = some jk) (hd1 : jk.desc = .string)
    {l : Nat} (hx : ev E σ x = .map l) {es : List ByteArray} (hl : σ.h l = .map (encS es)) {s : ByteArray} (hk : ev E σ ix = .d (.v (.string s))) (hy : ev E σ y = .d (.v (.bool true))) (hd : dlt o.dst σ.n = true) (hnew : hasS es s = false)
    (hK : K (St.put { σ with h := upd σ.h l (.map (encS (es ++ [s]))) } o.dst .any)) : Step .all E B o K Q σ := by
  refine so_mapUpdate ho hi ht hjk hx hl hk (by rw [hd1]; trivial) (by rw [hd1]; exact encS_keys es) hd (fun h0 => ?_) (fun j v h1 => ?_)
  · have e : encS es ++ [(.string s, ev E σ y)] = encS (es ++ [s]) := by rw [hy]; simp [encS]
    rw [e]; exact hK
  · exfalso
    simp only [encS, List.getElem?_map, Option.map_eq_some_iff] at h1
    obtain ⟨x, hx, he⟩ := h1
    simp only [Prod.mk.injEq, Value.string.injEq] at he
    have : hasS es s = true := List.any_eq_true.2 ⟨x, List.mem_of_getElem? hx, by simpa using he.1⟩
    rw [hnew] at this; cases this
theorem encS_bnd (es : List ByteArray) (n : Nat) : ∀ p ∈ encS es, p.2.bnd n = true := by
  intro p hp; obtain ⟨q, _, rfl⟩ := List.mem_map.1 hp; rfl
end
end Go.Proofs.YtdcpnpcmgfmenaaDoor.Lg
