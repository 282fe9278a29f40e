/-
  Comparisons and maps. Conditions: none.
-/
import Derived.Test.YtdcpnpcmgfmenaaDoorSo
import Derived.MapKept
set_option linter.unusedSimpArgs false
set_option linter.unusedVariables false
namespace Go.Proofs.YtdcpnpcmgfmenaaDoor.Lg
open Go Go.RowKit

section
variable {E : Env} {B : Base} {Q : Exit → St → Prop} {σ : St} {o : Oper} {K : St → Prop}

theorem so_eqB {q : Md} [Qt q] {op : BinOp} {t u : TypeId} {x y : Operand} (ho : o.op = .binOp op t x y u) {i : TI} (hi : E.ti t = some i) (ht : i.desc = .bool) {a b : Bool} (hx : ev E σ x = .d (.v (.bool a))) (hy : ev E σ y = .d (.v (.bool b)))
    (hop : op = .eql) (hd : dlt o.dst σ.n = true) (hK : K (σ.put o.dst (.d (.v (.bool (a == b)))))) : Step q E B o K Q σ := by
  subst hop
  refine step_val _ (fun B g w ac hr => ?_) hd hK
  have hx' := ev_ok hr x
  have hy' := ev_ok hr y
  rw [hx] at hx'
  rw [hy] at hy'
  refine ⟨_, ?_, .d _ _ (.v _)⟩
  simp only [execOp, ho, vr_val hx', vr_val hy']
  refine run_v ?_
  simp only [Sem.run_bind, eqGuard]
  have := run_eql_bool (P := E.P) w t a b (by rw [E.und hi, ht])
  simpa using this
theorem so_neB {q : Md} [Qt q] {op : BinOp} {t u : TypeId} {x y : Operand} (ho : o.op = .binOp op t x y u) {i : TI} (hi : E.ti t = some i) (ht : i.desc = .bool) {a b : Bool} (hx : ev E σ x = .d (.v (.bool a))) (hy : ev E σ y = .d (.v (.bool b)))
    (hop : op = .neq) (hd : dlt o.dst σ.n = true) (hK : K (σ.put o.dst (.d (.v (.bool (!(a == b))))))) : Step q E B o K Q σ := by
  subst hop
  refine step_val _ (fun B g w ac hr => ?_) hd hK
  have hx' := ev_ok hr x
  have hy' := ev_ok hr y
  rw [hx] at hx'
  rw [hy] at hy'
  refine ⟨_, ?_, .d _ _ (.v _)⟩
  simp only [execOp, ho, vr_val hx', vr_val hy']
  refine run_v ?_
  have := run_neq_bool (P := E.P) w t a b (by rw [E.und hi, ht])
  simpa [eqGuard] using this

/-! ### Structs compared -/
def eqFs (E : Env) (rec : TypeId → List Value → List Value → Option Bool) : List Field → List Value → List Value → Option Bool
  | [], _, _ => some true
  | f :: fs, xs, ys =>
    match E.ti f.type with
    | none => none
    | some j => match rec f.type ((xs.drop f.offset).take j.size) ((ys.drop f.offset).take j.size) with
      | none => none
      | some r => match eqFs E rec fs xs ys with
        | none => none
        | some r' => some (r && r')
def kindEq : IntKind → IntKind → Bool := fun a b => decide (a = b)
def eqT (E : Env) (sts : List TypeId) : Nat → TypeId → List Value → List Value → Option Bool
  | 0, _, _, _ => none
  | n + 1, t, xs, ys =>
    match E.ti t with
    | none => none
    | some i => match i.desc with
      | .bool => match xs, ys with
        | [.bool a], [.bool b] => some (a == b)
        | _, _ => none
      | .int _ => match xs, ys with
        | [.int k a], [.int k' b] => bif kindEq k k' then some (a == b) else none
        | _, _ => none
      | .string => match xs, ys with
        | [.string a], [.string b] => some (a.toList == b.toList)
        | _, _ => none
      | .struct fs => bif has sts t then eqFs E (eqT E sts n) fs.toList xs ys else none
      | _ => none

/-- The value that a type's cells are. -/
def asVal (P : Program) (t : TypeId) (xs : List Value) : Value := bif (aggT P t).getD false then .agg xs.toArray else xs.headD undef
/-- The structs are compared part by part, by name. -/
def plainSt (P : Program) (t : TypeId) : Bool := !P.stoodInHeld t && match P.underlying t with
  | some (.struct fs) => fs.toList.all fun f => f.name != "_"
  | _ => false

theorem run_partL {E : Env} {t : TypeId} {j : TI} (hj : E.ti t = some j) {b : Bool} (hb : aggT E.P t = some b) (xs : List Value) (off : Nat) (hle : off + j.size ≤ xs.length) (hp : b = false → 0 < j.size) (w : World) :
    (part t xs.toArray off).run E.P w = .ok (asVal E.P t ((xs.drop off).take j.size)) w := by
  unfold part asVal
  rw [hb]
  simp only [Sem.run_bind, run_isAgg hb, Result.andThen_ok, Option.getD_some]
  cases b with
  | true =>
    simp only [if_true, Sem.run_bind, run_sizeOf (show (E.P.info? t).map (·.size) = some j.size by rw [E.sz hj]), Result.andThen_ok, Sem.run_pure, cond_true]
    congr 2
    apply Array.ext'
    simp [Array.toList_extract, List.extract]
  | false =>
    have h0 := hp rfl
    have hlt : off < xs.length := by omega
    simp only [Bool.false_eq_true, if_false, cond_false]
    have : xs.toArray[off]? = some xs[off] := by simp [hlt]
    rw [this]
    simp only [Sem.run_pure]
    congr 1
    rw [List.headD_eq_head?_getD, List.head?_take, if_neg (by omega), List.head?_drop]
    simp [hlt]

theorem plainSt_ok {P : Program} {t : TypeId} (h : plainSt P t = true) : P.stoodInHeld t = false ∧ ∃ fs, P.underlying t = some (.struct fs) ∧ ∀ f ∈ fs.toList, f.name ≠ "_" := by
  simp only [plainSt, Bool.and_eq_true, Bool.not_eq_true'] at h
  refine ⟨h.1, ?_⟩
  have h2 := h.2
  split at h2
  · rename_i fs hfs
    exact ⟨fs, hfs, fun f hf => by simpa using List.all_eq_true.1 h2 f hf⟩
  · cases h2

theorem eqFs_ok {E : Env} {rec : TypeId → List Value → List Value → Option Bool} {d : Nat} {w : World}
    (hrec : ∀ t j xs ys b, E.ti t = some j → xs.length = j.size → ys.length = j.size → rec t xs ys = some b → (aggT E.P t).isSome = true ∧ (Op.equalIn d t (asVal E.P t xs) (asVal E.P t ys)).run E.P w = .ok b w ∧ (aggT E.P t = some false → 0 < j.size)) :
    ∀ (fs : List Field) (xs ys : List Value) (b : Bool), (∀ f ∈ fs, f.name ≠ "_") → (∀ f ∈ fs, ∀ j, E.ti f.type = some j → f.offset + j.size ≤ xs.length ∧ f.offset + j.size ≤ ys.length) → eqFs E rec fs xs ys = some b → (Op.eqFields d xs.toArray ys.toArray fs).run E.P w = .ok b w
  | [], xs, ys, b, _, _, h => by
    simp only [eqFs, Option.some.injEq] at h; subst h
    simp [Op.eqFields]
  | f :: fs, xs, ys, b, hn, hl, h => by
    simp only [eqFs] at h
    cases hj : E.ti f.type with
    | none => rw [hj] at h; cases h
    | some j =>
      rw [hj] at h
      simp only at h
      obtain ⟨l1, l2⟩ := hl f (by simp) j hj
      cases hr : rec f.type ((xs.drop f.offset).take j.size) ((ys.drop f.offset).take j.size) with
      | none => rw [hr] at h; cases h
      | some r =>
        rw [hr] at h
        simp only at h
        cases hr' : eqFs E rec fs xs ys with
        | none => rw [hr'] at h; cases h
        | some r' =>
          rw [hr'] at h
          simp only [Option.some.injEq] at h
          obtain ⟨h1, h2, h3⟩ := hrec f.type j _ _ r hj (by simp; omega) (by simp; omega) hr
          obtain ⟨bg, hbg⟩ := Option.isSome_iff_exists.1 h1
          have hp : bg = false → 0 < j.size := fun e => h3 (by rw [hbg, e])
          have ih := eqFs_ok hrec fs xs ys r' (fun f hf => hn f (by simp [hf])) (fun f hf => hl f (by simp [hf])) hr'
          unfold Op.eqFields
          rw [if_pos (hn f (by simp))]
          simp only [Sem.run_bind, run_partL hj hbg xs f.offset l1 hp, run_partL hj hbg ys f.offset l2 hp, Result.andThen_ok, h2]
          cases r with
          | true => simp only [Bool.not_true, Bool.false_eq_true, if_false, ih]; rw [← h]; rfl
          | false => simp only [Bool.not_false, if_true, Sem.run_pure]; rw [← h]; rfl

/-- The parts lie within. -/
def fitsT (E : Env) (t : TypeId) : Bool :=
  match E.ti t with
  | some i => match i.desc with
    | .struct fs => fs.toList.all fun f => match E.ti f.type with
      | some j => Nat.ble (f.offset + j.size) i.size
      | none => true
    | .bool | .int _ | .string => Nat.blt 0 i.size
    | _ => true
  | none => false

theorem eqT_ok {E : Env} {sts : List TypeId} (hst : (sts.all fun t => plainSt E.P t) = true) (hfit : ∀ t j, E.ti t = some j → fitsT E t = true) (w : World) (m : Nat) : ∀ (n : Nat) (t : TypeId) (j : TI) (xs ys : List Value) (b : Bool), E.ti t = some j → xs.length = j.size → ys.length = j.size → eqT E sts n t xs ys = some b →
    (aggT E.P t).isSome = true ∧ (Op.equalIn (n + m) t (asVal E.P t xs) (asVal E.P t ys)).run E.P w = .ok b w ∧ (aggT E.P t = some false → 0 < j.size)
  | 0, t, j, xs, ys, b, hj, _, _, h => by simp [eqT] at h
  | n + 1, t, j, xs, ys, b, hj, hx, hy, h => by
    have hf := hfit t j hj
    have hu := E.und hj
    simp only [eqT, hj] at h
    simp only [fitsT, hj] at hf
    rw [show n + 1 + m = (n + m) + 1 by omega]
    cases hdj : j.desc with
    | bool =>
      rw [hdj] at h hu hf
      have ha : aggT E.P t = some false := by simp [aggT, hu]
      refine ⟨by simp [ha], ?_, fun _ => Nat.le_of_ble_eq_true hf⟩
      simp only at h
      split at h
      · rename_i a b'
        cases h
        simp only [asVal, ha, Option.getD_some, cond_false, List.headD_cons]
        exact run_equalIn_bool w _ t a b' hu
      · cases h
    | int k =>
      rw [hdj] at h hu hf
      have ha : aggT E.P t = some false := by simp [aggT, hu]
      refine ⟨by simp [ha], ?_, fun _ => Nat.le_of_ble_eq_true hf⟩
      simp only at h
      split at h
      · rename_i k1 a k2 b'
        cases hk : kindEq k1 k2 with
        | false => rw [hk] at h; cases h
        | true =>
          rw [hk] at h; cases h
          have : k1 = k2 := of_decide_eq_true hk
          subst this
          simp only [asVal, ha, Option.getD_some, cond_false, List.headD_cons]
          exact run_equalIn_int w _ t k1 k a b' hu
      · cases h
    | string =>
      rw [hdj] at h hu hf
      have ha : aggT E.P t = some false := by simp [aggT, hu]
      refine ⟨by simp [ha], ?_, fun _ => Nat.le_of_ble_eq_true hf⟩
      simp only at h
      split at h
      · rename_i a b'
        cases h
        simp only [asVal, ha, Option.getD_some, cond_false, List.headD_cons]
        exact run_equalIn_string w _ t a b' hu
      · cases h
    | struct fs =>
      rw [hdj] at h hu hf
      have ha : aggT E.P t = some true := by simp [aggT, hu]
      refine ⟨by simp [ha], ?_, fun h => by rw [ha] at h; cases h⟩
      simp only at h hf
      cases hs : has sts t with
      | false => rw [hs] at h; cases h
      | true =>
        rw [hs, cond_true] at h
        obtain ⟨p1, fs', p2, p3⟩ := plainSt_ok (List.all_eq_true.1 hst t (has_iff.1 hs))
        have : fs' = fs := by rw [hu] at p2; simpa using p2.symm
        subst this
        have hfo : E.P.fieldsOf t = fs' := by simp [Program.fieldsOf, hu]
        simp only [asVal, ha, Option.getD_some, cond_true]
        rw [run_equalIn_struct w (n + m) t _ _ (by rw [hfo]; exact hu) p1, hfo]
        refine eqFs_ok (fun t j xs ys b h1 h2 h3 h4 => eqT_ok hst hfit w m n t j xs ys b h1 h2 h3 h4) _ xs ys b p3 (fun f hf' j' hj' => ?_) h
        have := List.all_eq_true.1 hf f hf'
        rw [hj'] at this
        have := Nat.le_of_ble_eq_true this
        omega
    | _ => rw [hdj] at h; simp at h

def valsOf : List D → Option (List Value)
  | [] => some []
  | .v x :: r => (valsOf r).map (x :: ·)
  | _ => none
theorem dr_v {w : World} {I J : Nat → Prop} {v x : Value} (h : DR w I J (.v v) x) : x = v := by cases h; rfl
theorem valsOf_ok {w : World} {I J : Nat → Prop} : ∀ {cs : List D} {vs : List Value}, valsOf cs = some vs → ∀ {xs : Array Value}, DR w I J (.agg cs) (.agg xs) → xs = vs.toArray := by
  intro cs vs h xs hx
  have key : ∀ {cs : List D} {vs : List Value}, valsOf cs = some vs → cs = vs.map .v := by
    intro cs
    induction cs with
    | nil => intro vs h; cases h; rfl
    | cons c cs ih =>
      intro vs h
      cases c with
      | v x =>
        simp only [valsOf, Option.map_eq_some_iff] at h
        obtain ⟨r, hr, rfl⟩ := h
        rw [ih hr]; rfl
      | agg _ => cases h
      | sl _ _ => cases h
      | map _ => cases h
  have := key h
  subst this
  cases hx with
  | agg _ _ h1 h2 =>
    apply Array.ext
    · simpa using h1
    · intro i g1 g2
      have hi : i < vs.length := by simpa using g2
      have := h2 i (.v vs[i]) xs[i] (by simp [hi]) (Array.getElem?_eq_getElem g1)
      rw [dr_v this]; simp

theorem so_eqT {q : Md} [Qt q] {op : BinOp} {t u : TypeId} {x y : Operand} (ho : o.op = .binOp op t x y u) (sts : List TypeId) (hst : (sts.all fun t => plainSt E.P t) = true) (hfit : ∀ t j, E.ti t = some j → fitsT E t = true) (hg : E.P.eqGuardType E.P.depth t = false)
    {i : TI} (hi : E.ti t = some i) {fs : Array Field} (hif : i.desc = .struct fs) {xs ys : List D} (hx : ev E σ x = .d (.agg xs)) (hy : ev E σ y = .d (.agg ys)) {vs ws : List Value} (hvs : valsOf xs = some vs) (hws : valsOf ys = some ws) (hvl : Nat.beq vs.length i.size = true) (hwl : Nat.beq ws.length i.size = true)
    (hop : op = .eql) (hd : dlt o.dst σ.n = true) {b : Bool} (hb : eqT E sts 8 t vs ws = some b) (hK : K (σ.put o.dst (.d (.v (.bool b))))) : Step q E B o K Q σ := by
  subst hop
  refine step_val _ (fun B g w a hr => ?_) hd hK
  have hx' := ev_ok hr x
  have hy' := ev_ok hr y
  rw [hx] at hx'
  rw [hy] at hy'
  have hdx := vr_data hx'
  have hdy := vr_data hy'
  obtain ⟨ax, hax⟩ : ∃ ax, a.eval x = .agg ax := by generalize a.eval x = z at hdx; cases hdx; exact ⟨_, rfl⟩
  obtain ⟨ay, hay⟩ : ∃ ay, a.eval y = .agg ay := by generalize a.eval y = z at hdy; cases hdy; exact ⟨_, rfl⟩
  rw [hax] at hdx
  rw [hay] at hdy
  have e1 := valsOf_ok hvs hdx
  have e2 := valsOf_ok hws hdy
  subst e1; subst e2
  obtain ⟨_, h2, _⟩ := eqT_ok hst hfit w 9992 8 t i vs ws b hi (Nat.eq_of_beq_eq_true hvl) (Nat.eq_of_beq_eq_true hwl) hb
  have ha : aggT E.P t = some true := by simp [aggT, E.und hi, hif]
  simp only [asVal, ha, Option.getD_some, cond_true] at h2
  refine ⟨.bool b, ?_, .d _ _ (.v _)⟩
  simp only [execOp, ho, hax, hay]
  refine run_v ?_
  rw [Sem.run_bind, run_eqGuard_agg w .eql t x y _ _ hg, Result.andThen_ok, run_eql_struct w t, h2]; rfl

/-! ### Maps -/
open Go.MapKept in
theorem so_makeMap {q : Md} [Nw q] {t : TypeId} (ho : o.op = .makeMap t none) (hd : dlt o.dst σ.n = true)
    (hK : K (St.put { σ with h := upd σ.h σ.nx (.map []), nx := σ.nx + 1 } o.dst (.map σ.nx))) : Step q E B o K Q σ := by
  refine step_new _ _ (by simp) (fun B g w a hr => ?_) hd hK
  refine ⟨.map (some w.heap.size), .map #[] 0, 0, ?_, ⟨by simp [G.at, upd], by simp [G.at, upd], #[], 0, by simp only [G.at, upd, if_true]; exact heap_alloc_new w _, rfl, fun i e m h => by simp at h⟩, .map _ _ rfl (by omega) (fun _ => by simp [G.at, upd])⟩
  simp only [execOp, ho]
  exact run_v rfl

/-- Where a key stands. -/
def mfind (es : List (Value × AV)) (k : Value) (i : Nat) : Option Nat → Prop
  | none => ∀ p ∈ es, p.1 ≠ k
  | some j => ∃ v, es[j - i]? = some (k, v) ∧ i ≤ j ∧ ∀ m, m < j - i → ∀ p, es[m]? = some p → p.1 ≠ k

open Go.MapKept in
/-- Is it a key of this kind? -/
def keyOk (d : TypeDesc) (k : Value) : Prop := IsKey d k

theorem map_cells {g : G} {w : World} {a : Act} (hr : Rel E B g σ w a) {l : Nat} {x : Value} {es : List (Value × AV)} (hl : σ.h l = .map es) (hx : VR w g σ.nx (.map l) x) :
    ∃ ms clock, x = .map (some (g.ρ l)) ∧ w.heap[g.ρ l]? = some (.map ms clock) ∧ ms.size = es.length ∧ g.κ l = 0 ∧ g.vt l = false ∧ l < σ.nx ∧
      ∀ (i : Nat) (e : Value × AV) (m : MapEntry), es[i]? = some e → ms[i]? = some m → m.key = e.1 ∧ VR w g σ.nx e.2 m.val := by
  cases hx with
  | map _ _ g0 g1 g2 =>
    have hor := hr.hr.hp l g1
    rw [hl] at hor
    obtain ⟨f1, f2, ms, clock, f3, f4, f5⟩ := hor
    exact ⟨ms, clock, g2 f1, f3, f4, f1, f2, g1, f5⟩

open Go.MapKept in
theorem find_ok {d : TypeDesc} {k : Value} (hk : IsKey d k) {ms : Array MapEntry} {es : List (Value × AV)} (hkeys : ∀ p ∈ es, IsKey d p.1) (hs : ms.size = es.length) {w : World} {g : G} {nx : Nat}
    (hget : ∀ (i : Nat) (e : Value × AV) (m : MapEntry), es[i]? = some e → ms[i]? = some m → m.key = e.1 ∧ VR w g nx e.2 m.val) :
    (Instr.findNow d k ms.toList 0 = some none ∧ ∀ p ∈ es, p.1 ≠ k) ∨ ∃ j v m, es[j]? = some (k, v) ∧ ms[j]? = some m ∧ m.key = k ∧ VR w g nx v m.val ∧ Instr.findNow d k ms.toList 0 = some (some (j, m.val)) := by
  have hks : ∀ x ∈ ms.toList, IsKey d x.key := fun x hx => by
    obtain ⟨i, hi, rfl⟩ := List.mem_iff_getElem.1 hx
    have hi' : i < es.length := by rw [← hs]; simpa using hi
    have := (hget i es[i] ms.toList[i] (List.getElem?_eq_getElem hi') (by rw [← Array.getElem?_toList]; exact List.getElem?_eq_getElem hi)).1
    rw [this]; exact hkeys _ (List.getElem_mem hi')
  rcases findNow_spec hk ms.toList 0 hks with ⟨h1, h2⟩ | ⟨j, e, h1, h2, h3⟩
  · left
    refine ⟨h1, fun p hp he => ?_⟩
    obtain ⟨i, hi, rfl⟩ := List.mem_iff_getElem.1 hp
    have hi' : i < ms.toList.length := by simpa [hs] using hi
    have := (hget i es[i] ms.toList[i] (List.getElem?_eq_getElem hi) (by rw [← Array.getElem?_toList]; exact List.getElem?_eq_getElem hi')).1
    exact h2 _ (List.getElem_mem hi') (by rw [this]; exact he)
  · right
    have hj : j < es.length := by rw [← hs]; simpa using (List.getElem?_eq_some_iff.1 h2).1
    have hm : ms[j]? = some e := by rw [← Array.getElem?_toList]; exact h2
    obtain ⟨g1, g2⟩ := hget j es[j] e (List.getElem?_eq_getElem hj) hm
    refine ⟨j, es[j].2, e, ?_, hm, h3, g2, by rw [Nat.zero_add] at h1; exact h1⟩
    rw [List.getElem?_eq_getElem hj]
    congr 1
    rw [← h3, g1]

open Go.MapKept in
/-- A key that is looked up: the two cases are told apart, and each goes on. -/
theorem so_lookup {t : TypeId} {x ix : Operand} {ck : Bool} (ho : o.op = .lookup t x ix ck) {i : TI} (hi : E.ti t = some i) {kt et : TypeId} (ht : i.desc = .map kt et) {jk je : TI} (hjk : E.ti kt = some jk) (hje : E.ti et = some je)
    {l : Nat} (hx : ev E σ x = .map l) {es : List (Value × AV)} (hl : σ.h l = .map es) {k : Value} (hk : ev E σ ix = .d (.v k)) (hkk : IsKey jk.desc k) (hkeys : ∀ p ∈ es, IsKey jk.desc p.1) (hd : dlt o.dst σ.n = true)
    (hK0 : (∀ p ∈ es, p.1 ≠ k) → K (σ.put o.dst (if ck = true then .tup [constAV je.zero, .d (.v (.bool false))] else constAV je.zero)))
    (hK1 : ∀ (j : Nat) (v : AV), es[j]? = some (k, v) → K (σ.put o.dst (if ck = true then .tup [v, .d (.v (.bool true))] else v))) : Step .all E B o K Q σ := by
  intro g w a hr next hn
  obtain ⟨hu, _⟩ := E.ok t i hi
  have hu : E.P.underlying t = some (.map kt et) := by rw [hu, ht]
  obtain ⟨ms, clock, hxe, hh, hs, hκ, hvt, hlt, hget⟩ := map_cells hr hl (by rw [← hx]; exact ev_ok hr x)
  have hke := ev_ok hr ix
  rw [hk] at hke
  have hke := vr_val hke
  obtain ⟨huk, _⟩ := E.ok kt jk hjk
  obtain ⟨_, f, hf1, hf2, hf3, hf4⟩ := E.ok et je hje
  have tupOk : ∀ (v : AV) (y : Value) (b : Bool), VR w g σ.nx v y → VR w g σ.nx (if ck = true then .tup [v, .d (.v (.bool b))] else v) (if ck = true then .tuple #[y, .bool b] else y) := by
    intro v y b hv
    cases ck with
    | false => exact hv
    | true =>
      refine .tup _ _ rfl fun i c x hc hx => ?_
      match i with
      | 0 => simp at hc hx; subst hc; subst hx; exact hv
      | 1 => simp at hc hx; subst hc; subst hx; exact .d _ _ (.v _)
      | i + 2 => simp at hc
  have fin : ∀ (v : AV) (y : Value) (b : Bool), VR w g σ.nx v y → (Instr.lookup t (a.eval x) (a.eval ix) ck).run E.P w = .ok (if ck = true then .tuple #[y, .bool b] else y) w → K (σ.put o.dst (if ck = true then .tup [v, .d (.v (.bool b))] else v)) → o.wp E.P a w next (QC E B Q) := by
    intro v y b hv hrun hK
    unfold Oper.wp
    have : (execOp a.eval o).run E.P w = .ok (.value (if ck = true then .tuple #[y, .bool b] else y)) w := by
      simp only [execOp, ho]
      exact run_v hrun
    rw [this, Oper.upon_value]
    exact hn g _ w _ (rel_put hr hd (tupOk v y b hv)) hK
  have pre : ∀ (r : Option (Nat × Value)), Instr.findNow jk.desc k ms.toList 0 = some r → (Instr.lookup t (a.eval x) (a.eval ix) ck).run E.P w = ((match r with | some (_, v) => pure (v, true) | none => do pure (← zeroValue et, false) : Sem (Value × Bool)).run E.P w).andThen fun p w' => .ok (if ck = true then .tuple #[p.1, .bool p.2] else p.1) w' := by
    intro r hr'
    simp only [Instr.lookup, Sem.run_bind, run_underlying hu, Result.andThen_ok, hxe, hke, Go.MapKept.run_getObj_map (P := E.P) hh, Sem.run_pure, run_checkKey huk hkk, run_findKey huk hr']
    cases r with
    | none =>
      simp only [Sem.run_bind]
      cases (zeroValue et).run E.P w <;> cases ck <;> rfl
    | some p => cases ck <;> rfl
  rcases find_ok hkk hkeys hs hget with ⟨h1, h2⟩ | ⟨j, v, m, h1, h2, h3, h4, h5⟩
  · refine fin (constAV je.zero) je.zero false (vr_const w g _ _) ?_ (hK0 h2)
    have hz : (zeroValue et).run E.P w = .ok je.zero w := by simp [zeroValue, typeInfo, program, hf1, hf4, Sem.run, Sem.bind, pure, bind]
    rw [pre _ h1]
    simp only [Sem.run_bind, hz, Result.andThen_ok, Sem.run_pure]
  · refine fin v m.val true h4 ?_ (hK1 j v h1)
    rw [pre _ h5]
    simp only [Sem.run_pure, Result.andThen_ok]

/-- Where a key of a map of plain values stands. -/
def mget : List (Value × Value) → Value → Option Value → Prop
  | es, k, none => ∀ p ∈ es, p.1 ≠ k
  | es, k, some v => ∃ j : Nat, es[j]? = some (k, v)

open Go.MapKept in
/-- A key looked up in a map of data. -/
theorem so_lookupD {q : Md} [Qt q] {t : TypeId} {x ix : Operand} {ck : Bool} (ho : o.op = .lookup t x ix ck) {i : TI} (hi : E.ti t = some i) {kt et : TypeId} (ht : i.desc = .map kt et) {jk je : TI} (hjk : E.ti kt = some jk) (hje : E.ti et = some je)
    {es : List (Value × Value)} (hx : ev E σ x = .d (.map es)) {k : Value} (hk : ev E σ ix = .d (.v k)) (hd : dlt o.dst σ.n = true) (hkk : IsKey jk.desc k) (hkeys : ∀ p ∈ es, IsKey jk.desc p.1) (hone : ∀ (i j : Nat) v v', es[i]? = some (k, v) → es[j]? = some (k, v') → v = v')
    {r : Option Value} (hr : mget es k r)
    (hK : K (σ.put o.dst (match r with
      | some v => if ck = true then .tup [.d (.v v), .d (.v (.bool true))] else .d (.v v)
      | none => if ck = true then .tup [constAV je.zero, .d (.v (.bool false))] else constAV je.zero))) : Step q E B o K Q σ := by
  refine step_val _ (fun B g w a hrel => ?_) hd hK
  obtain ⟨hu, _⟩ := E.ok t i hi
  have hu : E.P.underlying t = some (.map kt et) := by rw [hu, ht]
  have hx' := ev_ok hrel x
  rw [hx] at hx'
  have hke := ev_ok hrel ix
  rw [hk] at hke
  have hke := vr_val hke
  obtain ⟨huk, _⟩ := E.ok kt jk hjk
  obtain ⟨_, f, hf1, hf2, hf3, hf4⟩ := E.ok et je hje
  have hz : (zeroValue et).run E.P w = .ok je.zero w := by simp [zeroValue, typeInfo, program, hf1, hf4, Sem.run, Sem.bind, pure, bind]
  have hdx := vr_data hx'
  generalize hax : a.eval x = ax at hdx
  cases hdx with
  | map _ b ms clock h1 h2 h3 h4 h5 =>
    have hget : ∀ (i : Nat) (e : Value × AV) (m : MapEntry), (es.map fun p => (p.1, AV.d (.v p.2)))[i]? = some e → ms[i]? = some m → m.key = e.1 ∧ VR w g σ.nx e.2 m.val := fun i e m he hm => by
      rw [List.getElem?_map, Option.map_eq_some_iff] at he
      obtain ⟨p, hp, rfl⟩ := he
      obtain ⟨g1, g2⟩ := h5 i p m hp hm
      exact ⟨g1, by rw [g2]; exact .d _ _ (.v _)⟩
    have tupOk : ∀ (v : AV) (y : Value) (b : Bool), VR w g σ.nx v y → VR w g σ.nx (if ck = true then .tup [v, .d (.v (.bool b))] else v) (if ck = true then .tuple #[y, .bool b] else y) := by
      intro v y b hv
      cases ck with
      | false => exact hv
      | true =>
        refine .tup _ _ rfl fun i c x hc hx => ?_
        match i with
        | 0 => simp at hc hx; subst hc; subst hx; exact hv
        | 1 => simp at hc hx; subst hc; subst hx; exact .d _ _ (.v _)
        | i + 2 => simp at hc
    have pre : ∀ (r : Option (Nat × Value)), Instr.findNow jk.desc k ms.toList 0 = some r → (Instr.lookup t (.map (some b)) (a.eval ix) ck).run E.P w = ((match r with | some (_, v) => pure (v, true) | none => do pure (← zeroValue et, false) : Sem (Value × Bool)).run E.P w).andThen fun p w' => .ok (if ck = true then .tuple #[p.1, .bool p.2] else p.1) w' := by
      intro r hr'
      simp only [Instr.lookup, Sem.run_bind, run_underlying hu, Result.andThen_ok, hke, Go.MapKept.run_getObj_map (P := E.P) h3, Sem.run_pure, run_checkKey huk hkk, run_findKey huk hr']
      cases r with
      | none =>
        simp only [Sem.run_bind]
        cases (zeroValue et).run E.P w <;> cases ck <;> rfl
      | some p => cases ck <;> rfl
    rcases find_ok hkk (es := es.map fun p => (p.1, AV.d (.v p.2))) (fun p hp => by obtain ⟨q, hq, rfl⟩ := List.mem_map.1 hp; exact hkeys q hq) (by simpa using h4) hget with ⟨g1, g2⟩ | ⟨j, v, m, g1, g2, g3, g4, g5⟩
    · have : r = none := by
        cases r with
        | none => rfl
        | some v =>
          obtain ⟨j, hj⟩ := hr
          exact absurd rfl (g2 (k, .d (.v v)) (List.mem_map.2 ⟨(k, v), List.mem_of_getElem? hj, rfl⟩))
      subst this
      refine ⟨_, ?_, tupOk (constAV je.zero) je.zero false (vr_const w g _ _)⟩
      simp only [execOp, ho, hax]
      refine run_v ?_
      rw [pre _ g1]
      simp only [Sem.run_bind, hz, Result.andThen_ok, Sem.run_pure]
    · rw [List.getElem?_map, Option.map_eq_some_iff] at g1
      obtain ⟨p, hp, hpe⟩ := g1
      simp only [Prod.mk.injEq] at hpe
      obtain ⟨e1, e2⟩ := hpe
      have hpk : es[j]? = some (k, p.2) := by rw [hp, ← e1]
      have : r = some p.2 := by
        cases r with
        | none => exact absurd e1 (hr p (List.mem_of_getElem? hp))
        | some v =>
          obtain ⟨j', hj'⟩ := hr
          rw [hone j' j _ _ hj' hpk]
      subst this
      subst e2
      refine ⟨_, ?_, tupOk (.d (.v p.2)) m.val true g4⟩
      simp only [execOp, ho, hax]
      refine run_v ?_
      rw [pre _ g5]
      simp only [Sem.run_pure, Result.andThen_ok]

open Go.MapKept in
theorem same_key {d : TypeDesc} {k : Value} (h : IsKey d k) (n : Nat) : Instr.sameBits n k k = true := by
  cases k with
  | bool _ => simp [Instr.sameBits]
  | int _ _ => simp [Instr.sameBits]
  | string s =>
    simp only [Instr.sameBits]
    obtain ⟨x⟩ := s
    show (x == x) = true
    simp
  | _ => cases d <;> simp [IsKey] at h

open Go.MapKept in
theorem so_mapUpdate {t : TypeId} {x ix y : Operand} (ho : o.op = .mapUpdate t x ix y) {i : TI} (hi : E.ti t = some i) {kt et : TypeId} (ht : i.desc = .map kt et) {jk : TI} (hjk : E.ti kt = some jk)
    {l : Nat} (hx : ev E σ x = .map l) {es : List (Value × AV)} (hl : σ.h l = .map es) {k : Value} (hk : ev E σ ix = .d (.v k)) (hkk : IsKey jk.desc k) (hkeys : ∀ p ∈ es, IsKey jk.desc p.1) (hd : dlt o.dst σ.n = true)
    (hK0 : (∀ p ∈ es, p.1 ≠ k) → K (St.put { σ with h := upd σ.h l (.map (es ++ [(k, ev E σ y)])) } o.dst .any))
    (hK1 : ∀ (j : Nat) (v : AV), es[j]? = some (k, v) → K (St.put { σ with h := upd σ.h l (.map (es.set j (k, ev E σ y))) } o.dst .any)) : Step .all E B o K Q σ := by
  intro g w a hr next hn
  obtain ⟨hu, _⟩ := E.ok t i hi
  have hu : E.P.underlying t = some (.map kt et) := by rw [hu, ht]
  obtain ⟨ms, clock, hxe, hh, hs, hκ, hvt, hlt, hget⟩ := map_cells hr hl (by rw [← hx]; exact ev_ok hr x)
  have hke := ev_ok hr ix
  rw [hk] at hke
  have hke := vr_val hke
  obtain ⟨huk, _⟩ := E.ok kt jk hjk
  have hye := ev_ok hr y
  have fin : ∀ (ob : Obj) (es' : List (Value × AV)), (Instr.mapUpdate t (a.eval x) (a.eval ix) (a.eval y)).run E.P w = .ok () { w with heap := w.heap.setIfInBounds (g.ρ l) ob } →
      (∀ w' : World, (∀ b, g.J b → w'.heap[b]? = w.heap[b]?) → w'.heap[g.ρ l]? = some ob → OR w' g σ.nx l (.map es')) → K (St.put { σ with h := upd σ.h l (.map es') } o.dst .any) → o.wp E.P a w next (QC E B Q) := by
    intro ob es' hrun hor hK
    unfold Oper.wp
    have : (execOp a.eval o).run E.P w = .ok .skip { w with heap := w.heap.setIfInBounds (g.ρ l) ob } := by
      simp only [execOp, ho]
      exact run_u hrun
    rw [this, Oper.upon_skip]
    have hoth : ∀ b, b ≠ g.ρ l → (w.heap.setIfInBounds (g.ρ l) ob)[b]? = w.heap[b]? := fun b hb => Array.getElem?_setIfInBounds_ne (Ne.symm hb)
    have hlt' : g.ρ l < w.heap.size := (Array.getElem?_eq_some_iff.1 hh).1
    have hrel := rel_turn (w' := { w with heap := w.heap.setIfInBounds (g.ρ l) ob }) hr hlt hvt _ (.map es') hl (by simp) (by simp) rfl rfl rfl (by simp) hoth
      (hor _ (fun b hb => hoth b (fun e => hr.hr.dis b hb ⟨l, hlt, by rw [hl]; simp, hvt, e.symm⟩)) (by simp [hlt']))
    exact hn g _ _ _ (rel_put hrel hd (.any _)) hK
  rcases find_ok hkk hkeys hs hget with ⟨h1, h2⟩ | ⟨j, v, m, h1, h2, h3, h4, h5⟩
  · refine fin (.map (ms.push { key := k, val := a.eval y, born := clock }) (clock + 1)) (es ++ [(k, ev E σ y)]) ?_ (fun w' hJ hob => ?_) (hK0 h2)
    · simp only [Instr.mapUpdate, Sem.run_bind, run_underlying hu, Result.andThen_ok, hxe, hke, Go.MapKept.run_getObj_map (P := E.P) hh, run_checkKey huk hkk, run_findKey huk h1, Go.MapKept.run_setObj_map (P := E.P) _ hh]
    · refine ⟨hκ, hvt, _, _, hob, by simp [hs], fun i e m' he hm => ?_⟩
      by_cases hi : i < es.length
      · rw [List.getElem?_append_left hi] at he
        rw [Array.getElem?_push, if_neg (by omega)] at hm
        exact ⟨(hget i e m' he hm).1, (hget i e m' he hm).2.mono (GLe.refl g _) (Nat.le_refl _) hJ⟩
      · have : i = es.length := by
          have := (List.getElem?_eq_some_iff.1 he).1
          simp at this; omega
        subst this
        rw [List.getElem?_append_right (Nat.le_refl _)] at he
        simp at he
        rw [Array.getElem?_push, if_pos hs.symm] at hm
        simp at hm
        subst he; subst hm
        exact ⟨rfl, hye.mono (GLe.refl g _) (Nat.le_refl _) hJ⟩
  · have hj : j < ms.size := (Array.getElem?_eq_some_iff.1 h2).1
    refine fin (.map (ms.modify j fun e => { e with key := k, val := a.eval y }) clock) (es.set j (k, ev E σ y)) ?_ (fun w' hJ hob => ?_) (hK1 j v h1)
    · have hold : ((ms[j]?).map (·.key)).getD k = k := by rw [h2]; exact h3
      have hsame : (Instr.keyThatStays k k).run E.P w = .ok k w := by
        unfold Instr.keyThatStays
        rw [same_key hkk]; simp
      simp only [Instr.mapUpdate, Sem.run_bind, run_underlying hu, Result.andThen_ok, hxe, hke, Go.MapKept.run_getObj_map (P := E.P) hh, run_checkKey huk hkk, run_findKey huk h5, hold, hsame, Go.MapKept.run_setObj_map (P := E.P) _ hh]
    · refine ⟨hκ, hvt, _, _, hob, by simp [hs], fun i e m' he hm => ?_⟩
      by_cases hij : i = j
      · subst hij
        have hje : i < es.length := (List.getElem?_eq_some_iff.1 h1).1
        rw [List.getElem?_set_self hje] at he
        rw [Array.getElem?_modify, if_pos rfl, h2] at hm
        simp at he hm
        subst he; subst hm
        exact ⟨rfl, hye.mono (GLe.refl g _) (Nat.le_refl _) hJ⟩
      · rw [List.getElem?_set_ne (Ne.symm hij)] at he
        rw [Array.getElem?_modify, if_neg (Ne.symm hij)] at hm
        exact ⟨(hget i e m' he hm).1, (hget i e m' he hm).2.mono (GLe.refl g _) (Nat.le_refl _) hJ⟩
end
end Go.Proofs.YtdcpnpcmgfmenaaDoor.Lg
