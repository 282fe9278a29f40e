/-
  Texts of the proof, part 2: the logic, walks of functions, plain laws. Conditions: none.
-/
import Derived.Test.YtdcpnpcmgfmenaaGreatDoorM1
import Derived.MapKept
import Derived.Test.YtdcpnpcmgfmenaaGreatDoorProg
import Derived.KernelRfl
import Derived.Lib.LaidU8T
import Derived.Shelf.Unicode.ValidAny
import Derived.Shelf.Strings.SlTrimAscii
import Derived.Shelf.Strings.Prefix
set_option linter.unusedVariables false
set_option linter.unusedSimpArgs false
/-
  Comparisons and maps. Conditions: none.
-/
set_option linter.unusedSimpArgs false
set_option linter.unusedVariables false
namespace Go.Proofs.YtdcpnpcmgfmenaaGreatDoor.Lg
open Go Go.RowKit

section
variable {E : Env} {B : Base} {Q : Exit → St → Prop} {σ : St} {o : Oper} {K : St → Prop}

theorem so_eqB {q : Md} [Qt q] {op : BinOp} {t u : TypeId} {x y : Operand} (ho : o.op = .binOp op t x y u) {i : TI} (hi : E.ti t = some i) (ht : i.desc = .bool) {a b : Bool} (hx : ev E σ x = .d (.v (.bool a))) (hy : ev E σ y = .d (.v (.bool b)))
    (hop : op = .eql) (hd : dlt o.dst σ.n = true) (hK : K (σ.put o.dst (.d (.v (.bool (a == b)))))) : Step q E B o K Q σ := by
  subst hop
  refine step_val _ (fun B g w ac hr => ?_) hd hK
  have hx' := ev_ok hr x
  have hy' := ev_ok hr y
  rw [hx] at hx'
  rw [hy] at hy'
  refine ⟨_, ?_, .d _ _ (.v _)⟩
  simp only [execOp, ho, vr_val hx', vr_val hy']
  refine run_v ?_
  simp only [Sem.run_bind, eqGuard]
  have := run_eql_bool (P := E.P) w t a b (by rw [E.und hi, ht])
  simpa using this
theorem so_neB {q : Md} [Qt q] {op : BinOp} {t u : TypeId} {x y : Operand} (ho : o.op = .binOp op t x y u) {i : TI} (hi : E.ti t = some i) (ht : i.desc = .bool) {a b : Bool} (hx : ev E σ x = .d (.v (.bool a))) (hy : ev E σ y = .d (.v (.bool b)))
    (hop : op = .neq) (hd : dlt o.dst σ.n = true) (hK : K (σ.put o.dst (.d (.v (.bool (!(a == b))))))) : Step q E B o K Q σ := by
  subst hop
  refine step_val _ (fun B g w ac hr => ?_) hd hK
  have hx' := ev_ok hr x
  have hy' := ev_ok hr y
  rw [hx] at hx'
  rw [hy] at hy'
  refine ⟨_, ?_, .d _ _ (.v _)⟩
  simp only [execOp, ho, vr_val hx', vr_val hy']
  refine run_v ?_
  have := run_neq_bool (P := E.P) w t a b (by rw [E.und hi, ht])
  simpa [eqGuard] using this

/-! ### Structs compared -/
def eqFs (E : Env) (rec : TypeId → List Value → List Value → Option Bool) : List Field → List Value → List Value → Option Bool
  | [], _, _ => some true
  | f :: fs, xs, ys =>
    match E.ti f.type with
    | none => none
    | some j => match rec f.type ((xs.drop f.offset).take j.size) ((ys.drop f.offset).take j.size) with
      | none => none
      | some r => match eqFs E rec fs xs ys with
        | none => none
        | some r' => some (r && r')
def kindEq : IntKind → IntKind → Bool := fun a b => decide (a = b)
def eqT (E : Env) (sts : List TypeId) : Nat → TypeId → List Value → List Value → Option Bool
  | 0, _, _, _ => none
  | n + 1, t, xs, ys =>
    match E.ti t with
    | none => none
    | some i => match i.desc with
      | .bool => match xs, ys with
        | [.bool a], [.bool b] => some (a == b)
        | _, _ => none
      | .int _ => match xs, ys with
        | [.int k a], [.int k' b] => bif kindEq k k' then some (a == b) else none
        | _, _ => none
      | .string => match xs, ys with
        | [.string a], [.string b] => some (a.toList == b.toList)
        | _, _ => none
      | .struct fs => bif has sts t then eqFs E (eqT E sts n) fs.toList xs ys else none
      | _ => none

/-- The value that a type's cells are. -/
def asVal (P : Program) (t : TypeId) (xs : List Value) : Value := bif (aggT P t).getD false then .agg xs.toArray else xs.headD undef
/-- The structs are compared part by part, by name. -/
def plainSt (P : Program) (t : TypeId) : Bool := !P.stoodInHeld t && match P.underlying t with
  | some (.struct fs) => fs.toList.all fun f => f.name != "_"
  | _ => false

theorem run_partL {E : Env} {t : TypeId} {j : TI} (hj : E.ti t = some j) {b : Bool} (hb : aggT E.P t = some b) (xs : List Value) (off : Nat) (hle : off + j.size ≤ xs.length) (hp : b = false → 0 < j.size) (w : World) :
    (part t xs.toArray off).run E.P w = .ok (asVal E.P t ((xs.drop off).take j.size)) w := by
  unfold part asVal
  rw [hb]
  simp only [Sem.run_bind, run_isAgg hb, Result.andThen_ok, Option.getD_some]
  cases b with
  | true =>
    simp only [if_true, Sem.run_bind, run_sizeOf (show (E.P.info? t).map (·.size) = some j.size by rw [E.sz hj]), Result.andThen_ok, Sem.run_pure, cond_true]
    congr 2
    apply Array.ext'
    simp [Array.toList_extract, List.extract]
  | false =>
    have h0 := hp rfl
    have hlt : off < xs.length := by omega
    simp only [Bool.false_eq_true, if_false, cond_false]
    have : xs.toArray[off]? = some xs[off] := by simp [hlt]
    rw [this]
    simp only [Sem.run_pure]
    congr 1
    rw [List.headD_eq_head?_getD, List.head?_take, if_neg (by omega), List.head?_drop]
    simp [hlt]

theorem plainSt_ok {P : Program} {t : TypeId} (h : plainSt P t = true) : P.stoodInHeld t = false ∧ ∃ fs, P.underlying t = some (.struct fs) ∧ ∀ f ∈ fs.toList, f.name ≠ "_" := by
  simp only [plainSt, Bool.and_eq_true, Bool.not_eq_true'] at h
  refine ⟨h.1, ?_⟩
  have h2 := h.2
  split at h2
  · rename_i fs hfs
    exact ⟨fs, hfs, fun f hf => by simpa using List.all_eq_true.1 h2 f hf⟩
  · cases h2

theorem eqFs_ok {E : Env} {rec : TypeId → List Value → List Value → Option Bool} {d : Nat} {w : World}
    (hrec : ∀ t j xs ys b, E.ti t = some j → xs.length = j.size → ys.length = j.size → rec t xs ys = some b → (aggT E.P t).isSome = true ∧ (Op.equalIn d t (asVal E.P t xs) (asVal E.P t ys)).run E.P w = .ok b w ∧ (aggT E.P t = some false → 0 < j.size)) :
    ∀ (fs : List Field) (xs ys : List Value) (b : Bool), (∀ f ∈ fs, f.name ≠ "_") → (∀ f ∈ fs, ∀ j, E.ti f.type = some j → f.offset + j.size ≤ xs.length ∧ f.offset + j.size ≤ ys.length) → eqFs E rec fs xs ys = some b → (Op.eqFields d xs.toArray ys.toArray fs).run E.P w = .ok b w
  | [], xs, ys, b, _, _, h => by
    simp only [eqFs, Option.some.injEq] at h; subst h
    simp [Op.eqFields]
  | f :: fs, xs, ys, b, hn, hl, h => by
    simp only [eqFs] at h
    cases hj : E.ti f.type with
    | none => rw [hj] at h; cases h
    | some j =>
      rw [hj] at h
      simp only at h
      obtain ⟨l1, l2⟩ := hl f (by simp) j hj
      cases hr : rec f.type ((xs.drop f.offset).take j.size) ((ys.drop f.offset).take j.size) with
      | none => rw [hr] at h; cases h
      | some r =>
        rw [hr] at h
        simp only at h
        cases hr' : eqFs E rec fs xs ys with
        | none => rw [hr'] at h; cases h
        | some r' =>
          rw [hr'] at h
          simp only [Option.some.injEq] at h
          obtain ⟨h1, h2, h3⟩ := hrec f.type j _ _ r hj (by simp; omega) (by simp; omega) hr
          obtain ⟨bg, hbg⟩ := Option.isSome_iff_exists.1 h1
          have hp : bg = false → 0 < j.size := fun e => h3 (by rw [hbg, e])
          have ih := eqFs_ok hrec fs xs ys r' (fun f hf => hn f (by simp [hf])) (fun f hf => hl f (by simp [hf])) hr'
          unfold Op.eqFields
          rw [if_pos (hn f (by simp))]
          simp only [Sem.run_bind, run_partL hj hbg xs f.offset l1 hp, run_partL hj hbg ys f.offset l2 hp, Result.andThen_ok, h2]
          cases r with
          | true => simp only [Bool.not_true, Bool.false_eq_true, if_false, ih]; rw [← h]; rfl
          | false => simp only [Bool.not_false, if_true, Sem.run_pure]; rw [← h]; rfl

/-- The parts lie within. -/
def fitsT (E : Env) (t : TypeId) : Bool :=
  match E.ti t with
  | some i => match i.desc with
    | .struct fs => fs.toList.all fun f => match E.ti f.type with
      | some j => Nat.ble (f.offset + j.size) i.size
      | none => true
    | .bool | .int _ | .string => Nat.blt 0 i.size
    | _ => true
  | none => false

theorem eqT_ok {E : Env} {sts : List TypeId} (hst : (sts.all fun t => plainSt E.P t) = true) (hfit : ∀ t j, E.ti t = some j → fitsT E t = true) (w : World) (m : Nat) : ∀ (n : Nat) (t : TypeId) (j : TI) (xs ys : List Value) (b : Bool), E.ti t = some j → xs.length = j.size → ys.length = j.size → eqT E sts n t xs ys = some b →
    (aggT E.P t).isSome = true ∧ (Op.equalIn (n + m) t (asVal E.P t xs) (asVal E.P t ys)).run E.P w = .ok b w ∧ (aggT E.P t = some false → 0 < j.size)
  | 0, t, j, xs, ys, b, hj, _, _, h => by simp [eqT] at h
  | n + 1, t, j, xs, ys, b, hj, hx, hy, h => by
    have hf := hfit t j hj
    have hu := E.und hj
    simp only [eqT, hj] at h
    simp only [fitsT, hj] at hf
    rw [show n + 1 + m = (n + m) + 1 by omega]
    cases hdj : j.desc with
    | bool =>
      rw [hdj] at h hu hf
      have ha : aggT E.P t = some false := by simp [aggT, hu]
      refine ⟨by simp [ha], ?_, fun _ => Nat.le_of_ble_eq_true hf⟩
      simp only at h
      split at h
      · rename_i a b'
        cases h
        simp only [asVal, ha, Option.getD_some, cond_false, List.headD_cons]
        exact run_equalIn_bool w _ t a b' hu
      · cases h
    | int k =>
      rw [hdj] at h hu hf
      have ha : aggT E.P t = some false := by simp [aggT, hu]
      refine ⟨by simp [ha], ?_, fun _ => Nat.le_of_ble_eq_true hf⟩
      simp only at h
      split at h
      · rename_i k1 a k2 b'
        cases hk : kindEq k1 k2 with
        | false => rw [hk] at h; cases h
        | true =>
          rw [hk] at h; cases h
          have : k1 = k2 := of_decide_eq_true hk
          subst this
          simp only [asVal, ha, Option.getD_some, cond_false, List.headD_cons]
          exact run_equalIn_int w _ t k1 k a b' hu
      · cases h
    | string =>
      rw [hdj] at h hu hf
      have ha : aggT E.P t = some false := by simp [aggT, hu]
      refine ⟨by simp [ha], ?_, fun _ => Nat.le_of_ble_eq_true hf⟩
      simp only at h
      split at h
      · rename_i a b'
        cases h
        simp only [asVal, ha, Option.getD_some, cond_false, List.headD_cons]
        exact run_equalIn_string w _ t a b' hu
      · cases h
    | struct fs =>
      rw [hdj] at h hu hf
      have ha : aggT E.P t = some true := by simp [aggT, hu]
      refine ⟨by simp [ha], ?_, fun h => by rw [ha] at h; cases h⟩
      simp only at h hf
      cases hs : has sts t with
      | false => rw [hs] at h; cases h
      | true =>
        rw [hs, cond_true] at h
        obtain ⟨p1, fs', p2, p3⟩ := plainSt_ok (List.all_eq_true.1 hst t (has_iff.1 hs))
        have : fs' = fs := by rw [hu] at p2; simpa using p2.symm
        subst this
        have hfo : E.P.fieldsOf t = fs' := by simp [Program.fieldsOf, hu]
        simp only [asVal, ha, Option.getD_some, cond_true]
        rw [run_equalIn_struct w (n + m) t _ _ (by rw [hfo]; exact hu) p1, hfo]
        refine eqFs_ok (fun t j xs ys b h1 h2 h3 h4 => eqT_ok hst hfit w m n t j xs ys b h1 h2 h3 h4) _ xs ys b p3 (fun f hf' j' hj' => ?_) h
        have := List.all_eq_true.1 hf f hf'
        rw [hj'] at this
        have := Nat.le_of_ble_eq_true this
        omega
    | _ => rw [hdj] at h; simp at h

def valsOf : List D → Option (List Value)
  | [] => some []
  | .v x :: r => (valsOf r).map (x :: ·)
  | _ => none
theorem dr_v {w : World} {I J : Nat → Prop} {v x : Value} (h : DR w I J (.v v) x) : x = v := by cases h; rfl
theorem valsOf_ok {w : World} {I J : Nat → Prop} : ∀ {cs : List D} {vs : List Value}, valsOf cs = some vs → ∀ {xs : Array Value}, DR w I J (.agg cs) (.agg xs) → xs = vs.toArray := by
  intro cs vs h xs hx
  have key : ∀ {cs : List D} {vs : List Value}, valsOf cs = some vs → cs = vs.map .v := by
    intro cs
    induction cs with
    | nil => intro vs h; cases h; rfl
    | cons c cs ih =>
      intro vs h
      cases c with
      | v x =>
        simp only [valsOf, Option.map_eq_some_iff] at h
        obtain ⟨r, hr, rfl⟩ := h
        rw [ih hr]; rfl
      | agg _ => cases h
      | sl _ _ => cases h
      | map _ => cases h
  have := key h
  subst this
  cases hx with
  | agg _ _ h1 h2 =>
    apply Array.ext
    · simpa using h1
    · intro i g1 g2
      have hi : i < vs.length := by simpa using g2
      have := h2 i (.v vs[i]) xs[i] (by simp [hi]) (Array.getElem?_eq_getElem g1)
      rw [dr_v this]; simp

theorem so_eqT {q : Md} [Qt q] {op : BinOp} {t u : TypeId} {x y : Operand} (ho : o.op = .binOp op t x y u) (sts : List TypeId) (hst : (sts.all fun t => plainSt E.P t) = true) (hfit : ∀ t j, E.ti t = some j → fitsT E t = true) (hg : E.P.eqGuardType E.P.depth t = false)
    {i : TI} (hi : E.ti t = some i) {fs : Array Field} (hif : i.desc = .struct fs) {xs ys : List D} (hx : ev E σ x = .d (.agg xs)) (hy : ev E σ y = .d (.agg ys)) {vs ws : List Value} (hvs : valsOf xs = some vs) (hws : valsOf ys = some ws) (hvl : Nat.beq vs.length i.size = true) (hwl : Nat.beq ws.length i.size = true)
    (hop : op = .eql) (hd : dlt o.dst σ.n = true) {b : Bool} (hb : eqT E sts 8 t vs ws = some b) (hK : K (σ.put o.dst (.d (.v (.bool b))))) : Step q E B o K Q σ := by
  subst hop
  refine step_val _ (fun B g w a hr => ?_) hd hK
  have hx' := ev_ok hr x
  have hy' := ev_ok hr y
  rw [hx] at hx'
  rw [hy] at hy'
  have hdx := vr_data hx'
  have hdy := vr_data hy'
  obtain ⟨ax, hax⟩ : ∃ ax, a.eval x = .agg ax := by generalize a.eval x = z at hdx; cases hdx; exact ⟨_, rfl⟩
  obtain ⟨ay, hay⟩ : ∃ ay, a.eval y = .agg ay := by generalize a.eval y = z at hdy; cases hdy; exact ⟨_, rfl⟩
  rw [hax] at hdx
  rw [hay] at hdy
  have e1 := valsOf_ok hvs hdx
  have e2 := valsOf_ok hws hdy
  subst e1; subst e2
  obtain ⟨_, h2, _⟩ := eqT_ok hst hfit w 9992 8 t i vs ws b hi (Nat.eq_of_beq_eq_true hvl) (Nat.eq_of_beq_eq_true hwl) hb
  have ha : aggT E.P t = some true := by simp [aggT, E.und hi, hif]
  simp only [asVal, ha, Option.getD_some, cond_true] at h2
  refine ⟨.bool b, ?_, .d _ _ (.v _)⟩
  simp only [execOp, ho, hax, hay]
  refine run_v ?_
  rw [Sem.run_bind, run_eqGuard_agg w .eql t x y _ _ hg, Result.andThen_ok, run_eql_struct w t, h2]; rfl

/-! ### Maps -/
open Go.MapKept in
theorem so_makeMap {q : Md} [Nw q] {t : TypeId} (ho : o.op = .makeMap t none) (hd : dlt o.dst σ.n = true)
    (hK : K (St.put { σ with h := upd σ.h σ.nx (.map []), nx := σ.nx + 1 } o.dst (.map σ.nx))) : Step q E B o K Q σ := by
  refine step_new _ _ (by simp) (fun B g w a hr => ?_) hd hK
  refine ⟨.map (some w.heap.size), .map #[] 0, 0, ?_, ⟨by simp [G.at, upd], by simp [G.at, upd], #[], 0, by simp only [G.at, upd, if_true]; exact heap_alloc_new w _, rfl, fun i e m h => by simp at h⟩, .map _ _ rfl (by omega) (fun _ => by simp [G.at, upd])⟩
  simp only [execOp, ho]
  exact run_v rfl

/-- Where a key stands. -/
def mfind (es : List (Value × AV)) (k : Value) (i : Nat) : Option Nat → Prop
  | none => ∀ p ∈ es, p.1 ≠ k
  | some j => ∃ v, es[j - i]? = some (k, v) ∧ i ≤ j ∧ ∀ m, m < j - i → ∀ p, es[m]? = some p → p.1 ≠ k

open Go.MapKept in
/-- Is it a key of this kind? -/
def keyOk (d : TypeDesc) (k : Value) : Prop := IsKey d k

theorem map_cells {g : G} {w : World} {a : Act} (hr : Rel E B g σ w a) {l : Nat} {x : Value} {es : List (Value × AV)} (hl : σ.h l = .map es) (hx : VR w g σ.nx (.map l) x) :
    ∃ ms clock, x = .map (some (g.ρ l)) ∧ w.heap[g.ρ l]? = some (.map ms clock) ∧ ms.size = es.length ∧ g.κ l = 0 ∧ g.vt l = false ∧ l < σ.nx ∧
      ∀ (i : Nat) (e : Value × AV) (m : MapEntry), es[i]? = some e → ms[i]? = some m → m.key = e.1 ∧ VR w g σ.nx e.2 m.val := by
  cases hx with
  | map _ _ g0 g1 g2 =>
    have hor := hr.hr.hp l g1
    rw [hl] at hor
    obtain ⟨f1, f2, ms, clock, f3, f4, f5⟩ := hor
    exact ⟨ms, clock, g2 f1, f3, f4, f1, f2, g1, f5⟩

open Go.MapKept in
theorem find_ok {d : TypeDesc} {k : Value} (hk : IsKey d k) {ms : Array MapEntry} {es : List (Value × AV)} (hkeys : ∀ p ∈ es, IsKey d p.1) (hs : ms.size = es.length) {w : World} {g : G} {nx : Nat}
    (hget : ∀ (i : Nat) (e : Value × AV) (m : MapEntry), es[i]? = some e → ms[i]? = some m → m.key = e.1 ∧ VR w g nx e.2 m.val) :
    (Instr.findNow d k ms.toList 0 = some none ∧ ∀ p ∈ es, p.1 ≠ k) ∨ ∃ j v m, es[j]? = some (k, v) ∧ ms[j]? = some m ∧ m.key = k ∧ VR w g nx v m.val ∧ Instr.findNow d k ms.toList 0 = some (some (j, m.val)) := by
  have hks : ∀ x ∈ ms.toList, IsKey d x.key := fun x hx => by
    obtain ⟨i, hi, rfl⟩ := List.mem_iff_getElem.1 hx
    have hi' : i < es.length := by rw [← hs]; simpa using hi
    have := (hget i es[i] ms.toList[i] (List.getElem?_eq_getElem hi') (by rw [← Array.getElem?_toList]; exact List.getElem?_eq_getElem hi)).1
    rw [this]; exact hkeys _ (List.getElem_mem hi')
  rcases findNow_spec hk ms.toList 0 hks with ⟨h1, h2⟩ | ⟨j, e, h1, h2, h3⟩
  · left
    refine ⟨h1, fun p hp he => ?_⟩
    obtain ⟨i, hi, rfl⟩ := List.mem_iff_getElem.1 hp
    have hi' : i < ms.toList.length := by simpa [hs] using hi
    have := (hget i es[i] ms.toList[i] (List.getElem?_eq_getElem hi) (by rw [← Array.getElem?_toList]; exact List.getElem?_eq_getElem hi')).1
    exact h2 _ (List.getElem_mem hi') (by rw [this]; exact he)
  · right
    have hj : j < es.length := by rw [← hs]; simpa using (List.getElem?_eq_some_iff.1 h2).1
    have hm : ms[j]? = some e := by rw [← Array.getElem?_toList]; exact h2
    obtain ⟨g1, g2⟩ := hget j es[j] e (List.getElem?_eq_getElem hj) hm
    refine ⟨j, es[j].2, e, ?_, hm, h3, g2, by rw [Nat.zero_add] at h1; exact h1⟩
    rw [List.getElem?_eq_getElem hj]
    congr 1
    rw [← h3, g1]

open Go.MapKept in
/-- A key that is looked up: the two cases are told apart, and each goes on. -/
theorem so_lookup {t : TypeId} {x ix : Operand} {ck : Bool} (ho : o.op = .lookup t x ix ck) {i : TI} (hi : E.ti t = some i) {kt et : TypeId} (ht : i.desc = .map kt et) {jk je : TI} (hjk : E.ti kt = some jk) (hje : E.ti et = some je)
    {l : Nat} (hx : ev E σ x = .map l) {es : List (Value × AV)} (hl : σ.h l = .map es) {k : Value} (hk : ev E σ ix = .d (.v k)) (hkk : IsKey jk.desc k) (hkeys : ∀ p ∈ es, IsKey jk.desc p.1) (hd : dlt o.dst σ.n = true)
    (hK0 : (∀ p ∈ es, p.1 ≠ k) → K (σ.put o.dst (if ck = true then .tup [constAV je.zero, .d (.v (.bool false))] else constAV je.zero)))
    (hK1 : ∀ (j : Nat) (v : AV), es[j]? = some (k, v) → K (σ.put o.dst (if ck = true then .tup [v, .d (.v (.bool true))] else v))) : Step .all E B o K Q σ := by
  intro g w a hr next hn
  obtain ⟨hu, _⟩ := E.ok t i hi
  have hu : E.P.underlying t = some (.map kt et) := by rw [hu, ht]
  obtain ⟨ms, clock, hxe, hh, hs, hκ, hvt, hlt, hget⟩ := map_cells hr hl (by rw [← hx]; exact ev_ok hr x)
  have hke := ev_ok hr ix
  rw [hk] at hke
  have hke := vr_val hke
  obtain ⟨huk, _⟩ := E.ok kt jk hjk
  obtain ⟨_, f, hf1, hf2, hf3, hf4⟩ := E.ok et je hje
  have tupOk : ∀ (v : AV) (y : Value) (b : Bool), VR w g σ.nx v y → VR w g σ.nx (if ck = true then .tup [v, .d (.v (.bool b))] else v) (if ck = true then .tuple #[y, .bool b] else y) := by
    intro v y b hv
    cases ck with
    | false => exact hv
    | true =>
      refine .tup _ _ rfl fun i c x hc hx => ?_
      match i with
      | 0 => simp at hc hx; subst hc; subst hx; exact hv
      | 1 => simp at hc hx; subst hc; subst hx; exact .d _ _ (.v _)
      | i + 2 => simp at hc
  have fin : ∀ (v : AV) (y : Value) (b : Bool), VR w g σ.nx v y → (Instr.lookup t (a.eval x) (a.eval ix) ck).run E.P w = .ok (if ck = true then .tuple #[y, .bool b] else y) w → K (σ.put o.dst (if ck = true then .tup [v, .d (.v (.bool b))] else v)) → o.wp E.P a w next (QC E B Q) := by
    intro v y b hv hrun hK
    unfold Oper.wp
    have : (execOp a.eval o).run E.P w = .ok (.value (if ck = true then .tuple #[y, .bool b] else y)) w := by
      simp only [execOp, ho]
      exact run_v hrun
    rw [this, Oper.upon_value]
    exact hn g _ w _ (rel_put hr hd (tupOk v y b hv)) hK
  have pre : ∀ (r : Option (Nat × Value)), Instr.findNow jk.desc k ms.toList 0 = some r → (Instr.lookup t (a.eval x) (a.eval ix) ck).run E.P w = ((match r with | some (_, v) => pure (v, true) | none => do pure (← zeroValue et, false) : Sem (Value × Bool)).run E.P w).andThen fun p w' => .ok (if ck = true then .tuple #[p.1, .bool p.2] else p.1) w' := by
    intro r hr'
    simp only [Instr.lookup, Sem.run_bind, run_underlying hu, Result.andThen_ok, hxe, hke, Go.MapKept.run_getObj_map (P := E.P) hh, Sem.run_pure, run_checkKey huk hkk, run_findKey huk hr']
    cases r with
    | none =>
      simp only [Sem.run_bind]
      cases (zeroValue et).run E.P w <;> cases ck <;> rfl
    | some p => cases ck <;> rfl
  rcases find_ok hkk hkeys hs hget with ⟨h1, h2⟩ | ⟨j, v, m, h1, h2, h3, h4, h5⟩
  · refine fin (constAV je.zero) je.zero false (vr_const w g _ _) ?_ (hK0 h2)
    have hz : (zeroValue et).run E.P w = .ok je.zero w := by simp [zeroValue, typeInfo, program, hf1, hf4, Sem.run, Sem.bind, pure, bind]
    rw [pre _ h1]
    simp only [Sem.run_bind, hz, Result.andThen_ok, Sem.run_pure]
  · refine fin v m.val true h4 ?_ (hK1 j v h1)
    rw [pre _ h5]
    simp only [Sem.run_pure, Result.andThen_ok]

/-- Where a key of a map of plain values stands. -/
def mget : List (Value × Value) → Value → Option Value → Prop
  | es, k, none => ∀ p ∈ es, p.1 ≠ k
  | es, k, some v => ∃ j : Nat, es[j]? = some (k, v)

open Go.MapKept in
/-- A key looked up in a map of data. -/
theorem so_lookupD {q : Md} [Qt q] {t : TypeId} {x ix : Operand} {ck : Bool} (ho : o.op = .lookup t x ix ck) {i : TI} (hi : E.ti t = some i) {kt et : TypeId} (ht : i.desc = .map kt et) {jk je : TI} (hjk : E.ti kt = some jk) (hje : E.ti et = some je)
    {es : List (Value × Value)} (hx : ev E σ x = .d (.map es)) {k : Value} (hk : ev E σ ix = .d (.v k)) (hd : dlt o.dst σ.n = true) (hkk : IsKey jk.desc k) (hkeys : ∀ p ∈ es, IsKey jk.desc p.1) (hone : ∀ (i j : Nat) v v', es[i]? = some (k, v) → es[j]? = some (k, v') → v = v')
    {r : Option Value} (hr : mget es k r)
    (hK : K (σ.put o.dst (match r with
      | some v => if ck = true then .tup [.d (.v v), .d (.v (.bool true))] else .d (.v v)
      | none => if ck = true then .tup [constAV je.zero, .d (.v (.bool false))] else constAV je.zero))) : Step q E B o K Q σ := by
  refine step_val _ (fun B g w a hrel => ?_) hd hK
  obtain ⟨hu, _⟩ := E.ok t i hi
  have hu : E.P.underlying t = some (.map kt et) := by rw [hu, ht]
  have hx' := ev_ok hrel x
  rw [hx] at hx'
  have hke := ev_ok hrel ix
  rw [hk] at hke
  have hke := vr_val hke
  obtain ⟨huk, _⟩ := E.ok kt jk hjk
  obtain ⟨_, f, hf1, hf2, hf3, hf4⟩ := E.ok et je hje
  have hz : (zeroValue et).run E.P w = .ok je.zero w := by simp [zeroValue, typeInfo, program, hf1, hf4, Sem.run, Sem.bind, pure, bind]
  have hdx := vr_data hx'
  generalize hax : a.eval x = ax at hdx
  cases hdx with
  | map _ b ms clock h1 h2 h3 h4 h5 =>
    have hget : ∀ (i : Nat) (e : Value × AV) (m : MapEntry), (es.map fun p => (p.1, AV.d (.v p.2)))[i]? = some e → ms[i]? = some m → m.key = e.1 ∧ VR w g σ.nx e.2 m.val := fun i e m he hm => by
      rw [List.getElem?_map, Option.map_eq_some_iff] at he
      obtain ⟨p, hp, rfl⟩ := he
      obtain ⟨g1, g2⟩ := h5 i p m hp hm
      exact ⟨g1, by rw [g2]; exact .d _ _ (.v _)⟩
    have tupOk : ∀ (v : AV) (y : Value) (b : Bool), VR w g σ.nx v y → VR w g σ.nx (if ck = true then .tup [v, .d (.v (.bool b))] else v) (if ck = true then .tuple #[y, .bool b] else y) := by
      intro v y b hv
      cases ck with
      | false => exact hv
      | true =>
        refine .tup _ _ rfl fun i c x hc hx => ?_
        match i with
        | 0 => simp at hc hx; subst hc; subst hx; exact hv
        | 1 => simp at hc hx; subst hc; subst hx; exact .d _ _ (.v _)
        | i + 2 => simp at hc
    have pre : ∀ (r : Option (Nat × Value)), Instr.findNow jk.desc k ms.toList 0 = some r → (Instr.lookup t (.map (some b)) (a.eval ix) ck).run E.P w = ((match r with | some (_, v) => pure (v, true) | none => do pure (← zeroValue et, false) : Sem (Value × Bool)).run E.P w).andThen fun p w' => .ok (if ck = true then .tuple #[p.1, .bool p.2] else p.1) w' := by
      intro r hr'
      simp only [Instr.lookup, Sem.run_bind, run_underlying hu, Result.andThen_ok, hke, Go.MapKept.run_getObj_map (P := E.P) h3, Sem.run_pure, run_checkKey huk hkk, run_findKey huk hr']
      cases r with
      | none =>
        simp only [Sem.run_bind]
        cases (zeroValue et).run E.P w <;> cases ck <;> rfl
      | some p => cases ck <;> rfl
    rcases find_ok hkk (es := es.map fun p => (p.1, AV.d (.v p.2))) (fun p hp => by obtain ⟨q, hq, rfl⟩ := List.mem_map.1 hp; exact hkeys q hq) (by simpa using h4) hget with ⟨g1, g2⟩ | ⟨j, v, m, g1, g2, g3, g4, g5⟩
    · have : r = none := by
        cases r with
        | none => rfl
        | some v =>
          obtain ⟨j, hj⟩ := hr
          exact absurd rfl (g2 (k, .d (.v v)) (List.mem_map.2 ⟨(k, v), List.mem_of_getElem? hj, rfl⟩))
      subst this
      refine ⟨_, ?_, tupOk (constAV je.zero) je.zero false (vr_const w g _ _)⟩
      simp only [execOp, ho, hax]
      refine run_v ?_
      rw [pre _ g1]
      simp only [Sem.run_bind, hz, Result.andThen_ok, Sem.run_pure]
    · rw [List.getElem?_map, Option.map_eq_some_iff] at g1
      obtain ⟨p, hp, hpe⟩ := g1
      simp only [Prod.mk.injEq] at hpe
      obtain ⟨e1, e2⟩ := hpe
      have hpk : es[j]? = some (k, p.2) := by rw [hp, ← e1]
      have : r = some p.2 := by
        cases r with
        | none => exact absurd e1 (hr p (List.mem_of_getElem? hp))
        | some v =>
          obtain ⟨j', hj'⟩ := hr
          rw [hone j' j _ _ hj' hpk]
      subst this
      subst e2
      refine ⟨_, ?_, tupOk (.d (.v p.2)) m.val true g4⟩
      simp only [execOp, ho, hax]
      refine run_v ?_
      rw [pre _ g5]
      simp only [Sem.run_pure, Result.andThen_ok]

open Go.MapKept in
theorem same_key {d : TypeDesc} {k : Value} (h : IsKey d k) (n : Nat) : Instr.sameBits n k k = true := by
  cases k with
  | bool _ => simp [Instr.sameBits]
  | int _ _ => simp [Instr.sameBits]
  | string s =>
    simp only [Instr.sameBits]
    obtain ⟨x⟩ := s
    show (x == x) = true
    simp
  | _ => cases d <;> simp [IsKey] at h

open Go.MapKept in
theorem so_mapUpdate {t : TypeId} {x ix y : Operand} (ho : o.op = .mapUpdate t x ix y) {i : TI} (hi : E.ti t = some i) {kt et : TypeId} (ht : i.desc = .map kt et) {jk : TI} (hjk : E.ti kt = some jk)
    {l : Nat} (hx : ev E σ x = .map l) {es : List (Value × AV)} (hl : σ.h l = .map es) {k : Value} (hk : ev E σ ix = .d (.v k)) (hkk : IsKey jk.desc k) (hkeys : ∀ p ∈ es, IsKey jk.desc p.1) (hd : dlt o.dst σ.n = true)
    (hK0 : (∀ p ∈ es, p.1 ≠ k) → K (St.put { σ with h := upd σ.h l (.map (es ++ [(k, ev E σ y)])) } o.dst .any))
    (hK1 : ∀ (j : Nat) (v : AV), es[j]? = some (k, v) → K (St.put { σ with h := upd σ.h l (.map (es.set j (k, ev E σ y))) } o.dst .any)) : Step .all E B o K Q σ := by
  intro g w a hr next hn
  obtain ⟨hu, _⟩ := E.ok t i hi
  have hu : E.P.underlying t = some (.map kt et) := by rw [hu, ht]
  obtain ⟨ms, clock, hxe, hh, hs, hκ, hvt, hlt, hget⟩ := map_cells hr hl (by rw [← hx]; exact ev_ok hr x)
  have hke := ev_ok hr ix
  rw [hk] at hke
  have hke := vr_val hke
  obtain ⟨huk, _⟩ := E.ok kt jk hjk
  have hye := ev_ok hr y
  have fin : ∀ (ob : Obj) (es' : List (Value × AV)), (Instr.mapUpdate t (a.eval x) (a.eval ix) (a.eval y)).run E.P w = .ok () { w with heap := w.heap.setIfInBounds (g.ρ l) ob } →
      (∀ w' : World, (∀ b, g.J b → w'.heap[b]? = w.heap[b]?) → w'.heap[g.ρ l]? = some ob → OR w' g σ.nx l (.map es')) → K (St.put { σ with h := upd σ.h l (.map es') } o.dst .any) → o.wp E.P a w next (QC E B Q) := by
    intro ob es' hrun hor hK
    unfold Oper.wp
    have : (execOp a.eval o).run E.P w = .ok .skip { w with heap := w.heap.setIfInBounds (g.ρ l) ob } := by
      simp only [execOp, ho]
      exact run_u hrun
    rw [this, Oper.upon_skip]
    have hoth : ∀ b, b ≠ g.ρ l → (w.heap.setIfInBounds (g.ρ l) ob)[b]? = w.heap[b]? := fun b hb => Array.getElem?_setIfInBounds_ne (Ne.symm hb)
    have hlt' : g.ρ l < w.heap.size := (Array.getElem?_eq_some_iff.1 hh).1
    have hrel := rel_turn (w' := { w with heap := w.heap.setIfInBounds (g.ρ l) ob }) hr hlt hvt _ (.map es') hl (by simp) (by simp) rfl rfl rfl (by simp) hoth
      (hor _ (fun b hb => hoth b (fun e => hr.hr.dis b hb ⟨l, hlt, by rw [hl]; simp, hvt, e.symm⟩)) (by simp [hlt']))
    exact hn g _ _ _ (rel_put hrel hd (.any _)) hK
  rcases find_ok hkk hkeys hs hget with ⟨h1, h2⟩ | ⟨j, v, m, h1, h2, h3, h4, h5⟩
  · refine fin (.map (ms.push { key := k, val := a.eval y, born := clock }) (clock + 1)) (es ++ [(k, ev E σ y)]) ?_ (fun w' hJ hob => ?_) (hK0 h2)
    · simp only [Instr.mapUpdate, Sem.run_bind, run_underlying hu, Result.andThen_ok, hxe, hke, Go.MapKept.run_getObj_map (P := E.P) hh, run_checkKey huk hkk, run_findKey huk h1, Go.MapKept.run_setObj_map (P := E.P) _ hh]
    · refine ⟨hκ, hvt, _, _, hob, by simp [hs], fun i e m' he hm => ?_⟩
      by_cases hi : i < es.length
      · rw [List.getElem?_append_left hi] at he
        rw [Array.getElem?_push, if_neg (by omega)] at hm
        exact ⟨(hget i e m' he hm).1, (hget i e m' he hm).2.mono (GLe.refl g _) (Nat.le_refl _) hJ⟩
      · have : i = es.length := by
          have := (List.getElem?_eq_some_iff.1 he).1
          simp at this; omega
        subst this
        rw [List.getElem?_append_right (Nat.le_refl _)] at he
        simp at he
        rw [Array.getElem?_push, if_pos hs.symm] at hm
        simp at hm
        subst he; subst hm
        exact ⟨rfl, hye.mono (GLe.refl g _) (Nat.le_refl _) hJ⟩
  · have hj : j < ms.size := (Array.getElem?_eq_some_iff.1 h2).1
    refine fin (.map (ms.modify j fun e => { e with key := k, val := a.eval y }) clock) (es.set j (k, ev E σ y)) ?_ (fun w' hJ hob => ?_) (hK1 j v h1)
    · have hold : ((ms[j]?).map (·.key)).getD k = k := by rw [h2]; exact h3
      have hsame : (Instr.keyThatStays k k).run E.P w = .ok k w := by
        unfold Instr.keyThatStays
        rw [same_key hkk]; simp
      simp only [Instr.mapUpdate, Sem.run_bind, run_underlying hu, Result.andThen_ok, hxe, hke, Go.MapKept.run_getObj_map (P := E.P) hh, run_checkKey huk hkk, run_findKey huk h5, hold, hsame, Go.MapKept.run_setObj_map (P := E.P) _ hh]
    · refine ⟨hκ, hvt, _, _, hob, by simp [hs], fun i e m' he hm => ?_⟩
      by_cases hij : i = j
      · subst hij
        have hje : i < es.length := (List.getElem?_eq_some_iff.1 h1).1
        rw [List.getElem?_set_self hje] at he
        rw [Array.getElem?_modify, if_pos rfl, h2] at hm
        simp at he hm
        subst he; subst hm
        exact ⟨rfl, hye.mono (GLe.refl g _) (Nat.le_refl _) hJ⟩
      · rw [List.getElem?_set_ne (Ne.symm hij)] at he
        rw [Array.getElem?_modify, if_neg (Ne.symm hij)] at hm
        exact ⟨(hget i e m' he hm).1, (hget i e m' he hm).2.mono (GLe.refl g _) (Nat.le_refl _) hJ⟩
end
end Go.Proofs.YtdcpnpcmgfmenaaGreatDoor.Lg
/-
  Small helps for walks. Conditions: none.
-/
set_option linter.unusedVariables false
namespace Go.Proofs.YtdcpnpcmgfmenaaGreatDoor.Lg
open Go Go.RowKit

theorem dead_none {n : Nat} : ∀ l, n ≤ l → (fun _ => AO.dead : Nat → AO) l = .dead := fun _ _ => rfl
theorem dead_upd {n i : Nat} {h : Nat → AO} {o : AO} (hi : i < n) (hh : ∀ l, n ≤ l → h l = .dead) : ∀ l, n ≤ l → upd h i o l = .dead := fun l hl => by
  rw [upd_ne _ _ _ (by omega)]; exact hh l hl

/-- A loop's next round number. -/
theorem next_i64 {k n : Nat} (h : k < n) (hn : n ≤ 9223372036854775807) : AV.d (.v (.int .i64 (IntKind.i64.wrap ((k : Int) + 1)))) = AV.d (.v (.int .i64 ((k + 1 : Nat) : Int))) :=
  int_eq (by rw [i64_in (by omega) (by omega)]; omega)
theorem add_i64 {a b : Int} (h0 : -9223372036854775808 ≤ a + b) (h1 : a + b ≤ 9223372036854775807) : AV.d (.v (.int .i64 (IntKind.i64.wrap (a + b)))) = AV.d (.v (.int .i64 (a + b))) := int_eq (i64_in h0 h1)

section
variable {E : Env} {B : Base} {Q : Exit → St → Prop} {σ : St}
/-- What a state tells of a slice of data in an object: it is no longer than a slice may be. -/
theorem swp_len {c : Code} {l i : Nat} {cs : List AV} {s : Bool} {es : List (List D)} (hl : σ.h l = .cells cs) (hi : cs[i]? = some (.d (.sl s es))) (hx : Nat.blt l σ.nx = true) (h : es.length ≤ 9223372036854775807 → SWP E B c Q σ) : SWP E B c Q σ := fun g w a hr => by
  have hor := hr.hr.hp l (Nat.le_of_ble_eq_true hx)
  rw [hl] at hor
  obtain ⟨_, _, xs, t, h3, h4, h5⟩ := hor
  have hlt : i < xs.size := by rw [h4]; exact (List.getElem?_eq_some_iff.1 hi).1
  have hd := vr_data (h5 i _ xs[i] hi (Array.getElem?_eq_getElem hlt))
  refine h ?_ g w a hr
  generalize xs[i] = x at hd
  cases hd with
  | nil => simp
  | sl _ _ _ _ _ _ _ _ hm _ _ => exact hm.1
/-- The same of a temporary. -/
theorem swp_lenT {c : Code} {i : Nat} {s : Bool} {es : List (List D)} (hi : σ.t i = .d (.sl s es)) (h : es.length ≤ 9223372036854775807 → SWP E B c Q σ) : SWP E B c Q σ := fun g w a hr => by
  have hd := hr.tm i
  rw [hi] at hd
  have hd := vr_data hd
  refine h ?_ g w a hr
  generalize a.tmps.getD i undef = x at hd
  cases hd with
  | nil => simp
  | sl _ _ _ _ _ _ _ _ hm _ _ => exact hm.1

/-- A truth value that is told apart within a region. -/
theorem sops_case {ops : Array Oper} {l : List Oper} (d : Nat) {b : Bool} (hd : σ.t d = .d (.v (.bool b))) (ht : b = true → SOps E B ops l Q { σ with t := upd σ.t d (.d (.v (.bool true))) })
    (hf : b = false → SOps E B ops l Q { σ with t := upd σ.t d (.d (.v (.bool false))) }) : SOps E B ops l Q σ := by
  have key : ∀ b', b = b' → { σ with t := upd σ.t d (.d (.v (.bool b'))) } = σ := fun b' e => by
    subst e
    have : upd σ.t d (.d (.v (.bool b))) = σ.t := by
      funext i
      simp only [upd]
      split
      · rename_i h; subst h; exact hd.symm
      · rfl
    rw [this]
  cases hb : b with
  | true => have := ht hb; rwa [key true hb] at this
  | false => have := hf hb; rwa [key false hb] at this
theorem h0_case {ops : Array Oper} {wr : List Nat} {K : (Nat → AV) → Prop} {l : List Oper} {td : Nat → AV} (d : Nat) {b : Bool} (hd : td d = .d (.v (.bool b))) (ht : b = true → HOps0 E B Q ops wr σ K l (upd td d (.d (.v (.bool true)))))
    (hf : b = false → HOps0 E B Q ops wr σ K l (upd td d (.d (.v (.bool false))))) : HOps0 E B Q ops wr σ K l td := by
  have key : ∀ b', b = b' → upd td d (.d (.v (.bool b'))) = td := fun b' e => by
    subst e
    funext i
    simp only [upd]
    split
    · rename_i h; subst h; exact hd.symm
    · rfl
  cases hb : b with
  | true => have := ht hb; rwa [key true hb] at this
  | false => have := hf hb; rwa [key false hb] at this
theorem swp_condT {c : Operand} {x y : Code} (hb : ev E σ c = .d (.v (.bool true))) (h : SWP E B x Q σ) : SWP E B (.cond c x y) Q σ := swp_cond true hb (fun _ => h) (by simp)
theorem swp_condF {c : Operand} {x y : Code} (hb : ev E σ c = .d (.v (.bool false))) (h : SWP E B y Q σ) : SWP E B (.cond c x y) Q σ := swp_cond false hb (by simp) (fun _ => h)
/-- A sequence, cut where a family of states tells what stands. -/
theorem swp_seqF {x y : Code} {ι : Type} (F : ι → St) (P : ι → Prop) (h : SWP E B x (after (fun σ' => ∃ j, P j ∧ Wk E B σ' (F j)) Q) σ) (hy : ∀ j, P j → SWP E B y Q (F j)) : SWP E B (.seq x y) Q σ :=
  swp_seq (h.mono fun e σ' hq => by
    cases e with
    | normal => obtain ⟨j, hj, hw⟩ := hq; exact swp_wk hw (hy j hj)
    | _ => exact hq)

theorem na_free {v : AV} (hb : v.bnd 0 = true) : NA E σ v v := fun B g w a hr x h =>
  VR.mono (g := g) (w := w) (nx := 0) (g' := g.callee w) ⟨fun _ h => h, fun b hb => hr.hr.Jlt b hb, fun _ h => by omega, fun _ h => by omega⟩ (Nat.le_refl _) (fun _ _ => rfl) (h.bnd hb)
theorem nas_free : ∀ {vs : List AV}, AV.bnds 0 vs = true → NAs E σ vs vs
  | [], _ => trivial
  | v :: r, h => by
    simp only [AV.bnds, Bool.and_eq_true] at h
    exact ⟨na_free h.1, nas_free h.2⟩

/-! ### Functions of whose result only a part is told -/
def PureS (E : Env) (f : FuncId) (args : List AV) (R : AV → Prop) : Prop :=
  Enters E.P f ∧ ∀ w g (vs : Array Value), HRel E w g 0 (fun _ => .dead) → vs.size = args.length → (∀ (i : Nat) c x, args[i]? = some c → vs[i]? = some x → VR w g 0 c x) →
    Calls E.P f vs w fun e w' => ∃ v r, R r ∧ e = .returned v ∧ VR w' (g.res w w') 0 r v ∧ Below w.heap.size w w'

theorem PureS.of {f : FuncId} {args : List AV} {r : AV} {R : AV → Prop} (h : Pure E f args r) (hR : R r) : PureS E f args R :=
  ⟨h.1, fun w g vs h1 h2 h3 => (h.2 w g vs h1 h2 h3).mono fun e w' ⟨v, h4, h5, h6⟩ => ⟨v, r, hR, h4, h5, h6⟩⟩

theorem st_callS {o : Oper} {K : St → Prop} {fo : Operand} {ar : Array Operand} {ts : Array TypeId} (ho : o.op = .call { callee := .value fo, args := ar, argTypes := ts }) {f : FuncId} {caps : List AV} (hf : ev E σ fo = .fn f caps)
    {args : List AV} {R : AV → Prop} (hp : PureS E f args R) (ha : NAs E σ (ar.toList.map (ev E σ) ++ caps) args) (hd : dlt o.dst σ.n = true) (hK : ∀ r, R r → K (σ.put o.dst r)) : Step .all E B o K Q σ := by
  intro g w a hr next hn
  have hfo := ev_ok hr fo
  rw [hf] at hfo
  generalize hfx : a.eval fo = fx at hfo
  cases hfo with
  | fn _ _ xs h1 h2 =>
    have hexec : (execOp a.eval o).run E.P w = .ok (.enter f (ar.map a.eval ++ xs)) w := by
      simp only [execOp, ho, resolve, hfx, Deferred.ofValue, Sem.run_bind, Sem.run_pure, Result.andThen_ok, invoke, Array.empty_append]
      exact hp.1 _ _
    obtain ⟨hl, hget⟩ := nas_get ha
    have hc := hp.2 w (g.callee w) (ar.map a.eval ++ xs) (callee_hr hr.hr) (by rw [← hl]; simp [h1]) (fun i c x hc hx => by
      have hi : i < (ar.toList.map (ev E σ) ++ caps).length := by rw [hl]; exact (List.getElem?_eq_some_iff.1 hc).1
      refine hget i _ c (List.getElem?_eq_getElem hi) hc B g w a hr x ?_
      by_cases his : i < ar.size
      · have e1 : (ar.toList.map (ev E σ) ++ caps)[i] = ev E σ ar[i] := by
          rw [List.getElem_append_left (by simpa using his)]; simp
        have e2 : x = a.eval ar[i] := by
          rw [Array.getElem?_append_left (by simpa using his)] at hx
          simp [his] at hx; exact hx.symm
        rw [e1, e2]; exact ev_ok hr _
      · have hi2 : i - ar.size < caps.length := by simp at hi; omega
        have e1 : (ar.toList.map (ev E σ) ++ caps)[i]? = caps[i - ar.size]? := by
          rw [List.getElem?_append_right (by simpa using his)]; simp
        rw [Array.getElem?_append_right (by simpa using his)] at hx
        refine h2 (i - ar.size) _ x ?_ (by simpa using hx)
        rw [← e1]; exact List.getElem?_eq_getElem hi)
    unfold Oper.wp
    rw [hexec, Oper.upon_enter]
    refine hc.mono ?_
    rintro e w' ⟨v, r, hR, rfl, hv, hb⟩
    exact hn (g.ext w w') _ w' _ (rel_put (rel_below hr hb) hd (vr_free (g := (g.callee w).res w w') (g' := g.ext w w') (fun _ h => h) (fun _ h => .inr h) hv)) (hK r hR)

def FinS (E : Env) (fn : Func) (R : AV → Prop) : Exit → St → Prop := fun e σ => (e = .ret ∨ e = .normal) ∧ ∃ r, R r ∧ ResOk E fn σ r

theorem pureS_of_body {f : FuncId} {fn : Func} {c : Code} (hf : E.P.funcs[f]? = some fn) (hname : (fn.name == "runtime.NumGoroutine") = false) (hb : fn.body = some c) {args : List AV} {R : AV → Prop} (hn' : decide (args.length ≤ fn.ntmps) = true)
    (h : ∀ B : Base, B.nx = 0 → SWP E B c (FinS E fn R) (initSt args fn.ntmps)) : PureS E f args R := by
  have hn : args.length ≤ fn.ntmps := by simpa using hn'
  refine ⟨enters_of hf hname hb, fun w g vs hr hs hv => ?_⟩
  let B : Base := ⟨w, g, 0, fun _ => .dead⟩
  have hrel : Rel E B g (initSt args fn.ntmps) w { tmps := vs ++ Array.replicate (fn.ntmps - vs.size) undef, defers := [] } := by
    refine ⟨by simp [initSt]; omega, fun i => ?_, hr, ⟨rfl, rfl, rfl, Nat.le_refl _, fun _ _ _ => rfl, GLe.refl _ _, Nat.le_refl _, fun b h => .inl h, fun b h => .inl h⟩, rfl⟩
    simp only [initSt, argsT_get, Nat.zero_le, if_true, Nat.sub_zero]
    by_cases hi : i < args.length
    · have h1 : args.getD i .any = args[i] := by simp [List.getD, hi]
      have h2 : (vs ++ Array.replicate (fn.ntmps - vs.size) undef).getD i undef = vs[i]'(by omega) := by
        rw [Array.getD_eq_getD_getElem?, Array.getElem?_append_left (by omega), Array.getElem?_eq_getElem (by omega)]; rfl
      rw [h1, h2]
      exact hv i _ _ (List.getElem?_eq_getElem hi) (Array.getElem?_eq_getElem (by omega))
    · have : args.getD i .any = .any := by simp [List.getD, List.getElem?_eq_none (Nat.le_of_not_lt hi)]
      rw [this]; exact .any _
  refine calls_of_wp hf hb (wp_mono (h B rfl g w _ hrel) ?_)
  rintro e a' w' ⟨g', σ', hr', he, r, hR, hres⟩
  obtain ⟨v, hrun, hvr⟩ := resOk_run hres rfl hr'
  have hbel : Below w.heap.size w w' := ⟨hr'.ext.os, hr'.ext.tape, hr'.ext.output, hr'.ext.size, fun k hk => hr'.ext.block k hk (fun ⟨l, hl, _⟩ => Nat.not_lt_zero _ hl)⟩
  rcases he with rfl | rfl
  · exact ⟨hr'.df, v, hrun, v, r, hR, rfl, hvr, hbel⟩
  · exact ⟨hr'.df, v, hrun, v, r, hR, rfl, hvr, hbel⟩

/-- Some whole number; some truth value. -/
def isInt (r : AV) : Prop := ∃ n : Int, r = .d (.v (.int .i64 n))
def isBool (r : AV) : Prop := ∃ b : Bool, r = .d (.v (.bool b))
end
end Go.Proofs.YtdcpnpcmgfmenaaGreatDoor.Lg
/-
  The program's values as trees, and what they are in memory. Conditions: none.
-/
set_option linter.unusedVariables false
namespace Go.Proofs.YtdcpnpcmgfmenaaGreatDoor
open Go Go.Proofs.YtdcpnpcmgfmenaaGreatDoor.Lg

/-- api.Value. -/
inductive V where
  | mk (kind : Int) (flag : Bool) (neg : Bool) (digits : ByteArray) (exp : Int) (bits : Int) (text : ByteArray) (names : List ByteArray) (list : List V)

def strRows (l : List ByteArray) : List (List D) := l.map fun s => [.v (.string s)]

mutual
def V.cells : V → List D
  | .mk kind flag neg digits exp bits text names list => [.v (.int .i64 kind), .v (.bool flag), .v (.bool neg), .v (.string digits), .v (.int .i64 exp), .v (.int .u64 bits), .v (.string text), .sl true (strRows names), .sl true (V.rows list)]
def V.rows : List V → List (List D)
  | [] => []
  | x :: r => x.cells :: V.rows r
end
theorem V.rows_eq : ∀ l : List V, V.rows l = l.map V.cells
  | [] => rfl
  | x :: r => by rw [V.rows, V.rows_eq r]; rfl
/-- A value as a struct. -/
def V.d (x : V) : D := .agg x.cells

theorem V.ind {P : V → Prop} (h : ∀ kind flag neg digits exp bits text names list, (∀ x ∈ list, P x) → P (.mk kind flag neg digits exp bits text names list)) : ∀ v, P v :=
  V.rec (motive_1 := P) (motive_2 := fun l => ∀ x ∈ l, P x) (fun kind flag neg digits exp bits text names list ih => h kind flag neg digits exp bits text names list ih)
    (fun x hx => by cases hx) (fun x r h1 h2 y hy => by
      rcases List.mem_cons.1 hy with rfl | hy
      · exact h1
      · exact h2 y hy)

theorem keeps_strs (l : List ByteArray) : Keeps (.sl true (l.map fun s => [.v (.string s)])) :=
  keeps_sl fun r hr c hc => by
    obtain ⟨s, _, rfl⟩ := List.mem_map.1 hr
    simp at hc; subst hc; exact keeps_v _
theorem V.keeps : ∀ v : V, ∀ c ∈ v.cells, Keeps c := by
  apply V.ind
  intro kind flag neg digits exp bits text names list ih c hc
  simp only [V.cells, List.mem_cons, List.not_mem_nil, or_false] at hc
  rcases hc with rfl | rfl | rfl | rfl | rfl | rfl | rfl | rfl | rfl
  all_goals first | exact keeps_v _ | exact keeps_strs _ | skip
  refine keeps_sl fun r hr c hc => ?_
  rw [V.rows_eq] at hr
  obtain ⟨x, hx, rfl⟩ := List.mem_map.1 hr
  exact ih x hx c hc
theorem V.keepsD (v : V) : Keeps v.d := keeps_agg (V.keeps v)
theorem V.cells_length (v : V) : v.cells.length = 9 := by cases v; rfl

mutual
def V.depth : V → Nat
  | .mk _ _ _ _ _ _ _ _ list => V.depths list + 1
def V.depths : List V → Nat
  | [] => 0
  | x :: r => max x.depth (V.depths r)
end
end Go.Proofs.YtdcpnpcmgfmenaaGreatDoor
/-
  The program's types as trees, and what they are in memory. Conditions: none.
-/
set_option linter.unusedVariables false
namespace Go.Proofs.YtdcpnpcmgfmenaaGreatDoor
open Go Go.Proofs.YtdcpnpcmgfmenaaGreatDoor.Lg

/-- api.Type. -/
inductive T where
  | mk (kind : Int) (names : List ByteArray) (list : List T)

mutual
def T.cells : T → List D
  | .mk kind names list => [.v (.int .i64 kind), .sl true (strRows names), .sl true (T.rows list)]
def T.rows : List T → List (List D)
  | [] => []
  | x :: r => x.cells :: T.rows r
end
theorem T.rows_eq : ∀ l : List T, T.rows l = l.map T.cells
  | [] => rfl
  | x :: r => by rw [T.rows, T.rows_eq r]; rfl
def T.d (x : T) : D := .agg x.cells
def T.kind : T → Int | .mk k _ _ => k
def T.names : T → List ByteArray | .mk _ n _ => n
def T.list : T → List T | .mk _ _ l => l

theorem T.ind {P : T → Prop} (h : ∀ kind names list, (∀ x ∈ list, P x) → P (.mk kind names list)) : ∀ v, P v :=
  T.rec (motive_1 := P) (motive_2 := fun l => ∀ x ∈ l, P x) (fun kind names list ih => h kind names list ih)
    (fun x hx => by cases hx) (fun x r h1 h2 y hy => by
      rcases List.mem_cons.1 hy with rfl | hy
      · exact h1
      · exact h2 y hy)

theorem T.keeps : ∀ v : T, ∀ c ∈ v.cells, Keeps c := by
  apply T.ind
  intro kind names list ih c hc
  simp only [T.cells, List.mem_cons, List.not_mem_nil, or_false] at hc
  rcases hc with rfl | rfl | rfl
  · exact keeps_v _
  · exact keeps_strs _
  · refine keeps_sl fun r hr c hc => ?_
    rw [T.rows_eq] at hr
    obtain ⟨x, hx, rfl⟩ := List.mem_map.1 hr
    exact ih x hx c hc
theorem T.keepsD (v : T) : Keeps v.d := keeps_agg (T.keeps v)
theorem T.cells_length (v : T) : v.cells.length = 3 := by cases v; rfl
theorem T.rows_get (l : List T) (k : Nat) (h : k < l.length) : (T.rows l).getD k [] = (l[k]).cells := by simp [T.rows_eq, List.getD, h]
theorem T.rows_len (l : List T) : (T.rows l).length = l.length := by simp [T.rows_eq]
theorem T.rows_all (l : List T) : ∀ r ∈ T.rows l, r.length = 3 := by
  intro r hr; rw [T.rows_eq] at hr; obtain ⟨x, _, rfl⟩ := List.mem_map.1 hr; exact x.cells_length
theorem strRows_get (l : List ByteArray) (k : Nat) (h : k < l.length) : (strRows l).getD k [] = [.v (.string l[k])] := by simp [strRows, List.getD, h]
theorem strRows_len (l : List ByteArray) : (strRows l).length = l.length := by simp [strRows]
theorem strRows_all (l : List ByteArray) : ∀ r ∈ strRows l, r.length = 1 := by
  intro r hr; obtain ⟨x, _, rfl⟩ := List.mem_map.1 hr; rfl

theorem V.rows_get (l : List V) (k : Nat) (h : k < l.length) : (V.rows l).getD k [] = (l[k]).cells := by simp [V.rows_eq, List.getD, h]
theorem V.rows_len (l : List V) : (V.rows l).length = l.length := by simp [V.rows_eq]
theorem V.rows_all (l : List V) : ∀ r ∈ V.rows l, r.length = 9 := by
  intro r hr; rw [V.rows_eq] at hr; obtain ⟨x, _, rfl⟩ := List.mem_map.1 hr; exact x.cells_length

theorem any_take {α : Type} (p : α → Bool) (l : List α) (k : Nat) (h : k < l.length) : (l.take (k + 1)).any p = ((l.take k).any p || p l[k]) := by
  rw [List.take_add_one, List.any_append]; simp [h]
theorem all_take {α : Type} (p : α → Bool) (l : List α) (k : Nat) (h : k < l.length) : (l.take (k + 1)).all p = ((l.take k).all p && p l[k]) := by
  rw [List.take_add_one, List.all_append]; simp [h]
theorem any_get {α : Type} (p : α → Bool) (l : List α) (k : Nat) (h : k < l.length) (hp : p l[k] = true) : l.any p = true := List.any_eq_true.2 ⟨_, List.getElem_mem h, hp⟩
end Go.Proofs.YtdcpnpcmgfmenaaGreatDoor
/-
  THE SEAT, AS THE LOGIC SEES IT: its program, a table of its types, each row by the kernel. Printed by wip/tools/env.py. Conditions: none.
-/
namespace Go.Proofs.YtdcpnpcmgfmenaaGreatDoor
open Go Lg
set_option maxRecDepth 100000
def TFacts (t : Nat) (i : TI) : Prop := Tryz.prog.underlying t = some i.desc ∧ ∃ f, Tryz.prog.info? t = some f ∧ f.size = i.size ∧ f.bytes = i.bytes ∧ f.zero = some i.zero
theorem info_of {t s b : Nat} {z : Value} (h : (Tryz.prog.info? t).map (fun i => (i.size, i.bytes, i.zero)) = some (s, b, some z)) : ∃ f, Tryz.prog.info? t = some f ∧ f.size = s ∧ f.bytes = b ∧ f.zero = some z := by
  obtain ⟨f, h1, h2⟩ := Option.map_eq_some_iff.1 h
  simp only [Prod.mk.injEq] at h2
  exact ⟨f, h1, h2.1, h2.2.1, h2.2.2⟩
def ti2 : TI := { desc := .int .i64, size := 1, bytes := 8, zero := (.int .i64 0) }
theorem tf2 : TFacts 2 ti2 := ⟨Tryz.underlying2, info_of (by kernel_rfl)⟩
def ti3 : TI := { desc := .int .i64, size := 1, bytes := 8, zero := (.int .i64 0) }
theorem tf3 : TFacts 3 ti3 := ⟨Tryz.underlying3, info_of (by kernel_rfl)⟩
def ti4 : TI := { desc := .bool, size := 1, bytes := 1, zero := (.bool false) }
theorem tf4 : TFacts 4 ti4 := ⟨Tryz.underlying4, info_of (by kernel_rfl)⟩
def ti5 : TI := { desc := .int .u8, size := 1, bytes := 1, zero := (.int .u8 0) }
theorem tf5 : TFacts 5 ti5 := ⟨Tryz.underlying5, info_of (by kernel_rfl)⟩
def ti7 : TI := { desc := .struct #[{ name := "x", type := 2, offset := 0, embedded := false, tag := "", pkgPath := "runtime", byteOffset := 0 }, { name := "y", type := 3, offset := 1, embedded := false, tag := "", pkgPath := "runtime", byteOffset := 8 }, { name := "signed", type := 4, offset := 2, embedded := false, tag := "", pkgPath := "runtime", byteOffset := 16 }, { name := "code", type := 6, offset := 3, embedded := false, tag := "", pkgPath := "runtime", byteOffset := 17 }], size := 4, bytes := 24, zero := (.agg #[(.int .i64 0), (.int .i64 0), (.bool false), (.int .u8 0)]) }
theorem tf7 : TFacts 7 ti7 := ⟨Tryz.underlying7, info_of (by kernel_rfl)⟩
def ti9 : TI := { desc := .string, size := 1, bytes := 16, zero := (.string ⟨#[]⟩) }
theorem tf9 : TFacts 9 ti9 := ⟨Tryz.underlying9, info_of (by kernel_rfl)⟩
def ti12 : TI := { desc := .int .u64, size := 1, bytes := 8, zero := (.int .u64 0) }
theorem tf12 : TFacts 12 ti12 := ⟨Tryz.underlying12, info_of (by kernel_rfl)⟩
def ti13 : TI := { desc := .struct #[{ name := "msg", type := 9, offset := 0, embedded := false, tag := "", pkgPath := "runtime", byteOffset := 0 }, { name := "addr", type := 12, offset := 1, embedded := false, tag := "", pkgPath := "runtime", byteOffset := 16 }], size := 2, bytes := 24, zero := (.agg #[(.string ⟨#[]⟩), (.int .u64 0)]) }
theorem tf13 : TFacts 13 ti13 := ⟨Tryz.underlying13, info_of (by kernel_rfl)⟩
def ti15 : TI := { desc := .pointer 115, size := 1, bytes := 8, zero := (.pointer none) }
theorem tf15 : TFacts 15 ti15 := ⟨Tryz.underlying15, info_of (by kernel_rfl)⟩
def ti16 : TI := { desc := .pointer 118, size := 1, bytes := 8, zero := (.pointer none) }
theorem tf16 : TFacts 16 ti16 := ⟨Tryz.underlying16, info_of (by kernel_rfl)⟩
def ti17 : TI := { desc := .pointer 128, size := 1, bytes := 8, zero := (.pointer none) }
theorem tf17 : TFacts 17 ti17 := ⟨Tryz.underlying17, info_of (by kernel_rfl)⟩
def ti18 : TI := { desc := .struct #[{ name := "typ", type := 17, offset := 0, embedded := false, tag := "", pkgPath := "internal/runtime/maps", byteOffset := 0 }], size := 1, bytes := 8, zero := (.agg #[(.pointer none)]) }
theorem tf18 : TFacts 18 ti18 := ⟨Tryz.underlying18, info_of (by kernel_rfl)⟩
def ti21 : TI := { desc := .int .i32, size := 1, bytes := 4, zero := (.int .i32 0) }
theorem tf21 : TFacts 21 ti21 := ⟨Tryz.underlying21, info_of (by kernel_rfl)⟩
def ti22 : TI := { desc := .int .i64, size := 1, bytes := 8, zero := (.int .i64 0) }
theorem tf22 : TFacts 22 ti22 := ⟨Tryz.underlying22, info_of (by kernel_rfl)⟩
def ti23 : TI := { desc := .slice 9, size := 1, bytes := 24, zero := (.slice none 0 0) }
theorem tf23 : TFacts 23 ti23 := ⟨Tryz.underlying23, info_of (by kernel_rfl)⟩
def ti24 : TI := { desc := .slice 26, size := 1, bytes := 24, zero := (.slice none 0 0) }
theorem tf24 : TFacts 24 ti24 := ⟨Tryz.underlying24, info_of (by kernel_rfl)⟩
def ti25 : TI := { desc := .struct #[{ name := "Kind", type := 22, offset := 0, embedded := false, tag := "", pkgPath := "", byteOffset := 0 }, { name := "Names", type := 23, offset := 1, embedded := false, tag := "", pkgPath := "", byteOffset := 8 }, { name := "List", type := 24, offset := 2, embedded := false, tag := "", pkgPath := "", byteOffset := 32 }], size := 3, bytes := 56, zero := (.agg #[(.int .i64 0), (.slice none 0 0), (.slice none 0 0)]) }
theorem tf25 : TFacts 25 ti25 := ⟨Tryz.underlying25, info_of (by kernel_rfl)⟩
def ti26 : TI := { desc := .struct #[{ name := "Kind", type := 22, offset := 0, embedded := false, tag := "", pkgPath := "", byteOffset := 0 }, { name := "Names", type := 23, offset := 1, embedded := false, tag := "", pkgPath := "", byteOffset := 8 }, { name := "List", type := 24, offset := 2, embedded := false, tag := "", pkgPath := "", byteOffset := 32 }], size := 3, bytes := 56, zero := (.agg #[(.int .i64 0), (.slice none 0 0), (.slice none 0 0)]) }
theorem tf26 : TFacts 26 ti26 := ⟨Tryz.underlying26, info_of (by kernel_rfl)⟩
def ti27 : TI := { desc := .int .i64, size := 1, bytes := 8, zero := (.int .i64 0) }
theorem tf27 : TFacts 27 ti27 := ⟨Tryz.underlying27, info_of (by kernel_rfl)⟩
def ti28 : TI := { desc := .struct #[{ name := "Neg", type := 4, offset := 0, embedded := false, tag := "", pkgPath := "", byteOffset := 0 }, { name := "Digits", type := 9, offset := 1, embedded := false, tag := "", pkgPath := "", byteOffset := 8 }, { name := "Exp", type := 3, offset := 2, embedded := false, tag := "", pkgPath := "", byteOffset := 24 }], size := 3, bytes := 32, zero := (.agg #[(.bool false), (.string ⟨#[]⟩), (.int .i64 0)]) }
theorem tf28 : TFacts 28 ti28 := ⟨Tryz.underlying28, info_of (by kernel_rfl)⟩
def ti29 : TI := { desc := .struct #[{ name := "Neg", type := 4, offset := 0, embedded := false, tag := "", pkgPath := "", byteOffset := 0 }, { name := "Digits", type := 9, offset := 1, embedded := false, tag := "", pkgPath := "", byteOffset := 8 }, { name := "Exp", type := 3, offset := 2, embedded := false, tag := "", pkgPath := "", byteOffset := 24 }], size := 3, bytes := 32, zero := (.agg #[(.bool false), (.string ⟨#[]⟩), (.int .i64 0)]) }
theorem tf29 : TFacts 29 ti29 := ⟨Tryz.underlying29, info_of (by kernel_rfl)⟩
def ti30 : TI := { desc := .int .u64, size := 1, bytes := 8, zero := (.int .u64 0) }
theorem tf30 : TFacts 30 ti30 := ⟨Tryz.underlying30, info_of (by kernel_rfl)⟩
def ti31 : TI := { desc := .slice 33, size := 1, bytes := 24, zero := (.slice none 0 0) }
theorem tf31 : TFacts 31 ti31 := ⟨Tryz.underlying31, info_of (by kernel_rfl)⟩
def ti32 : TI := { desc := .struct #[{ name := "Kind", type := 27, offset := 0, embedded := false, tag := "", pkgPath := "", byteOffset := 0 }, { name := "Flag", type := 4, offset := 1, embedded := false, tag := "", pkgPath := "", byteOffset := 8 }, { name := "Num", type := 29, offset := 2, embedded := false, tag := "", pkgPath := "", byteOffset := 16 }, { name := "Bits", type := 30, offset := 5, embedded := false, tag := "", pkgPath := "", byteOffset := 48 }, { name := "Text", type := 9, offset := 6, embedded := false, tag := "", pkgPath := "", byteOffset := 56 }, { name := "Names", type := 23, offset := 7, embedded := false, tag := "", pkgPath := "", byteOffset := 72 }, { name := "List", type := 31, offset := 8, embedded := false, tag := "", pkgPath := "", byteOffset := 96 }], size := 9, bytes := 120, zero := (.agg #[(.int .i64 0), (.bool false), (.bool false), (.string ⟨#[]⟩), (.int .i64 0), (.int .u64 0), (.string ⟨#[]⟩), (.slice none 0 0), (.slice none 0 0)]) }
theorem tf32 : TFacts 32 ti32 := ⟨Tryz.underlying32, info_of (by kernel_rfl)⟩
def ti33 : TI := { desc := .struct #[{ name := "Kind", type := 27, offset := 0, embedded := false, tag := "", pkgPath := "", byteOffset := 0 }, { name := "Flag", type := 4, offset := 1, embedded := false, tag := "", pkgPath := "", byteOffset := 8 }, { name := "Num", type := 29, offset := 2, embedded := false, tag := "", pkgPath := "", byteOffset := 16 }, { name := "Bits", type := 30, offset := 5, embedded := false, tag := "", pkgPath := "", byteOffset := 48 }, { name := "Text", type := 9, offset := 6, embedded := false, tag := "", pkgPath := "", byteOffset := 56 }, { name := "Names", type := 23, offset := 7, embedded := false, tag := "", pkgPath := "", byteOffset := 72 }, { name := "List", type := 31, offset := 8, embedded := false, tag := "", pkgPath := "", byteOffset := 96 }], size := 9, bytes := 120, zero := (.agg #[(.int .i64 0), (.bool false), (.bool false), (.string ⟨#[]⟩), (.int .i64 0), (.int .u64 0), (.string ⟨#[]⟩), (.slice none 0 0), (.slice none 0 0)]) }
theorem tf33 : TFacts 33 ti33 := ⟨Tryz.underlying33, info_of (by kernel_rfl)⟩
def ti38 : TI := { desc := .int .i64, size := 1, bytes := 8, zero := (.int .i64 0) }
theorem tf38 : TFacts 38 ti38 := ⟨Tryz.underlying38, info_of (by kernel_rfl)⟩
def ti56 : TI := { desc := .map 9 3, size := 1, bytes := 8, zero := (.map none) }
theorem tf56 : TFacts 56 ti56 := ⟨Tryz.underlying56, info_of (by kernel_rfl)⟩
def ti65 : TI := { desc := .array 9 27, size := 9, bytes := 72, zero := (.agg #[(.int .i64 0), (.int .i64 0), (.int .i64 0), (.int .i64 0), (.int .i64 0), (.int .i64 0), (.int .i64 0), (.int .i64 0), (.int .i64 0)]) }
theorem tf65 : TFacts 65 ti65 := ⟨Tryz.underlying65, info_of (by kernel_rfl)⟩
def ti78 : TI := { desc := .array 256 5, size := 256, bytes := 256, zero := (.agg #[(.int .u8 0), (.int .u8 0), (.int .u8 0), (.int .u8 0), (.int .u8 0), (.int .u8 0), (.int .u8 0), (.int .u8 0), (.int .u8 0), (.int .u8 0), (.int .u8 0), (.int .u8 0), (.int .u8 0), (.int .u8 0), (.int .u8 0), (.int .u8 0), (.int .u8 0), (.int .u8 0), (.int .u8 0), (.int .u8 0), (.int .u8 0), (.int .u8 0), (.int .u8 0), (.int .u8 0), (.int .u8 0), (.int .u8 0), (.int .u8 0), (.int .u8 0), (.int .u8 0), (.int .u8 0), (.int .u8 0), (.int .u8 0), (.int .u8 0), (.int .u8 0), (.int .u8 0), (.int .u8 0), (.int .u8 0), (.int .u8 0), (.int .u8 0), (.int .u8 0), (.int .u8 0), (.int .u8 0), (.int .u8 0), (.int .u8 0), (.int .u8 0), (.int .u8 0), (.int .u8 0), (.int .u8 0), (.int .u8 0), (.int .u8 0), (.int .u8 0), (.int .u8 0), (.int .u8 0), (.int .u8 0), (.int .u8 0), (.int .u8 0), (.int .u8 0), (.int .u8 0), (.int .u8 0), (.int .u8 0), (.int .u8 0), (.int .u8 0), (.int .u8 0), (.int .u8 0), (.int .u8 0), (.int .u8 0), (.int .u8 0), (.int .u8 0), (.int .u8 0), (.int .u8 0), (.int .u8 0), (.int .u8 0), (.int .u8 0), (.int .u8 0), (.int .u8 0), (.int .u8 0), (.int .u8 0), (.int .u8 0), (.int .u8 0), (.int .u8 0), (.int .u8 0), (.int .u8 0), (.int .u8 0), (.int .u8 0), (.int .u8 0), (.int .u8 0), (.int .u8 0), (.int .u8 0), (.int .u8 0), (.int .u8 0), (.int .u8 0), (.int .u8 0), (.int .u8 0), (.int .u8 0), (.int .u8 0), (.int .u8 0), (.int .u8 0), (.int .u8 0), (.int .u8 0), (.int .u8 0), (.int .u8 0), (.int .u8 0), (.int .u8 0), (.int .u8 0), (.int .u8 0), (.int .u8 0), (.int .u8 0), (.int .u8 0), (.int .u8 0), (.int .u8 0), (.int .u8 0), (.int .u8 0), (.int .u8 0), (.int .u8 0), (.int .u8 0), (.int .u8 0), (.int .u8 0), (.int .u8 0), (.int .u8 0), (.int .u8 0), (.int .u8 0), (.int .u8 0), (.int .u8 0), (.int .u8 0), (.int .u8 0), (.int .u8 0), (.int .u8 0), (.int .u8 0), (.int .u8 0), (.int .u8 0), (.int .u8 0), (.int .u8 0), (.int .u8 0), (.int .u8 0), (.int .u8 0), (.int .u8 0), (.int .u8 0), (.int .u8 0), (.int .u8 0), (.int .u8 0), (.int .u8 0), (.int .u8 0), (.int .u8 0), (.int .u8 0), (.int .u8 0), (.int .u8 0), (.int .u8 0), (.int .u8 0), (.int .u8 0), (.int .u8 0), (.int .u8 0), (.int .u8 0), (.int .u8 0), (.int .u8 0), (.int .u8 0), (.int .u8 0), (.int .u8 0), (.int .u8 0), (.int .u8 0), (.int .u8 0), (.int .u8 0), (.int .u8 0), (.int .u8 0), (.int .u8 0), (.int .u8 0), (.int .u8 0), (.int .u8 0), (.int .u8 0), (.int .u8 0), (.int .u8 0), (.int .u8 0), (.int .u8 0), (.int .u8 0), (.int .u8 0), (.int .u8 0), (.int .u8 0), (.int .u8 0), (.int .u8 0), (.int .u8 0), (.int .u8 0), (.int .u8 0), (.int .u8 0), (.int .u8 0), (.int .u8 0), (.int .u8 0), (.int .u8 0), (.int .u8 0), (.int .u8 0), (.int .u8 0), (.int .u8 0), (.int .u8 0), (.int .u8 0), (.int .u8 0), (.int .u8 0), (.int .u8 0), (.int .u8 0), (.int .u8 0), (.int .u8 0), (.int .u8 0), (.int .u8 0), (.int .u8 0), (.int .u8 0), (.int .u8 0), (.int .u8 0), (.int .u8 0), (.int .u8 0), (.int .u8 0), (.int .u8 0), (.int .u8 0), (.int .u8 0), (.int .u8 0), (.int .u8 0), (.int .u8 0), (.int .u8 0), (.int .u8 0), (.int .u8 0), (.int .u8 0), (.int .u8 0), (.int .u8 0), (.int .u8 0), (.int .u8 0), (.int .u8 0), (.int .u8 0), (.int .u8 0), (.int .u8 0), (.int .u8 0), (.int .u8 0), (.int .u8 0), (.int .u8 0), (.int .u8 0), (.int .u8 0), (.int .u8 0), (.int .u8 0), (.int .u8 0), (.int .u8 0), (.int .u8 0), (.int .u8 0), (.int .u8 0), (.int .u8 0), (.int .u8 0), (.int .u8 0), (.int .u8 0), (.int .u8 0), (.int .u8 0), (.int .u8 0), (.int .u8 0), (.int .u8 0), (.int .u8 0), (.int .u8 0), (.int .u8 0), (.int .u8 0), (.int .u8 0), (.int .u8 0), (.int .u8 0), (.int .u8 0), (.int .u8 0)]) }
theorem tf78 : TFacts 78 ti78 := ⟨Tryz.underlying78, info_of (by kernel_rfl)⟩
def ti79 : TI := { desc := .struct #[{ name := "lo", type := 5, offset := 0, embedded := false, tag := "", pkgPath := "unicode/utf8", byteOffset := 0 }, { name := "hi", type := 5, offset := 1, embedded := false, tag := "", pkgPath := "unicode/utf8", byteOffset := 1 }], size := 2, bytes := 2, zero := (.agg #[(.int .u8 0), (.int .u8 0)]) }
theorem tf79 : TFacts 79 ti79 := ⟨Tryz.underlying79, info_of (by kernel_rfl)⟩
def ti80 : TI := { desc := .struct #[{ name := "lo", type := 5, offset := 0, embedded := false, tag := "", pkgPath := "unicode/utf8", byteOffset := 0 }, { name := "hi", type := 5, offset := 1, embedded := false, tag := "", pkgPath := "unicode/utf8", byteOffset := 1 }], size := 2, bytes := 2, zero := (.agg #[(.int .u8 0), (.int .u8 0)]) }
theorem tf80 : TFacts 80 ti80 := ⟨Tryz.underlying80, info_of (by kernel_rfl)⟩
def ti81 : TI := { desc := .array 16 80, size := 32, bytes := 32, zero := (.agg #[(.int .u8 0), (.int .u8 0), (.int .u8 0), (.int .u8 0), (.int .u8 0), (.int .u8 0), (.int .u8 0), (.int .u8 0), (.int .u8 0), (.int .u8 0), (.int .u8 0), (.int .u8 0), (.int .u8 0), (.int .u8 0), (.int .u8 0), (.int .u8 0), (.int .u8 0), (.int .u8 0), (.int .u8 0), (.int .u8 0), (.int .u8 0), (.int .u8 0), (.int .u8 0), (.int .u8 0), (.int .u8 0), (.int .u8 0), (.int .u8 0), (.int .u8 0), (.int .u8 0), (.int .u8 0), (.int .u8 0), (.int .u8 0)]) }
theorem tf81 : TFacts 81 ti81 := ⟨Tryz.underlying81, info_of (by kernel_rfl)⟩
def ti82 : TI := { desc := .int .u64, size := 1, bytes := 8, zero := (.int .u64 0) }
theorem tf82 : TFacts 82 ti82 := ⟨Tryz.underlying82, info_of (by kernel_rfl)⟩
def ti84 : TI := { desc := .map 9 4, size := 1, bytes := 8, zero := (.map none) }
theorem tf84 : TFacts 84 ti84 := ⟨Tryz.underlying84, info_of (by kernel_rfl)⟩
def ti92 : TI := { desc := .array 256 4, size := 256, bytes := 256, zero := (.agg #[(.bool false), (.bool false), (.bool false), (.bool false), (.bool false), (.bool false), (.bool false), (.bool false), (.bool false), (.bool false), (.bool false), (.bool false), (.bool false), (.bool false), (.bool false), (.bool false), (.bool false), (.bool false), (.bool false), (.bool false), (.bool false), (.bool false), (.bool false), (.bool false), (.bool false), (.bool false), (.bool false), (.bool false), (.bool false), (.bool false), (.bool false), (.bool false), (.bool false), (.bool false), (.bool false), (.bool false), (.bool false), (.bool false), (.bool false), (.bool false), (.bool false), (.bool false), (.bool false), (.bool false), (.bool false), (.bool false), (.bool false), (.bool false), (.bool false), (.bool false), (.bool false), (.bool false), (.bool false), (.bool false), (.bool false), (.bool false), (.bool false), (.bool false), (.bool false), (.bool false), (.bool false), (.bool false), (.bool false), (.bool false), (.bool false), (.bool false), (.bool false), (.bool false), (.bool false), (.bool false), (.bool false), (.bool false), (.bool false), (.bool false), (.bool false), (.bool false), (.bool false), (.bool false), (.bool false), (.bool false), (.bool false), (.bool false), (.bool false), (.bool false), (.bool false), (.bool false), (.bool false), (.bool false), (.bool false), (.bool false), (.bool false), (.bool false), (.bool false), (.bool false), (.bool false), (.bool false), (.bool false), (.bool false), (.bool false), (.bool false), (.bool false), (.bool false), (.bool false), (.bool false), (.bool false), (.bool false), (.bool false), (.bool false), (.bool false), (.bool false), (.bool false), (.bool false), (.bool false), (.bool false), (.bool false), (.bool false), (.bool false), (.bool false), (.bool false), (.bool false), (.bool false), (.bool false), (.bool false), (.bool false), (.bool false), (.bool false), (.bool false), (.bool false), (.bool false), (.bool false), (.bool false), (.bool false), (.bool false), (.bool false), (.bool false), (.bool false), (.bool false), (.bool false), (.bool false), (.bool false), (.bool false), (.bool false), (.bool false), (.bool false), (.bool false), (.bool false), (.bool false), (.bool false), (.bool false), (.bool false), (.bool false), (.bool false), (.bool false), (.bool false), (.bool false), (.bool false), (.bool false), (.bool false), (.bool false), (.bool false), (.bool false), (.bool false), (.bool false), (.bool false), (.bool false), (.bool false), (.bool false), (.bool false), (.bool false), (.bool false), (.bool false), (.bool false), (.bool false), (.bool false), (.bool false), (.bool false), (.bool false), (.bool false), (.bool false), (.bool false), (.bool false), (.bool false), (.bool false), (.bool false), (.bool false), (.bool false), (.bool false), (.bool false), (.bool false), (.bool false), (.bool false), (.bool false), (.bool false), (.bool false), (.bool false), (.bool false), (.bool false), (.bool false), (.bool false), (.bool false), (.bool false), (.bool false), (.bool false), (.bool false), (.bool false), (.bool false), (.bool false), (.bool false), (.bool false), (.bool false), (.bool false), (.bool false), (.bool false), (.bool false), (.bool false), (.bool false), (.bool false), (.bool false), (.bool false), (.bool false), (.bool false), (.bool false), (.bool false), (.bool false), (.bool false), (.bool false), (.bool false), (.bool false), (.bool false), (.bool false), (.bool false), (.bool false), (.bool false), (.bool false), (.bool false), (.bool false), (.bool false), (.bool false), (.bool false), (.bool false), (.bool false), (.bool false), (.bool false), (.bool false), (.bool false), (.bool false), (.bool false), (.bool false), (.bool false), (.bool false), (.bool false), (.bool false), (.bool false), (.bool false), (.bool false), (.bool false)]) }
theorem tf92 : TFacts 92 ti92 := ⟨Tryz.underlying92, info_of (by kernel_rfl)⟩
def ti93 : TI := { desc := .array 256 4, size := 256, bytes := 256, zero := (.agg #[(.bool false), (.bool false), (.bool false), (.bool false), (.bool false), (.bool false), (.bool false), (.bool false), (.bool false), (.bool false), (.bool false), (.bool false), (.bool false), (.bool false), (.bool false), (.bool false), (.bool false), (.bool false), (.bool false), (.bool false), (.bool false), (.bool false), (.bool false), (.bool false), (.bool false), (.bool false), (.bool false), (.bool false), (.bool false), (.bool false), (.bool false), (.bool false), (.bool false), (.bool false), (.bool false), (.bool false), (.bool false), (.bool false), (.bool false), (.bool false), (.bool false), (.bool false), (.bool false), (.bool false), (.bool false), (.bool false), (.bool false), (.bool false), (.bool false), (.bool false), (.bool false), (.bool false), (.bool false), (.bool false), (.bool false), (.bool false), (.bool false), (.bool false), (.bool false), (.bool false), (.bool false), (.bool false), (.bool false), (.bool false), (.bool false), (.bool false), (.bool false), (.bool false), (.bool false), (.bool false), (.bool false), (.bool false), (.bool false), (.bool false), (.bool false), (.bool false), (.bool false), (.bool false), (.bool false), (.bool false), (.bool false), (.bool false), (.bool false), (.bool false), (.bool false), (.bool false), (.bool false), (.bool false), (.bool false), (.bool false), (.bool false), (.bool false), (.bool false), (.bool false), (.bool false), (.bool false), (.bool false), (.bool false), (.bool false), (.bool false), (.bool false), (.bool false), (.bool false), (.bool false), (.bool false), (.bool false), (.bool false), (.bool false), (.bool false), (.bool false), (.bool false), (.bool false), (.bool false), (.bool false), (.bool false), (.bool false), (.bool false), (.bool false), (.bool false), (.bool false), (.bool false), (.bool false), (.bool false), (.bool false), (.bool false), (.bool false), (.bool false), (.bool false), (.bool false), (.bool false), (.bool false), (.bool false), (.bool false), (.bool false), (.bool false), (.bool false), (.bool false), (.bool false), (.bool false), (.bool false), (.bool false), (.bool false), (.bool false), (.bool false), (.bool false), (.bool false), (.bool false), (.bool false), (.bool false), (.bool false), (.bool false), (.bool false), (.bool false), (.bool false), (.bool false), (.bool false), (.bool false), (.bool false), (.bool false), (.bool false), (.bool false), (.bool false), (.bool false), (.bool false), (.bool false), (.bool false), (.bool false), (.bool false), (.bool false), (.bool false), (.bool false), (.bool false), (.bool false), (.bool false), (.bool false), (.bool false), (.bool false), (.bool false), (.bool false), (.bool false), (.bool false), (.bool false), (.bool false), (.bool false), (.bool false), (.bool false), (.bool false), (.bool false), (.bool false), (.bool false), (.bool false), (.bool false), (.bool false), (.bool false), (.bool false), (.bool false), (.bool false), (.bool false), (.bool false), (.bool false), (.bool false), (.bool false), (.bool false), (.bool false), (.bool false), (.bool false), (.bool false), (.bool false), (.bool false), (.bool false), (.bool false), (.bool false), (.bool false), (.bool false), (.bool false), (.bool false), (.bool false), (.bool false), (.bool false), (.bool false), (.bool false), (.bool false), (.bool false), (.bool false), (.bool false), (.bool false), (.bool false), (.bool false), (.bool false), (.bool false), (.bool false), (.bool false), (.bool false), (.bool false), (.bool false), (.bool false), (.bool false), (.bool false), (.bool false), (.bool false), (.bool false), (.bool false), (.bool false), (.bool false), (.bool false), (.bool false), (.bool false), (.bool false), (.bool false), (.bool false), (.bool false), (.bool false), (.bool false), (.bool false), (.bool false), (.bool false)]) }
theorem tf93 : TFacts 93 ti93 := ⟨Tryz.underlying93, info_of (by kernel_rfl)⟩
def ti97 : TI := { desc := .pointer 93, size := 1, bytes := 8, zero := (.pointer none) }
theorem tf97 : TFacts 97 ti97 := ⟨Tryz.underlying97, info_of (by kernel_rfl)⟩
def ti106 : TI := { desc := .slice 5, size := 1, bytes := 24, zero := (.slice none 0 0) }
theorem tf106 : TFacts 106 ti106 := ⟨Tryz.underlying106, info_of (by kernel_rfl)⟩
def ti107 : TI := { desc := .slice 3, size := 1, bytes := 24, zero := (.slice none 0 0) }
theorem tf107 : TFacts 107 ti107 := ⟨Tryz.underlying107, info_of (by kernel_rfl)⟩
def ti114 : TI := { desc := .struct #[{ name := "_interface", type := 17, offset := 0, embedded := false, tag := "", pkgPath := "runtime", byteOffset := 0 }, { name := "concrete", type := 17, offset := 1, embedded := false, tag := "", pkgPath := "runtime", byteOffset := 8 }, { name := "asserted", type := 17, offset := 2, embedded := false, tag := "", pkgPath := "runtime", byteOffset := 16 }, { name := "missingMethod", type := 9, offset := 3, embedded := false, tag := "", pkgPath := "runtime", byteOffset := 24 }], size := 4, bytes := 40, zero := (.agg #[(.pointer none), (.pointer none), (.pointer none), (.string ⟨#[]⟩)]) }
theorem tf114 : TFacts 114 ti114 := ⟨Tryz.underlying114, info_of (by kernel_rfl)⟩
def ti116 : TI := { desc := .array 0 16, size := 0, bytes := 0, zero := (.agg #[]) }
theorem tf116 : TFacts 116 ti116 := ⟨Tryz.underlying116, info_of (by kernel_rfl)⟩
def ti117 : TI := { desc := .struct #[{ name := "_", type := 116, offset := 0, embedded := false, tag := "", pkgPath := "runtime", byteOffset := 0 }], size := 0, bytes := 0, zero := (.agg #[]) }
theorem tf117 : TFacts 117 ti117 := ⟨Tryz.underlying117, info_of (by kernel_rfl)⟩
def ti120 : TI := { desc := .int .u32, size := 1, bytes := 4, zero := (.int .u32 0) }
theorem tf120 : TFacts 120 ti120 := ⟨Tryz.underlying120, info_of (by kernel_rfl)⟩
def ti124 : TI := { desc := .pointer 5, size := 1, bytes := 8, zero := (.pointer none) }
theorem tf124 : TFacts 124 ti124 := ⟨Tryz.underlying124, info_of (by kernel_rfl)⟩
def ti127 : TI := { desc := .struct #[{ name := "Size_", type := 12, offset := 0, embedded := false, tag := "", pkgPath := "", byteOffset := 0 }, { name := "PtrBytes", type := 12, offset := 1, embedded := false, tag := "", pkgPath := "", byteOffset := 8 }, { name := "Hash", type := 120, offset := 2, embedded := false, tag := "", pkgPath := "", byteOffset := 16 }, { name := "TFlag", type := 121, offset := 3, embedded := false, tag := "", pkgPath := "", byteOffset := 20 }, { name := "Align_", type := 5, offset := 4, embedded := false, tag := "", pkgPath := "", byteOffset := 21 }, { name := "FieldAlign_", type := 5, offset := 5, embedded := false, tag := "", pkgPath := "", byteOffset := 22 }, { name := "Kind_", type := 122, offset := 6, embedded := false, tag := "", pkgPath := "", byteOffset := 23 }, { name := "Equal", type := 123, offset := 7, embedded := false, tag := "", pkgPath := "", byteOffset := 24 }, { name := "GCData", type := 124, offset := 8, embedded := false, tag := "", pkgPath := "", byteOffset := 32 }, { name := "Str", type := 125, offset := 9, embedded := false, tag := "", pkgPath := "", byteOffset := 40 }, { name := "PtrToThis", type := 126, offset := 10, embedded := false, tag := "", pkgPath := "", byteOffset := 44 }], size := 11, bytes := 48, zero := (.agg #[(.int .u64 0), (.int .u64 0), (.int .u32 0), (.int .u8 0), (.int .u8 0), (.int .u8 0), (.int .u8 0), .nilFunc, (.pointer none), (.int .i32 0), (.int .i32 0)]) }
theorem tf127 : TFacts 127 ti127 := ⟨Tryz.underlying127, info_of (by kernel_rfl)⟩
def tiT : Nat → Option TI
  | 2 => some ti2
  | 3 => some ti3
  | 4 => some ti4
  | 5 => some ti5
  | 7 => some ti7
  | 9 => some ti9
  | 12 => some ti12
  | 13 => some ti13
  | 15 => some ti15
  | 16 => some ti16
  | 17 => some ti17
  | 18 => some ti18
  | 21 => some ti21
  | 22 => some ti22
  | 23 => some ti23
  | 24 => some ti24
  | 25 => some ti25
  | 26 => some ti26
  | 27 => some ti27
  | 28 => some ti28
  | 29 => some ti29
  | 30 => some ti30
  | 31 => some ti31
  | 32 => some ti32
  | 33 => some ti33
  | 38 => some ti38
  | 56 => some ti56
  | 65 => some ti65
  | 78 => some ti78
  | 79 => some ti79
  | 80 => some ti80
  | 81 => some ti81
  | 82 => some ti82
  | 84 => some ti84
  | 92 => some ti92
  | 93 => some ti93
  | 97 => some ti97
  | 106 => some ti106
  | 107 => some ti107
  | 114 => some ti114
  | 116 => some ti116
  | 117 => some ti117
  | 120 => some ti120
  | 124 => some ti124
  | 127 => some ti127
  | _ => none
theorem tiOk (t : Nat) (i : TI) (h : tiT t = some i) : TFacts t i := by
  unfold tiT at h
  split at h
  · injection h with h; subst h; exact tf2
  · injection h with h; subst h; exact tf3
  · injection h with h; subst h; exact tf4
  · injection h with h; subst h; exact tf5
  · injection h with h; subst h; exact tf7
  · injection h with h; subst h; exact tf9
  · injection h with h; subst h; exact tf12
  · injection h with h; subst h; exact tf13
  · injection h with h; subst h; exact tf15
  · injection h with h; subst h; exact tf16
  · injection h with h; subst h; exact tf17
  · injection h with h; subst h; exact tf18
  · injection h with h; subst h; exact tf21
  · injection h with h; subst h; exact tf22
  · injection h with h; subst h; exact tf23
  · injection h with h; subst h; exact tf24
  · injection h with h; subst h; exact tf25
  · injection h with h; subst h; exact tf26
  · injection h with h; subst h; exact tf27
  · injection h with h; subst h; exact tf28
  · injection h with h; subst h; exact tf29
  · injection h with h; subst h; exact tf30
  · injection h with h; subst h; exact tf31
  · injection h with h; subst h; exact tf32
  · injection h with h; subst h; exact tf33
  · injection h with h; subst h; exact tf38
  · injection h with h; subst h; exact tf56
  · injection h with h; subst h; exact tf65
  · injection h with h; subst h; exact tf78
  · injection h with h; subst h; exact tf79
  · injection h with h; subst h; exact tf80
  · injection h with h; subst h; exact tf81
  · injection h with h; subst h; exact tf82
  · injection h with h; subst h; exact tf84
  · injection h with h; subst h; exact tf92
  · injection h with h; subst h; exact tf93
  · injection h with h; subst h; exact tf97
  · injection h with h; subst h; exact tf106
  · injection h with h; subst h; exact tf107
  · injection h with h; subst h; exact tf114
  · injection h with h; subst h; exact tf116
  · injection h with h; subst h; exact tf117
  · injection h with h; subst h; exact tf120
  · injection h with h; subst h; exact tf124
  · injection h with h; subst h; exact tf127
  · cases h
def gFirst : Nat := 1
def gAccept : Nat := 2
/-- calamus/types.kinds -/
def gl0 : List D := [.v (.int .i64 0), .v (.int .i64 0), .v (.int .i64 1), .v (.int .i64 2), .v (.int .i64 3), .v (.int .i64 3), .v (.int .i64 4), .v (.int .i64 5), .v (.int .i64 6)]
/-- unicode/utf8.first -/
def gl1 : List D := (List.range 256).map fun c => .v (.int .u8 (Lib.firstT c))
/-- unicode/utf8.acceptRanges -/
def gl2 : List D := [.v (.int .u8 128), .v (.int .u8 191), .v (.int .u8 160), .v (.int .u8 191), .v (.int .u8 128), .v (.int .u8 159), .v (.int .u8 144), .v (.int .u8 191), .v (.int .u8 128), .v (.int .u8 143), .v (.int .u8 0), .v (.int .u8 0), .v (.int .u8 0), .v (.int .u8 0), .v (.int .u8 0), .v (.int .u8 0), .v (.int .u8 0), .v (.int .u8 0), .v (.int .u8 0), .v (.int .u8 0), .v (.int .u8 0), .v (.int .u8 0), .v (.int .u8 0), .v (.int .u8 0), .v (.int .u8 0), .v (.int .u8 0), .v (.int .u8 0), .v (.int .u8 0), .v (.int .u8 0), .v (.int .u8 0), .v (.int .u8 0), .v (.int .u8 0)]
def glT : Nat → Option (List D)
  | 0 => some gl0
  | 1 => some gl1
  | 2 => some gl2
  | _ => none
noncomputable def env : Env := { P := Tryz.prog, GL := glT, ti := tiT, ok := tiOk, mixed := by kernel_rfl }
end Go.Proofs.YtdcpnpcmgfmenaaGreatDoor
/-
  Layings of the library's functions at this program, in plain words. Conditions: none.
-/
set_option maxRecDepth 100000
namespace Go.Proofs
open Go.RowKit Go.Shelf Go.Lib
def Tryz.laysValid_ren : Go.Shelf.Ren := ⟨fun | 196 => 56 | 259 => 73 | n => n, fun | 9 => 9 | 4 => 4 | 3 => 3 | 5 => 5 | 12 => 12 | 119 => 78 | 0 => 0 | 46 => 82 | 139 => 81 | 138 => 80 | 53 => 30 | n => n, fun | 3 => 1 | 4 => 2 | n => n⟩
theorem Tryz.laysValid : Go.Proofs.Lays.n196 Tryz.prog Tryz.laysValid_ren :=
  { mixed := by kernel_rfl,
    f196 := Tryz.func56.trans (congrArg some (by kernel_rfl)),
    f259 := Tryz.func73.trans (congrArg some (by kernel_rfl)),
    t0 := Tryz.underlying0,
    a0 := Tryz.isAgg0,
    z0 := Tryz.sizeOf0,
    v0 := Tryz.zeroValue0,
    t3 := Tryz.underlying3,
    a3 := Tryz.isAgg3,
    z3 := Tryz.sizeOf3,
    v3 := Tryz.zeroValue3,
    t4 := Tryz.underlying4,
    a4 := Tryz.isAgg4,
    z4 := Tryz.sizeOf4,
    v4 := Tryz.zeroValue4,
    t5 := Tryz.underlying5,
    a5 := Tryz.isAgg5,
    z5 := Tryz.sizeOf5,
    v5 := Tryz.zeroValue5,
    t9 := Tryz.underlying9,
    a9 := Tryz.isAgg9,
    z9 := Tryz.sizeOf9,
    v9 := Tryz.zeroValue9,
    t12 := Tryz.underlying12,
    a12 := Tryz.isAgg12,
    z12 := Tryz.sizeOf12,
    v12 := Tryz.zeroValue12,
    t46 := Tryz.underlying82,
    a46 := Tryz.isAgg82,
    z46 := Tryz.sizeOf82,
    v46 := Tryz.zeroValue82,
    t53 := Tryz.underlying30,
    a53 := Tryz.isAgg30,
    z53 := Tryz.sizeOf30,
    v53 := Tryz.zeroValue30,
    t119 := Tryz.underlying78,
    a119 := Tryz.isAgg78,
    z119 := Tryz.sizeOf78,
    t138 := Tryz.underlying80,
    a138 := Tryz.isAgg80,
    z138 := Tryz.sizeOf80,
    v138 := Tryz.zeroValue80,
    t139 := Tryz.underlying81,
    a139 := Tryz.isAgg81,
    z139 := Tryz.sizeOf81,
    v139 := Tryz.zeroValue81,
    g3 := by kernel_rfl,
    g4 := by kernel_rfl }
def Tryz.laysTrim_ren : Go.Shelf.Ren := ⟨fun | 160 => 79 | 232 => 84 | 231 => 83 | 227 => 85 | 234 => 87 | 233 => 86 | 236 => 89 | 235 => 88 | 228 => 95 | 271 => 98 | 151 => 97 | 197 => 96 | 120 => 101 | 152 => 100 | 260 => 99 | 137 => 102 | 119 => 103 | 224 => 104 | 225 => 105 | 217 => 106 | 266 => 107 | n => n, fun | 9 => 9 | 4 => 4 | 3 => 3 | 5 => 5 | 117 => 94 | 116 => 93 | 0 => 0 | 124 => 97 | 21 => 21 | 105 => 103 | 46 => 82 | 119 => 78 | 139 => 81 | 138 => 80 | n => n, fun | 3 => 1 | 4 => 2 | n => n⟩
theorem Tryz.laysTrim : Go.Proofs.Lays.n160 Tryz.prog Tryz.laysTrim_ren :=
  { mixed := by kernel_rfl,
    f119 := Tryz.func103.trans (congrArg some (by kernel_rfl)),
    f120 := Tryz.func101.trans (congrArg some (by kernel_rfl)),
    f137 := Tryz.func102.trans (congrArg some (by kernel_rfl)),
    f151 := Tryz.func97.trans (congrArg some (by kernel_rfl)),
    f152 := Tryz.func100.trans (congrArg some (by kernel_rfl)),
    f160 := Tryz.func79.trans (congrArg some (by kernel_rfl)),
    f197 := Tryz.func96.trans (congrArg some (by kernel_rfl)),
    f217 := Tryz.func106.trans (congrArg some (by kernel_rfl)),
    f224 := Tryz.func104.trans (congrArg some (by kernel_rfl)),
    f225 := Tryz.func105.trans (congrArg some (by kernel_rfl)),
    f227 := Tryz.func85.trans (congrArg some (by kernel_rfl)),
    f228 := Tryz.func95.trans (congrArg some (by kernel_rfl)),
    f231 := Tryz.func83.trans (congrArg some (by kernel_rfl)),
    f232 := Tryz.func84.trans (congrArg some (by kernel_rfl)),
    f233 := Tryz.func86.trans (congrArg some (by kernel_rfl)),
    f234 := Tryz.func87.trans (congrArg some (by kernel_rfl)),
    f235 := Tryz.func88.trans (congrArg some (by kernel_rfl)),
    f236 := Tryz.func89.trans (congrArg some (by kernel_rfl)),
    f260 := Tryz.func99.trans (congrArg some (by kernel_rfl)),
    f266 := Tryz.func107.trans (congrArg some (by kernel_rfl)),
    f271 := Tryz.func98.trans (congrArg some (by kernel_rfl)),
    t0 := Tryz.underlying0,
    a0 := Tryz.isAgg0,
    z0 := Tryz.sizeOf0,
    v0 := Tryz.zeroValue0,
    t3 := Tryz.underlying3,
    a3 := Tryz.isAgg3,
    z3 := Tryz.sizeOf3,
    v3 := Tryz.zeroValue3,
    t4 := Tryz.underlying4,
    a4 := Tryz.isAgg4,
    z4 := Tryz.sizeOf4,
    v4 := Tryz.zeroValue4,
    t5 := Tryz.underlying5,
    a5 := Tryz.isAgg5,
    z5 := Tryz.sizeOf5,
    v5 := Tryz.zeroValue5,
    t9 := Tryz.underlying9,
    a9 := Tryz.isAgg9,
    z9 := Tryz.sizeOf9,
    v9 := Tryz.zeroValue9,
    t21 := Tryz.underlying21,
    a21 := Tryz.isAgg21,
    z21 := Tryz.sizeOf21,
    v21 := Tryz.zeroValue21,
    t46 := Tryz.underlying82,
    a46 := Tryz.isAgg82,
    z46 := Tryz.sizeOf82,
    v46 := Tryz.zeroValue82,
    t105 := Tryz.underlying103,
    a105 := Tryz.isAgg103,
    z105 := Tryz.sizeOf103,
    v105 := Tryz.zeroValue103,
    t116 := Tryz.underlying93,
    a116 := Tryz.isAgg93,
    z116 := Tryz.sizeOf93,
    t117 := Tryz.underlying94,
    a117 := Tryz.isAgg94,
    z117 := Tryz.sizeOf94,
    v117 := Tryz.zeroValue94,
    t119 := Tryz.underlying78,
    a119 := Tryz.isAgg78,
    z119 := Tryz.sizeOf78,
    t124 := Tryz.underlying97,
    a124 := Tryz.isAgg97,
    z124 := Tryz.sizeOf97,
    v124 := Tryz.zeroValue97,
    t138 := Tryz.underlying80,
    a138 := Tryz.isAgg80,
    z138 := Tryz.sizeOf80,
    v138 := Tryz.zeroValue80,
    t139 := Tryz.underlying81,
    a139 := Tryz.isAgg81,
    z139 := Tryz.sizeOf81,
    v139 := Tryz.zeroValue81,
    g3 := by kernel_rfl,
    g4 := by kernel_rfl }
def Tryz.laysSuffix_ren : Go.Shelf.Ren := ⟨fun | 100 => 75 | 207 => 80 | n => n, fun | 9 => 9 | 4 => 4 | 3 => 3 | n => n, fun | n => n⟩
theorem Tryz.laysSuffix : Go.Proofs.Lays.n100 Tryz.prog Tryz.laysSuffix_ren :=
  { mixed := by kernel_rfl,
    f100 := Tryz.func75.trans (congrArg some (by kernel_rfl)),
    f207 := Tryz.func80.trans (congrArg some (by kernel_rfl)),
    t3 := Tryz.underlying3,
    a3 := Tryz.isAgg3,
    z3 := Tryz.sizeOf3,
    v3 := Tryz.zeroValue3,
    t4 := Tryz.underlying4,
    a4 := Tryz.isAgg4,
    z4 := Tryz.sizeOf4,
    v4 := Tryz.zeroValue4,
    t9 := Tryz.underlying9,
    a9 := Tryz.isAgg9,
    z9 := Tryz.sizeOf9,
    v9 := Tryz.zeroValue9 }
end Go.Proofs
/-
  The library's functions that the shelf holds, as contracts of the logic. Conditions: none.
-/
set_option linter.unusedVariables false
set_option maxRecDepth 100000
namespace Go.Proofs
open Go.RowKit Go.Shelf Go.Lib

namespace YtdcpnpcmgfmenaaGreatDoor
open Go Go.Proofs.YtdcpnpcmgfmenaaGreatDoor.Lg

theorem hasSuffix_calls (s p : ByteArray) (w : World) (hs : s.size ≤ 9223372036854775807) :
    Calls Tryz.prog 75 #[.string s, .string p] w fun e w' => e = .returned (.bool (Lib.hasSuffix s.data.toList p.data.toList)) ∧ w' = w :=
  Any.strings_HasSuffix Tryz.laysSuffix s p w hs
theorem valid_calls (s : ByteArray) (w : World) (hs : s.size ≤ 9223372036854775807) (hT : Lib.Utf8Tabs (Tryz.laysValid_ren.g 3) (Tryz.laysValid_ren.g 4) w) :
    Calls Tryz.prog 56 #[.string s] w fun e w' => e = .returned (.bool (Lib.validD s.data.toList)) ∧ Below w.heap.size w w' :=
  Any.utf8_ValidString Tryz.laysValid s w hs hT
theorem trim_calls (s cutset : ByteArray) (w : World) (hs : s.size ≤ 9223372036854775807) (hcs : cutset.size < 4294967281) (hascii : ∀ (j : Nat) b, cutset.data.toList[j]? = some b → b.toNat < 128) :
    Calls Tryz.prog 79 #[.string s, .string cutset] w fun e w' => e = .returned (.string ⟨(Lib.trimS s.data.toList cutset.data.toList).toArray⟩) ∧ Below w.heap.size w w' :=
  Any.strings_Trim_laid Tryz.laysTrim (by kernel_rfl) s cutset w hs hcs hascii

theorem tabs_of {w : World} {g : G} {nx : Nat} {h : Nat → AO} (hr : HRel env w g nx h) : Lib.Utf8Tabs gFirst gAccept w := by
  obtain ⟨_, f, h1, h2⟩ := hr.gl gFirst _ rfl
  obtain ⟨_, f', h1', h2'⟩ := hr.gl gAccept _ rfl
  have e1 : ∀ (j : Nat) v, (env.GL gFirst).bind (·[j]?) = some (.v v) → w.cell? ⟨gFirst, j, none⟩ = some v := fun j v hj => by
    obtain ⟨cs, hcs, hj⟩ := Option.bind_eq_some_iff.1 hj
    obtain ⟨_, f, h1, h2⟩ := hr.gl gFirst cs hcs
    rw [h1 j _ hj]
    have := h2 j _ hj
    congr 1
    generalize f j = y at this
    cases this; rfl
  have e2 : ∀ (j : Nat) v, (env.GL gAccept).bind (·[j]?) = some (.v v) → w.cell? ⟨gAccept, j, none⟩ = some v := fun j v hj => by
    obtain ⟨cs, hcs, hj⟩ := Option.bind_eq_some_iff.1 hj
    obtain ⟨_, f, h1, h2⟩ := hr.gl gAccept cs hcs
    rw [h1 j _ hj]
    have := h2 j _ hj
    congr 1
    generalize f j = y at this
    cases this; rfl
  refine ⟨fun c hc => e1 c _ ?_, fun i hi => ?_⟩
  · show ((List.range 256).map fun c => D.v (.int .u8 (Lib.firstT c)))[c]? = _
    simp [hc]
  · have key : ∀ i, i < 16 → (env.GL gAccept).bind (·[2 * i]?) = some (.v (.int .u8 (Lib.accLo i))) ∧ (env.GL gAccept).bind (·[2 * i + 1]?) = some (.v (.int .u8 (Lib.accHi i))) := by
      intro i hi
      match i, hi with
      | 0, _ | 1, _ | 2, _ | 3, _ | 4, _ | 5, _ | 6, _ | 7, _ | 8, _ | 9, _ | 10, _ | 11, _ | 12, _ | 13, _ | 14, _ | 15, _ => exact ⟨rfl, rfl⟩
      | i + 16, h => omega
    exact ⟨e2 _ _ (key i hi).1, e2 _ _ (key i hi).2⟩

theorem pure1 {E : Env} {f : FuncId} {fn : Func} {c : Code} {a r : Value} (hf : E.P.funcs[f]? = some fn) (hname : (fn.name == "runtime.NumGoroutine") = false) (hb : fn.body = some c)
    (h : ∀ w g, HRel E w g 0 (fun _ => .dead) → Calls E.P f #[a] w fun e w' => e = .returned r ∧ Below w.heap.size w w') : Pure E f [.d (.v a)] (.d (.v r)) := by
  refine ⟨enters_of hf hname hb, fun w g vs hr hs hv => ?_⟩
  have : vs = #[a] := by
    apply Array.ext
    · simpa using hs
    · intro i h1 h2
      have hi : i = 0 := by simp at h2; exact h2
      subst hi
      simpa using vr_val (hv 0 _ _ rfl (Array.getElem?_eq_getElem h1))
  subst this
  exact (h w g hr).mono fun e w' ⟨h1, h2⟩ => ⟨r, h1, .d _ _ (.v _), h2⟩
theorem pure2 {E : Env} {f : FuncId} {fn : Func} {c : Code} {a b r : Value} (hf : E.P.funcs[f]? = some fn) (hname : (fn.name == "runtime.NumGoroutine") = false) (hb : fn.body = some c)
    (h : ∀ w g, HRel E w g 0 (fun _ => .dead) → Calls E.P f #[a, b] w fun e w' => e = .returned r ∧ Below w.heap.size w w') : Pure E f [.d (.v a), .d (.v b)] (.d (.v r)) := by
  refine ⟨enters_of hf hname hb, fun w g vs hr hs hv => ?_⟩
  have : vs = #[a, b] := by
    apply Array.ext
    · simpa using hs
    · intro i h1 h2
      match i, h1 with
      | 0, h1 => simpa using vr_val (hv 0 _ _ rfl (Array.getElem?_eq_getElem h1))
      | 1, h1 => simpa using vr_val (hv 1 _ _ rfl (Array.getElem?_eq_getElem h1))
      | i + 2, h1 => simp at h2; omega
  subst this
  exact (h w g hr).mono fun e w' ⟨h1, h2⟩ => ⟨r, h1, .d _ _ (.v _), h2⟩

/-- No text is longer. -/
def fits (s : ByteArray) : Prop := s.size ≤ 9223372036854775807
def utfOk (s : ByteArray) : Bool := Lib.validD s.data.toList

theorem validString_pure (s : ByteArray) (hs : fits s) : Pure env 56 [.d (.v (.string s))] (.d (.v (.bool (utfOk s)))) :=
  pure1 Tryz.func56 rfl rfl fun w g hr => valid_calls s w hs (tabs_of hr)
theorem hasSuffix_pure (s p : ByteArray) (hs : fits s) : Pure env 75 [.d (.v (.string s)), .d (.v (.string p))] (.d (.v (.bool (Lib.hasSuffix s.data.toList p.data.toList)))) :=
  pure2 Tryz.func75 rfl rfl fun w g hr => (hasSuffix_calls s p w hs).mono fun e w' ⟨h1, h2⟩ => ⟨h1, h2 ▸ Below.refl _ _⟩
theorem trim_pure (s p : ByteArray) (hs : fits s) (hp : p.size < 4294967281) (ha : (p.data.toList.all fun b => decide (b.toNat < 128)) = true) : Pure env 79 [.d (.v (.string s)), .d (.v (.string p))] (.d (.v (.string ⟨(Lib.trimS s.data.toList p.data.toList).toArray⟩))) :=
  pure2 Tryz.func79 rfl rfl fun w g hr => trim_calls s p w hs hp (ascii_of_all ha)
end YtdcpnpcmgfmenaaGreatDoor
end Go.Proofs
/-
  Walks: texts and numbers checked. Conditions: none.
-/
set_option linter.unusedVariables false
set_option maxRecDepth 100000
namespace Go.Proofs.YtdcpnpcmgfmenaaGreatDoor
open Go Go.Proofs.YtdcpnpcmgfmenaaGreatDoor.Lg

theorem fitsAll : ∀ t j, env.ti t = some j → fitsT env t = true := by
  intro t j h
  change tiT t = some j at h
  unfold tiT at h
  split at h
  all_goals first | rfl | cases h

theorem valid_pure (s : ByteArray) (hs : fits s) : Pure env 35 [.d (.v (.string s))] (.d (.v (.bool (utfOk s)))) := by
  refine pure_of_body Tryz.func35 rfl rfl rfl fun B hB => ?_
  refine swp_seq ?_
  refine swp_region ?_
  refine sops_go rfl (st_assign (v := .d _) rfl rfl rfl ?_)
  refine sops_nil ?_
  refine swp_seq ?_
  refine swp_region ?_
  refine sops_go rfl (st_move (v := .d _) rfl rfl rfl ?_)
  -- hand: CALL f56(t3)
  refine sops_go rfl (st_call rfl rfl (validString_pure s hs) ⟨na_d _, trivial⟩ rfl ?_)
  refine sops_go rfl (st_assign (v := .d _) rfl rfl rfl ?_)
  refine sops_nil ?_
  refine swp_ret ?_
  -- ret
  exact ⟨.inl rfl, .inl ⟨2, rfl, ra_d (keeps_v _)⟩⟩

/-- The ten digits. -/
def tenDigits : ByteArray := ⟨#[48, 49, 50, 51, 52, 53, 54, 55, 56, 57]⟩
def noText : ByteArray := ⟨#[]⟩
def zeroText : ByteArray := ⟨#[48]⟩
def numDigits (s : ByteArray) : Bool := !(s.toList == noText.toList) && ((⟨(Lib.trimS s.data.toList tenDigits.data.toList).toArray⟩ : ByteArray).toList == noText.toList)

theorem digits_pure (s : ByteArray) (hs : fits s) : Pure env 74 [.d (.v (.string s))] (.d (.v (.bool (numDigits s)))) := by
  refine pure_of_body Tryz.func74 rfl rfl rfl fun B hB => ?_
  refine swp_seq ?_
  refine swp_region ?_
  refine sops_go rfl (st_assign (v := .d _) rfl rfl rfl ?_)
  refine sops_nil ?_
  refine swp_seq ?_
  refine swp_region ?_
  refine sops_go rfl (st_move (v := .d _) rfl rfl rfl ?_)
  refine sops_go rfl (st_bin rfl rfl rfl rfl rfl ?_)
  refine sops_go rfl (st_move (v := .d _) rfl rfl rfl ?_)
  -- guard (some (2, true))
  refine sops_case 5 rfl (fun hb5 => ?_) (fun hb5 => ?_)
  · first | refine sops_yes rfl rfl rfl rfl (st_move (v := .d _) rfl rfl rfl ?_) | first | refine sops_no rfl rfl rfl rfl rfl ?_ | refine sops_un rfl rfl rfl rfl rfl ?_
    -- hand: CALL f79(t6, sb'0123456789')
    first | refine sops_yes rfl rfl rfl rfl (st_call rfl rfl (trim_pure s tenDigits hs (by decide) (by decide)) ⟨na_d _, na_d _, trivial⟩ rfl ?_) | first | refine sops_no rfl rfl rfl rfl rfl ?_ | refine sops_un rfl rfl rfl rfl rfl ?_
    first | refine sops_yes rfl rfl rfl rfl (st_bin rfl rfl rfl rfl rfl ?_) | first | refine sops_no rfl rfl rfl rfl rfl ?_ | refine sops_un rfl rfl rfl rfl rfl ?_
    refine sops_go rfl (st_pick (v := .d _) rfl rfl rfl rfl ?_)
    refine sops_go rfl (st_assign (v := .d _) rfl rfl rfl ?_)
    refine sops_nil ?_
    refine swp_ret ?_
    -- ret
    refine ⟨.inl rfl, .inl ⟨2, rfl, ?_⟩⟩
    have e : numDigits s = ((⟨(Lib.trimS s.data.toList tenDigits.data.toList).toArray⟩ : ByteArray).toList == noText.toList) := by
      have h : (!(s.toList == noText.toList)) = true := hb5
      unfold numDigits; rw [h]; rfl
    rw [e]; exact ra_d (keeps_v _)
  · first | refine sops_yes rfl rfl rfl rfl (st_move (v := .d _) rfl rfl rfl ?_) | first | refine sops_no rfl rfl rfl rfl rfl ?_ | refine sops_un rfl rfl rfl rfl rfl ?_
    -- hand: CALL f79(t6, sb'0123456789')
    first | refine sops_yes rfl rfl rfl rfl (st_call rfl rfl (trim_pure s tenDigits hs (by decide) (by decide)) ⟨na_d _, na_d _, trivial⟩ rfl ?_) | first | refine sops_no rfl rfl rfl rfl rfl ?_ | refine sops_un rfl rfl rfl rfl rfl ?_
    first | refine sops_yes rfl rfl rfl rfl (st_bin rfl rfl rfl rfl rfl ?_) | first | refine sops_no rfl rfl rfl rfl rfl ?_ | refine sops_un rfl rfl rfl rfl rfl ?_
    refine sops_go rfl (st_pick (v := .d _) rfl rfl rfl rfl ?_)
    refine sops_go rfl (st_assign (v := .d _) rfl rfl rfl ?_)
    refine sops_nil ?_
    refine swp_ret ?_
    -- ret
    refine ⟨.inl rfl, .inl ⟨2, rfl, ?_⟩⟩
    have e : numDigits s = false := by
      have h : (!(s.toList == noText.toList)) = false := hb5
      unfold numDigits; rw [h]; rfl
    rw [e]; exact ra_d (keeps_v _)

theorem numDigits_pos {s : ByteArray} (h : numDigits s = true) : 0 < s.size := by
  rcases Nat.eq_zero_or_pos s.size with h0 | h0
  · exfalso
    have : s = noText := by
      obtain ⟨d⟩ := s
      have : d = #[] := Array.eq_empty_of_size_eq_zero h0
      subst this; rfl
    subst this
    have hr : (noText.toList == noText.toList) = true := beq_self_eq_true _
    unfold numDigits at h
    rw [hr] at h; cases h
  · exact h0
end Go.Proofs.YtdcpnpcmgfmenaaGreatDoor
/-
  Walks: numbers checked. Conditions: none.
-/
set_option linter.unusedVariables false
set_option maxRecDepth 100000
namespace Go.Proofs.YtdcpnpcmgfmenaaGreatDoor
open Go Go.Proofs.YtdcpnpcmgfmenaaGreatDoor.Lg

def numZero (neg : Bool) (digits : ByteArray) (exp : Int) : Bool := (neg == false) && ((digits.toList == zeroText.toList) && ((exp == 0) && true))
def numBad (digits : ByteArray) (exp : Int) : Bool :=
  (!numDigits digits) || (decide ((digits.size : Int) > 40) || ((byteAt digits 0 == 48) || (Lib.hasSuffix digits.data.toList zeroText.data.toList || (decide (exp < -400) || decide (exp > 400)))))
def numCheck (neg : Bool) (digits : ByteArray) (exp : Int) : Int := if numZero neg digits exp = true then 0 else if numBad digits exp = true then 10 else 0

theorem numCheck_pure (neg : Bool) (digits : ByteArray) (exp : Int) (hs : fits digits) : Pure env 58 [.d (.agg [.v (.bool neg), .v (.string digits), .v (.int .i64 exp)])] (.d (.v (.int .i64 (numCheck neg digits exp)))) := by
  refine pure_of_body Tryz.func58 rfl rfl rfl fun B hB => ?_
  refine swp_seq ?_
  refine swp_region ?_
  refine sops_go rfl (so_box (cs := [_, _, _]) rfl rfl rfl ?_)
  refine sops_go rfl (st_assign (v := .d _) rfl rfl rfl ?_)
  refine sops_nil ?_
  refine swp_seq ?_
  refine swp_seq ?_
  refine swp_region ?_
  first | refine sops_go rfl (so_load (v := .d (.agg [_, _, _])) rfl rfl rfl rfl rfl rfl rfl rfl ?_) | refine sops_go rfl (so_load (v := .agg [_, _, _]) rfl rfl rfl rfl rfl rfl rfl rfl ?_)
  first | refine sops_go rfl (so_build (v := .d (.agg [_, _, _])) rfl rfl rfl rfl rfl rfl rfl ?_) | refine sops_go rfl (so_build (v := .agg [_, _, _]) rfl rfl rfl rfl rfl rfl rfl ?_)
  -- hand: binOp eql 29 t3 t4 29
  refine sops_go rfl (so_eqT rfl [29] (by kernel_rfl) fitsAll (by kernel_rfl) rfl rfl rfl rfl rfl rfl rfl rfl rfl rfl (b := numZero neg digits exp) rfl ?_)
  refine sops_nil ?_
  -- cond
  refine swp_cond _ rfl (fun hc => ?_) (fun hc => ?_)
  · refine swp_seq ?_
    refine swp_region ?_
    refine sops_go rfl (st_assign (v := .d _) rfl rfl rfl ?_)
    refine sops_nil ?_
    refine swp_ret ?_
    with_reducible refine after_ret ?_
    -- ret
    refine ⟨.inl rfl, .inl ⟨2, rfl, ?_⟩⟩
    have e : numCheck neg digits exp = 0 := by unfold numCheck; rw [if_pos hc]
    rw [e]; exact ra_d (keeps_v _)
  · refine swp_skip ?_
    refine swp_seq ?_
    refine swp_seq ?_
    refine swp_region ?_
    first | refine sops_go rfl (so_fieldAddr (v := .p _ _ _) rfl rfl rfl rfl rfl rfl rfl rfl rfl rfl ?_) | refine sops_go rfl (so_fieldAddr (v := .dp _ _) rfl rfl rfl rfl rfl rfl rfl rfl rfl rfl ?_) | refine sops_go rfl (so_fieldAddr (v := .pe _ _ _ _ _) rfl rfl rfl rfl rfl rfl rfl rfl rfl rfl ?_)
    refine sops_go rfl (so_load (v := .d _) rfl rfl rfl rfl rfl rfl rfl rfl ?_)
    -- hand: CALL f74(t7)
    have hz : numCheck neg digits exp = if numBad digits exp = true then 10 else 0 := by unfold numCheck; rw [hc]; simp
    refine sops_go rfl (st_call rfl rfl (digits_pure digits hs) ⟨na_d _, trivial⟩ rfl ?_)
    refine sops_go rfl (st_not rfl rfl rfl ?_)
    refine sops_go rfl (st_move (v := .d _) rfl rfl rfl ?_)
    -- guard (some (4, false))
    refine sops_case 10 rfl (fun hb10 => ?_) (fun hb10 => ?_)
    · first | refine sops_yes rfl rfl rfl rfl (so_fieldAddr (v := .p _ _ _) rfl rfl rfl rfl rfl rfl rfl rfl rfl rfl ?_) | refine sops_yes rfl rfl rfl rfl (so_fieldAddr (v := .dp _ _) rfl rfl rfl rfl rfl rfl rfl rfl rfl rfl ?_) | refine sops_yes rfl rfl rfl rfl (so_fieldAddr (v := .pe _ _ _ _ _) rfl rfl rfl rfl rfl rfl rfl rfl rfl rfl ?_) | first | refine sops_no rfl rfl rfl rfl rfl ?_ | refine sops_un rfl rfl rfl rfl rfl ?_
      first | refine sops_yes rfl rfl rfl rfl (so_load (v := .d _) rfl rfl rfl rfl rfl rfl rfl rfl ?_) | first | refine sops_no rfl rfl rfl rfl rfl ?_ | refine sops_un rfl rfl rfl rfl rfl ?_
      first | refine sops_yes rfl rfl rfl rfl (so_lenStr rfl rfl rfl rfl rfl ?_) | first | refine sops_no rfl rfl rfl rfl rfl ?_ | refine sops_un rfl rfl rfl rfl rfl ?_
      first | refine sops_yes rfl rfl rfl rfl (st_bin rfl rfl rfl rfl rfl ?_) | first | refine sops_no rfl rfl rfl rfl rfl ?_ | refine sops_un rfl rfl rfl rfl rfl ?_
      refine sops_go rfl (st_pick (v := .d _) rfl rfl rfl rfl ?_)
      refine sops_go rfl (st_move (v := .d _) rfl rfl rfl ?_)
      -- guard (some (10, false))
      first | refine sops_yes rfl rfl rfl rfl (so_fieldAddr (v := .p _ _ _) rfl rfl rfl rfl rfl rfl rfl rfl rfl rfl ?_) | refine sops_yes rfl rfl rfl rfl (so_fieldAddr (v := .dp _ _) rfl rfl rfl rfl rfl rfl rfl rfl rfl rfl ?_) | refine sops_yes rfl rfl rfl rfl (so_fieldAddr (v := .pe _ _ _ _ _) rfl rfl rfl rfl rfl rfl rfl rfl rfl rfl ?_) | first | refine sops_no rfl rfl rfl rfl rfl ?_ | refine sops_un rfl rfl rfl rfl rfl ?_
      first | refine sops_yes rfl rfl rfl rfl (so_load (v := .d _) rfl rfl rfl rfl rfl rfl rfl rfl ?_) | first | refine sops_no rfl rfl rfl rfl rfl ?_ | refine sops_un rfl rfl rfl rfl rfl ?_
      -- hand: index 9 t18 0:i64
      first | refine sops_no rfl rfl rfl rfl rfl ?_ | refine sops_un rfl rfl rfl rfl rfl ?_
      first | refine sops_yes rfl rfl rfl rfl (st_bin rfl rfl rfl rfl rfl ?_) | first | refine sops_no rfl rfl rfl rfl rfl ?_ | refine sops_un rfl rfl rfl rfl rfl ?_
      refine sops_go rfl (st_pick (v := .d _) rfl rfl rfl rfl ?_)
      refine sops_go rfl (st_move (v := .d _) rfl rfl rfl ?_)
      first | refine sops_yes rfl rfl rfl rfl (so_fieldAddr (v := .p _ _ _) rfl rfl rfl rfl rfl rfl rfl rfl rfl rfl ?_) | refine sops_yes rfl rfl rfl rfl (so_fieldAddr (v := .dp _ _) rfl rfl rfl rfl rfl rfl rfl rfl rfl rfl ?_) | refine sops_yes rfl rfl rfl rfl (so_fieldAddr (v := .pe _ _ _ _ _) rfl rfl rfl rfl rfl rfl rfl rfl rfl rfl ?_) | first | refine sops_no rfl rfl rfl rfl rfl ?_ | refine sops_un rfl rfl rfl rfl rfl ?_
      first | refine sops_yes rfl rfl rfl rfl (so_load (v := .d _) rfl rfl rfl rfl rfl rfl rfl rfl ?_) | first | refine sops_no rfl rfl rfl rfl rfl ?_ | refine sops_un rfl rfl rfl rfl rfl ?_
      -- hand: CALL f75(t24, sb'0')
      first | refine sops_no rfl rfl rfl rfl rfl ?_ | refine sops_un rfl rfl rfl rfl rfl ?_
      refine sops_go rfl (st_pick (v := .d _) rfl rfl rfl rfl ?_)
      refine sops_go rfl (st_move (v := .d _) rfl rfl rfl ?_)
      first | refine sops_yes rfl rfl rfl rfl (so_fieldAddr (v := .p _ _ _) rfl rfl rfl rfl rfl rfl rfl rfl rfl rfl ?_) | refine sops_yes rfl rfl rfl rfl (so_fieldAddr (v := .dp _ _) rfl rfl rfl rfl rfl rfl rfl rfl rfl rfl ?_) | refine sops_yes rfl rfl rfl rfl (so_fieldAddr (v := .pe _ _ _ _ _) rfl rfl rfl rfl rfl rfl rfl rfl rfl rfl ?_) | first | refine sops_no rfl rfl rfl rfl rfl ?_ | refine sops_un rfl rfl rfl rfl rfl ?_
      first | refine sops_yes rfl rfl rfl rfl (so_load (v := .d _) rfl rfl rfl rfl rfl rfl rfl rfl ?_) | first | refine sops_no rfl rfl rfl rfl rfl ?_ | refine sops_un rfl rfl rfl rfl rfl ?_
      first | refine sops_yes rfl rfl rfl rfl (st_bin rfl rfl rfl rfl rfl ?_) | first | refine sops_no rfl rfl rfl rfl rfl ?_ | refine sops_un rfl rfl rfl rfl rfl ?_
      refine sops_go rfl (st_pick (v := .d _) rfl rfl rfl rfl ?_)
      refine sops_go rfl (st_move (v := .d _) rfl rfl rfl ?_)
      first | refine sops_yes rfl rfl rfl rfl (so_fieldAddr (v := .p _ _ _) rfl rfl rfl rfl rfl rfl rfl rfl rfl rfl ?_) | refine sops_yes rfl rfl rfl rfl (so_fieldAddr (v := .dp _ _) rfl rfl rfl rfl rfl rfl rfl rfl rfl rfl ?_) | refine sops_yes rfl rfl rfl rfl (so_fieldAddr (v := .pe _ _ _ _ _) rfl rfl rfl rfl rfl rfl rfl rfl rfl rfl ?_) | first | refine sops_no rfl rfl rfl rfl rfl ?_ | refine sops_un rfl rfl rfl rfl rfl ?_
      first | refine sops_yes rfl rfl rfl rfl (so_load (v := .d _) rfl rfl rfl rfl rfl rfl rfl rfl ?_) | first | refine sops_no rfl rfl rfl rfl rfl ?_ | refine sops_un rfl rfl rfl rfl rfl ?_
      first | refine sops_yes rfl rfl rfl rfl (st_bin rfl rfl rfl rfl rfl ?_) | first | refine sops_no rfl rfl rfl rfl rfl ?_ | refine sops_un rfl rfl rfl rfl rfl ?_
      refine sops_go rfl (st_pick (v := .d _) rfl rfl rfl rfl ?_)
      refine sops_nil ?_
      -- cond
      refine swp_condT rfl ?_
      refine swp_seq ?_
      refine swp_region ?_
      refine sops_go rfl (st_assign (v := .d _) rfl rfl rfl ?_)
      refine sops_nil ?_
      refine swp_ret ?_
      with_reducible refine after_ret ?_
      -- ret
      have e : numBad digits exp = true := by unfold numBad; rw [show (!numDigits digits) = true from hb10]; simp
      refine ⟨.inl rfl, .inl ⟨2, rfl, ?_⟩⟩
      rw [hz, if_pos e]; exact ra_d (keeps_v _)
    · first | refine sops_yes rfl rfl rfl rfl (so_fieldAddr (v := .p _ _ _) rfl rfl rfl rfl rfl rfl rfl rfl rfl rfl ?_) | refine sops_yes rfl rfl rfl rfl (so_fieldAddr (v := .dp _ _) rfl rfl rfl rfl rfl rfl rfl rfl rfl rfl ?_) | refine sops_yes rfl rfl rfl rfl (so_fieldAddr (v := .pe _ _ _ _ _) rfl rfl rfl rfl rfl rfl rfl rfl rfl rfl ?_) | first | refine sops_no rfl rfl rfl rfl rfl ?_ | refine sops_un rfl rfl rfl rfl rfl ?_
      first | refine sops_yes rfl rfl rfl rfl (so_load (v := .d _) rfl rfl rfl rfl rfl rfl rfl rfl ?_) | first | refine sops_no rfl rfl rfl rfl rfl ?_ | refine sops_un rfl rfl rfl rfl rfl ?_
      first | refine sops_yes rfl rfl rfl rfl (so_lenStr rfl rfl rfl rfl rfl ?_) | first | refine sops_no rfl rfl rfl rfl rfl ?_ | refine sops_un rfl rfl rfl rfl rfl ?_
      first | refine sops_yes rfl rfl rfl rfl (st_bin rfl rfl rfl rfl rfl ?_) | first | refine sops_no rfl rfl rfl rfl rfl ?_ | refine sops_un rfl rfl rfl rfl rfl ?_
      refine sops_go rfl (st_pick (v := .d _) rfl rfl rfl rfl ?_)
      refine sops_go rfl (st_move (v := .d _) rfl rfl rfl ?_)
      -- guard (some (10, false))
      refine sops_case 16 rfl (fun hb16 => ?_) (fun hb16 => ?_)
      · first | refine sops_yes rfl rfl rfl rfl (so_fieldAddr (v := .p _ _ _) rfl rfl rfl rfl rfl rfl rfl rfl rfl rfl ?_) | refine sops_yes rfl rfl rfl rfl (so_fieldAddr (v := .dp _ _) rfl rfl rfl rfl rfl rfl rfl rfl rfl rfl ?_) | refine sops_yes rfl rfl rfl rfl (so_fieldAddr (v := .pe _ _ _ _ _) rfl rfl rfl rfl rfl rfl rfl rfl rfl rfl ?_) | first | refine sops_no rfl rfl rfl rfl rfl ?_ | refine sops_un rfl rfl rfl rfl rfl ?_
        first | refine sops_yes rfl rfl rfl rfl (so_load (v := .d _) rfl rfl rfl rfl rfl rfl rfl rfl ?_) | first | refine sops_no rfl rfl rfl rfl rfl ?_ | refine sops_un rfl rfl rfl rfl rfl ?_
        -- hand: index 9 t18 0:i64
        -- hand: index 9 t18 0:i64
        first | refine sops_no rfl rfl rfl rfl rfl ?_ | refine sops_un rfl rfl rfl rfl rfl ?_
        first | refine sops_yes rfl rfl rfl rfl (st_bin rfl rfl rfl rfl rfl ?_) | first | refine sops_no rfl rfl rfl rfl rfl ?_ | refine sops_un rfl rfl rfl rfl rfl ?_
        refine sops_go rfl (st_pick (v := .d _) rfl rfl rfl rfl ?_)
        refine sops_go rfl (st_move (v := .d _) rfl rfl rfl ?_)
        first | refine sops_yes rfl rfl rfl rfl (so_fieldAddr (v := .p _ _ _) rfl rfl rfl rfl rfl rfl rfl rfl rfl rfl ?_) | refine sops_yes rfl rfl rfl rfl (so_fieldAddr (v := .dp _ _) rfl rfl rfl rfl rfl rfl rfl rfl rfl rfl ?_) | refine sops_yes rfl rfl rfl rfl (so_fieldAddr (v := .pe _ _ _ _ _) rfl rfl rfl rfl rfl rfl rfl rfl rfl rfl ?_) | first | refine sops_no rfl rfl rfl rfl rfl ?_ | refine sops_un rfl rfl rfl rfl rfl ?_
        first | refine sops_yes rfl rfl rfl rfl (so_load (v := .d _) rfl rfl rfl rfl rfl rfl rfl rfl ?_) | first | refine sops_no rfl rfl rfl rfl rfl ?_ | refine sops_un rfl rfl rfl rfl rfl ?_
        -- hand: CALL f75(t24, sb'0')
        first | refine sops_no rfl rfl rfl rfl rfl ?_ | refine sops_un rfl rfl rfl rfl rfl ?_
        refine sops_go rfl (st_pick (v := .d _) rfl rfl rfl rfl ?_)
        refine sops_go rfl (st_move (v := .d _) rfl rfl rfl ?_)
        first | refine sops_yes rfl rfl rfl rfl (so_fieldAddr (v := .p _ _ _) rfl rfl rfl rfl rfl rfl rfl rfl rfl rfl ?_) | refine sops_yes rfl rfl rfl rfl (so_fieldAddr (v := .dp _ _) rfl rfl rfl rfl rfl rfl rfl rfl rfl rfl ?_) | refine sops_yes rfl rfl rfl rfl (so_fieldAddr (v := .pe _ _ _ _ _) rfl rfl rfl rfl rfl rfl rfl rfl rfl rfl ?_) | first | refine sops_no rfl rfl rfl rfl rfl ?_ | refine sops_un rfl rfl rfl rfl rfl ?_
        first | refine sops_yes rfl rfl rfl rfl (so_load (v := .d _) rfl rfl rfl rfl rfl rfl rfl rfl ?_) | first | refine sops_no rfl rfl rfl rfl rfl ?_ | refine sops_un rfl rfl rfl rfl rfl ?_
        first | refine sops_yes rfl rfl rfl rfl (st_bin rfl rfl rfl rfl rfl ?_) | first | refine sops_no rfl rfl rfl rfl rfl ?_ | refine sops_un rfl rfl rfl rfl rfl ?_
        refine sops_go rfl (st_pick (v := .d _) rfl rfl rfl rfl ?_)
        refine sops_go rfl (st_move (v := .d _) rfl rfl rfl ?_)
        first | refine sops_yes rfl rfl rfl rfl (so_fieldAddr (v := .p _ _ _) rfl rfl rfl rfl rfl rfl rfl rfl rfl rfl ?_) | refine sops_yes rfl rfl rfl rfl (so_fieldAddr (v := .dp _ _) rfl rfl rfl rfl rfl rfl rfl rfl rfl rfl ?_) | refine sops_yes rfl rfl rfl rfl (so_fieldAddr (v := .pe _ _ _ _ _) rfl rfl rfl rfl rfl rfl rfl rfl rfl rfl ?_) | first | refine sops_no rfl rfl rfl rfl rfl ?_ | refine sops_un rfl rfl rfl rfl rfl ?_
        first | refine sops_yes rfl rfl rfl rfl (so_load (v := .d _) rfl rfl rfl rfl rfl rfl rfl rfl ?_) | first | refine sops_no rfl rfl rfl rfl rfl ?_ | refine sops_un rfl rfl rfl rfl rfl ?_
        first | refine sops_yes rfl rfl rfl rfl (st_bin rfl rfl rfl rfl rfl ?_) | first | refine sops_no rfl rfl rfl rfl rfl ?_ | refine sops_un rfl rfl rfl rfl rfl ?_
        refine sops_go rfl (st_pick (v := .d _) rfl rfl rfl rfl ?_)
        refine sops_nil ?_
        -- cond
        refine swp_condT rfl ?_
        refine swp_seq ?_
        refine swp_region ?_
        refine sops_go rfl (st_assign (v := .d _) rfl rfl rfl ?_)
        refine sops_nil ?_
        refine swp_ret ?_
        with_reducible refine after_ret ?_
        -- ret
        have e : numBad digits exp = true := by unfold numBad; rw [show (!numDigits digits) = false from hb10, show decide ((digits.size : Int) > 40) = true from hb16]; simp
        refine ⟨.inl rfl, .inl ⟨2, rfl, ?_⟩⟩
        rw [hz, if_pos e]; exact ra_d (keeps_v _)
      · first | refine sops_yes rfl rfl rfl rfl (so_fieldAddr (v := .p _ _ _) rfl rfl rfl rfl rfl rfl rfl rfl rfl rfl ?_) | refine sops_yes rfl rfl rfl rfl (so_fieldAddr (v := .dp _ _) rfl rfl rfl rfl rfl rfl rfl rfl rfl rfl ?_) | refine sops_yes rfl rfl rfl rfl (so_fieldAddr (v := .pe _ _ _ _ _) rfl rfl rfl rfl rfl rfl rfl rfl rfl rfl ?_) | first | refine sops_no rfl rfl rfl rfl rfl ?_ | refine sops_un rfl rfl rfl rfl rfl ?_
        first | refine sops_yes rfl rfl rfl rfl (so_load (v := .d _) rfl rfl rfl rfl rfl rfl rfl rfl ?_) | first | refine sops_no rfl rfl rfl rfl rfl ?_ | refine sops_un rfl rfl rfl rfl rfl ?_
        -- hand: index 9 t18 0:i64
        have hpos := numDigits_pos (show numDigits digits = true by simpa using hb10)
        first | refine sops_yes rfl rfl rfl rfl (so_indexStr rfl rfl rfl rfl rfl rfl (by decide) (by omega) ?_) | first | refine sops_no rfl rfl rfl rfl rfl ?_ | refine sops_un rfl rfl rfl rfl rfl ?_
        first | refine sops_yes rfl rfl rfl rfl (st_bin rfl rfl rfl rfl rfl ?_) | first | refine sops_no rfl rfl rfl rfl rfl ?_ | refine sops_un rfl rfl rfl rfl rfl ?_
        refine sops_go rfl (st_pick (v := .d _) rfl rfl rfl rfl ?_)
        refine sops_go rfl (st_move (v := .d _) rfl rfl rfl ?_)
        -- guard (some (16, false))
        refine sops_case 22 rfl (fun hb22 => ?_) (fun hb22 => ?_)
        · first | refine sops_yes rfl rfl rfl rfl (so_fieldAddr (v := .p _ _ _) rfl rfl rfl rfl rfl rfl rfl rfl rfl rfl ?_) | refine sops_yes rfl rfl rfl rfl (so_fieldAddr (v := .dp _ _) rfl rfl rfl rfl rfl rfl rfl rfl rfl rfl ?_) | refine sops_yes rfl rfl rfl rfl (so_fieldAddr (v := .pe _ _ _ _ _) rfl rfl rfl rfl rfl rfl rfl rfl rfl rfl ?_) | first | refine sops_no rfl rfl rfl rfl rfl ?_ | refine sops_un rfl rfl rfl rfl rfl ?_
          first | refine sops_yes rfl rfl rfl rfl (so_load (v := .d _) rfl rfl rfl rfl rfl rfl rfl rfl ?_) | first | refine sops_no rfl rfl rfl rfl rfl ?_ | refine sops_un rfl rfl rfl rfl rfl ?_
          -- hand: CALL f75(t24, sb'0')
          -- hand: CALL f75(t24, sb'0')
          first | refine sops_no rfl rfl rfl rfl rfl ?_ | refine sops_un rfl rfl rfl rfl rfl ?_
          refine sops_go rfl (st_pick (v := .d _) rfl rfl rfl rfl ?_)
          refine sops_go rfl (st_move (v := .d _) rfl rfl rfl ?_)
          first | refine sops_yes rfl rfl rfl rfl (so_fieldAddr (v := .p _ _ _) rfl rfl rfl rfl rfl rfl rfl rfl rfl rfl ?_) | refine sops_yes rfl rfl rfl rfl (so_fieldAddr (v := .dp _ _) rfl rfl rfl rfl rfl rfl rfl rfl rfl rfl ?_) | refine sops_yes rfl rfl rfl rfl (so_fieldAddr (v := .pe _ _ _ _ _) rfl rfl rfl rfl rfl rfl rfl rfl rfl rfl ?_) | first | refine sops_no rfl rfl rfl rfl rfl ?_ | refine sops_un rfl rfl rfl rfl rfl ?_
          first | refine sops_yes rfl rfl rfl rfl (so_load (v := .d _) rfl rfl rfl rfl rfl rfl rfl rfl ?_) | first | refine sops_no rfl rfl rfl rfl rfl ?_ | refine sops_un rfl rfl rfl rfl rfl ?_
          first | refine sops_yes rfl rfl rfl rfl (st_bin rfl rfl rfl rfl rfl ?_) | first | refine sops_no rfl rfl rfl rfl rfl ?_ | refine sops_un rfl rfl rfl rfl rfl ?_
          refine sops_go rfl (st_pick (v := .d _) rfl rfl rfl rfl ?_)
          refine sops_go rfl (st_move (v := .d _) rfl rfl rfl ?_)
          first | refine sops_yes rfl rfl rfl rfl (so_fieldAddr (v := .p _ _ _) rfl rfl rfl rfl rfl rfl rfl rfl rfl rfl ?_) | refine sops_yes rfl rfl rfl rfl (so_fieldAddr (v := .dp _ _) rfl rfl rfl rfl rfl rfl rfl rfl rfl rfl ?_) | refine sops_yes rfl rfl rfl rfl (so_fieldAddr (v := .pe _ _ _ _ _) rfl rfl rfl rfl rfl rfl rfl rfl rfl rfl ?_) | first | refine sops_no rfl rfl rfl rfl rfl ?_ | refine sops_un rfl rfl rfl rfl rfl ?_
          first | refine sops_yes rfl rfl rfl rfl (so_load (v := .d _) rfl rfl rfl rfl rfl rfl rfl rfl ?_) | first | refine sops_no rfl rfl rfl rfl rfl ?_ | refine sops_un rfl rfl rfl rfl rfl ?_
          first | refine sops_yes rfl rfl rfl rfl (st_bin rfl rfl rfl rfl rfl ?_) | first | refine sops_no rfl rfl rfl rfl rfl ?_ | refine sops_un rfl rfl rfl rfl rfl ?_
          refine sops_go rfl (st_pick (v := .d _) rfl rfl rfl rfl ?_)
          refine sops_nil ?_
          -- cond
          refine swp_condT rfl ?_
          refine swp_seq ?_
          refine swp_region ?_
          refine sops_go rfl (st_assign (v := .d _) rfl rfl rfl ?_)
          refine sops_nil ?_
          refine swp_ret ?_
          with_reducible refine after_ret ?_
          -- ret
          have e : numBad digits exp = true := by unfold numBad; rw [show (!numDigits digits) = false from hb10, show decide ((digits.size : Int) > 40) = false from hb16, show (byteAt digits 0 == 48) = true from hb22]; simp
          refine ⟨.inl rfl, .inl ⟨2, rfl, ?_⟩⟩
          rw [hz, if_pos e]; exact ra_d (keeps_v _)
        · first | refine sops_yes rfl rfl rfl rfl (so_fieldAddr (v := .p _ _ _) rfl rfl rfl rfl rfl rfl rfl rfl rfl rfl ?_) | refine sops_yes rfl rfl rfl rfl (so_fieldAddr (v := .dp _ _) rfl rfl rfl rfl rfl rfl rfl rfl rfl rfl ?_) | refine sops_yes rfl rfl rfl rfl (so_fieldAddr (v := .pe _ _ _ _ _) rfl rfl rfl rfl rfl rfl rfl rfl rfl rfl ?_) | first | refine sops_no rfl rfl rfl rfl rfl ?_ | refine sops_un rfl rfl rfl rfl rfl ?_
          first | refine sops_yes rfl rfl rfl rfl (so_load (v := .d _) rfl rfl rfl rfl rfl rfl rfl rfl ?_) | first | refine sops_no rfl rfl rfl rfl rfl ?_ | refine sops_un rfl rfl rfl rfl rfl ?_
          -- hand: CALL f75(t24, sb'0')
          first | refine sops_yes rfl rfl rfl rfl (st_call rfl rfl (hasSuffix_pure digits zeroText hs) ⟨na_d _, na_d _, trivial⟩ rfl ?_) | first | refine sops_no rfl rfl rfl rfl rfl ?_ | refine sops_un rfl rfl rfl rfl rfl ?_
          refine sops_go rfl (st_pick (v := .d _) rfl rfl rfl rfl ?_)
          refine sops_go rfl (st_move (v := .d _) rfl rfl rfl ?_)
          -- guard (some (21, false))
          refine sops_case 27 rfl (fun hb27 => ?_) (fun hb27 => ?_)
          · first | refine sops_yes rfl rfl rfl rfl (so_fieldAddr (v := .p _ _ _) rfl rfl rfl rfl rfl rfl rfl rfl rfl rfl ?_) | refine sops_yes rfl rfl rfl rfl (so_fieldAddr (v := .dp _ _) rfl rfl rfl rfl rfl rfl rfl rfl rfl rfl ?_) | refine sops_yes rfl rfl rfl rfl (so_fieldAddr (v := .pe _ _ _ _ _) rfl rfl rfl rfl rfl rfl rfl rfl rfl rfl ?_) | first | refine sops_no rfl rfl rfl rfl rfl ?_ | refine sops_un rfl rfl rfl rfl rfl ?_
            first | refine sops_yes rfl rfl rfl rfl (so_load (v := .d _) rfl rfl rfl rfl rfl rfl rfl rfl ?_) | first | refine sops_no rfl rfl rfl rfl rfl ?_ | refine sops_un rfl rfl rfl rfl rfl ?_
            first | refine sops_yes rfl rfl rfl rfl (st_bin rfl rfl rfl rfl rfl ?_) | first | refine sops_no rfl rfl rfl rfl rfl ?_ | refine sops_un rfl rfl rfl rfl rfl ?_
            refine sops_go rfl (st_pick (v := .d _) rfl rfl rfl rfl ?_)
            refine sops_go rfl (st_move (v := .d _) rfl rfl rfl ?_)
            -- guard (some (26, false))
            first | refine sops_yes rfl rfl rfl rfl (so_fieldAddr (v := .p _ _ _) rfl rfl rfl rfl rfl rfl rfl rfl rfl rfl ?_) | refine sops_yes rfl rfl rfl rfl (so_fieldAddr (v := .dp _ _) rfl rfl rfl rfl rfl rfl rfl rfl rfl rfl ?_) | refine sops_yes rfl rfl rfl rfl (so_fieldAddr (v := .pe _ _ _ _ _) rfl rfl rfl rfl rfl rfl rfl rfl rfl rfl ?_) | first | refine sops_no rfl rfl rfl rfl rfl ?_ | refine sops_un rfl rfl rfl rfl rfl ?_
            first | refine sops_yes rfl rfl rfl rfl (so_load (v := .d _) rfl rfl rfl rfl rfl rfl rfl rfl ?_) | first | refine sops_no rfl rfl rfl rfl rfl ?_ | refine sops_un rfl rfl rfl rfl rfl ?_
            first | refine sops_yes rfl rfl rfl rfl (st_bin rfl rfl rfl rfl rfl ?_) | first | refine sops_no rfl rfl rfl rfl rfl ?_ | refine sops_un rfl rfl rfl rfl rfl ?_
            refine sops_go rfl (st_pick (v := .d _) rfl rfl rfl rfl ?_)
            refine sops_nil ?_
            -- cond
            refine swp_condT rfl ?_
            refine swp_seq ?_
            refine swp_region ?_
            refine sops_go rfl (st_assign (v := .d _) rfl rfl rfl ?_)
            refine sops_nil ?_
            refine swp_ret ?_
            with_reducible refine after_ret ?_
            -- ret
            have e : numBad digits exp = true := by unfold numBad; rw [show (!numDigits digits) = false from hb10, show decide ((digits.size : Int) > 40) = false from hb16, show (byteAt digits 0 == 48) = false from hb22, show Lib.hasSuffix digits.data.toList zeroText.data.toList = true from hb27]; simp
            refine ⟨.inl rfl, .inl ⟨2, rfl, ?_⟩⟩
            rw [hz, if_pos e]; exact ra_d (keeps_v _)
          · first | refine sops_yes rfl rfl rfl rfl (so_fieldAddr (v := .p _ _ _) rfl rfl rfl rfl rfl rfl rfl rfl rfl rfl ?_) | refine sops_yes rfl rfl rfl rfl (so_fieldAddr (v := .dp _ _) rfl rfl rfl rfl rfl rfl rfl rfl rfl rfl ?_) | refine sops_yes rfl rfl rfl rfl (so_fieldAddr (v := .pe _ _ _ _ _) rfl rfl rfl rfl rfl rfl rfl rfl rfl rfl ?_) | first | refine sops_no rfl rfl rfl rfl rfl ?_ | refine sops_un rfl rfl rfl rfl rfl ?_
            first | refine sops_yes rfl rfl rfl rfl (so_load (v := .d _) rfl rfl rfl rfl rfl rfl rfl rfl ?_) | first | refine sops_no rfl rfl rfl rfl rfl ?_ | refine sops_un rfl rfl rfl rfl rfl ?_
            first | refine sops_yes rfl rfl rfl rfl (st_bin rfl rfl rfl rfl rfl ?_) | first | refine sops_no rfl rfl rfl rfl rfl ?_ | refine sops_un rfl rfl rfl rfl rfl ?_
            refine sops_go rfl (st_pick (v := .d _) rfl rfl rfl rfl ?_)
            refine sops_go rfl (st_move (v := .d _) rfl rfl rfl ?_)
            -- guard (some (26, false))
            refine sops_case 32 rfl (fun hb32 => ?_) (fun hb32 => ?_)
            · first | refine sops_yes rfl rfl rfl rfl (so_fieldAddr (v := .p _ _ _) rfl rfl rfl rfl rfl rfl rfl rfl rfl rfl ?_) | refine sops_yes rfl rfl rfl rfl (so_fieldAddr (v := .dp _ _) rfl rfl rfl rfl rfl rfl rfl rfl rfl rfl ?_) | refine sops_yes rfl rfl rfl rfl (so_fieldAddr (v := .pe _ _ _ _ _) rfl rfl rfl rfl rfl rfl rfl rfl rfl rfl ?_) | first | refine sops_no rfl rfl rfl rfl rfl ?_ | refine sops_un rfl rfl rfl rfl rfl ?_
              first | refine sops_yes rfl rfl rfl rfl (so_load (v := .d _) rfl rfl rfl rfl rfl rfl rfl rfl ?_) | first | refine sops_no rfl rfl rfl rfl rfl ?_ | refine sops_un rfl rfl rfl rfl rfl ?_
              first | refine sops_yes rfl rfl rfl rfl (st_bin rfl rfl rfl rfl rfl ?_) | first | refine sops_no rfl rfl rfl rfl rfl ?_ | refine sops_un rfl rfl rfl rfl rfl ?_
              refine sops_go rfl (st_pick (v := .d _) rfl rfl rfl rfl ?_)
              refine sops_nil ?_
              -- cond
              -- cond
              refine swp_condT rfl ?_
              refine swp_seq ?_
              refine swp_region ?_
              refine sops_go rfl (st_assign (v := .d _) rfl rfl rfl ?_)
              refine sops_nil ?_
              refine swp_ret ?_
              with_reducible refine after_ret ?_
              -- ret
              have e : numBad digits exp = true := by unfold numBad; rw [show (!numDigits digits) = false from hb10, show decide ((digits.size : Int) > 40) = false from hb16, show (byteAt digits 0 == 48) = false from hb22, show Lib.hasSuffix digits.data.toList zeroText.data.toList = false from hb27, show decide (exp < -400) = true from hb32]; simp
              refine ⟨.inl rfl, .inl ⟨2, rfl, ?_⟩⟩
              rw [hz, if_pos e]; exact ra_d (keeps_v _)
            · first | refine sops_yes rfl rfl rfl rfl (so_fieldAddr (v := .p _ _ _) rfl rfl rfl rfl rfl rfl rfl rfl rfl rfl ?_) | refine sops_yes rfl rfl rfl rfl (so_fieldAddr (v := .dp _ _) rfl rfl rfl rfl rfl rfl rfl rfl rfl rfl ?_) | refine sops_yes rfl rfl rfl rfl (so_fieldAddr (v := .pe _ _ _ _ _) rfl rfl rfl rfl rfl rfl rfl rfl rfl rfl ?_) | first | refine sops_no rfl rfl rfl rfl rfl ?_ | refine sops_un rfl rfl rfl rfl rfl ?_
              first | refine sops_yes rfl rfl rfl rfl (so_load (v := .d _) rfl rfl rfl rfl rfl rfl rfl rfl ?_) | first | refine sops_no rfl rfl rfl rfl rfl ?_ | refine sops_un rfl rfl rfl rfl rfl ?_
              first | refine sops_yes rfl rfl rfl rfl (st_bin rfl rfl rfl rfl rfl ?_) | first | refine sops_no rfl rfl rfl rfl rfl ?_ | refine sops_un rfl rfl rfl rfl rfl ?_
              refine sops_go rfl (st_pick (v := .d _) rfl rfl rfl rfl ?_)
              refine sops_nil ?_
              -- cond
              have e : numBad digits exp = decide (exp > 400) := by unfold numBad; rw [show (!numDigits digits) = false from hb10, show decide ((digits.size : Int) > 40) = false from hb16, show (byteAt digits 0 == 48) = false from hb22, show Lib.hasSuffix digits.data.toList zeroText.data.toList = false from hb27, show decide (exp < -400) = false from hb32]; simp
              refine swp_cond _ rfl (fun hc => ?_) (fun hc => ?_)
              · refine swp_seq ?_
                refine swp_region ?_
                refine sops_go rfl (st_assign (v := .d _) rfl rfl rfl ?_)
                refine sops_nil ?_
                refine swp_ret ?_
                with_reducible refine after_ret ?_
                -- ret
                refine ⟨.inl rfl, .inl ⟨2, rfl, ?_⟩⟩
                rw [hz, if_pos (e.trans hc)]; exact ra_d (keeps_v _)
              · refine swp_skip ?_
                refine swp_seq ?_
                refine swp_region ?_
                refine sops_go rfl (st_assign (v := .d _) rfl rfl rfl ?_)
                refine sops_nil ?_
                refine swp_ret ?_
                -- ret
                refine ⟨.inl rfl, .inl ⟨2, rfl, ?_⟩⟩
                rw [hz, if_neg (by rw [e]; simpa using hc)]; exact ra_d (keeps_v _)
end Go.Proofs.YtdcpnpcmgfmenaaGreatDoor
/-
  Walks: the library's functions on slices of types and of texts. Conditions: none.
-/
set_option linter.unusedVariables false
set_option maxRecDepth 100000
namespace Go.Proofs.YtdcpnpcmgfmenaaGreatDoor
open Go Go.Proofs.YtdcpnpcmgfmenaaGreatDoor.Lg

/-- The first place with p, or -1. -/
def firstAt {α : Type} (p : α → Bool) : List α → Int → Int
  | [], _ => -1
  | x :: r, i => if p x = true then i else firstAt p r (i + 1)
theorem firstAt_take {α : Type} (p : α → Bool) : ∀ (l : List α) (k : Nat) (i : Int), (l.take k).any p = false → ∀ (h : k < l.length), p l[k] = true → firstAt p l i = i + k
  | x :: r, 0, i, _, _, hp => by simp at hp; simp [firstAt, hp]
  | x :: r, k + 1, i, ha, h, hp => by
    simp at ha
    have := firstAt_take p r k (i + 1) (by simpa using ha.2) (by simpa using h) (by simpa using hp)
    simp [firstAt, ha.1, this]; omega
theorem firstAt_none {α : Type} (p : α → Bool) : ∀ (l : List α) (i : Int), l.any p = false → firstAt p l i = -1
  | [], _, _ => rfl
  | x :: r, i, h => by simp at h; simp [firstAt, h.1]; exact firstAt_none p r _ (by simpa using h.2)
theorem firstAt_any {α : Type} (p : α → Bool) : ∀ (l : List α) (i : Int), 0 ≤ i → decide (firstAt p l i ≥ 0) = l.any p
  | [], _, _ => rfl
  | x :: r, i, h => by
    unfold firstAt
    by_cases hp : p x = true
    · simp [hp, h]
    · rw [if_neg hp, firstAt_any p r (i + 1) (by omega)]; simp [hp]

theorem indexFuncT_pure (s : Bool) (l : List T) (f : FuncId) (caps : List AV) (p : T → Bool) (hf : ∀ x ∈ l, Pure env f (.d x.d :: caps) (.d (.v (.bool (p x))))) (hcb : AV.bnds 0 caps = true) :
    Pure env 57 [.d (.sl s (T.rows l)), .fn f caps] (.d (.v (.int .i64 (firstAt p l 0)))) := by
  refine pure_of_body Tryz.func57 rfl rfl rfl fun B hB => ?_
  refine swp_lenT (i := 0) rfl fun hlen => ?_
  rw [T.rows_len] at hlen
  refine swp_seq ?_
  refine swp_region ?_
  refine sops_go rfl (st_assign (v := .d _) rfl rfl rfl ?_)
  refine sops_nil ?_
  refine swp_seq ?_
  refine swp_seq ?_
  refine swp_region ?_
  first | refine sops_go rfl (st_move (v := .d _) rfl rfl rfl ?_) | refine sops_go rfl (st_move (v := .own _ _ _ _ _) rfl rfl rfl ?_)
  refine sops_go rfl (so_lenSl rfl rfl rfl rfl rfl ?_)
  refine sops_go rfl (st_move (v := .d _) rfl rfl rfl ?_)
  refine sops_nil ?_
  refine swp_block ?_
  -- loop
  refine swp_loopF (F := fun k : Nat => { t := upd (upd (upd (upd (fun _ => .any) 0 (.d (.sl s (T.rows l)))) 1 (.fn f caps)) 7 (.d (.v (.int .i64 l.length)))) 8 (.d (.v (.int .i64 k))), n := 19, h := fun _ => .dead, nx := 0 })
    (fun k => k ≤ l.length ∧ (l.take k).any p = false) (fun k => l.length - k) 0 ⟨Nat.zero_le _, rfl⟩ ?_ ?_
  · refine wk_of rfl (Nat.le_of_ble_eq_true rfl) (by rw [hB]; exact Nat.zero_le _) (tle_upd (le_eq rfl rfl) (tle_upd (le_eq (int_eq (by rw [T.rows_len])) rfl) (tle_upd (le_eq rfl hcb) (tle_upd (le_eq rfl rfl) (tle_any _))))) (hle_dead _) (dead_none)
  rintro k ⟨hk, ha⟩
  refine swp_seq ?_
  refine swp_region ?_
  refine sops_go rfl (st_bin rfl rfl rfl rfl rfl ?_)
  refine sops_nil ?_
  refine swp_seq ?_
  -- cond
  refine swp_cond _ rfl (fun hc => ?_) (fun hc => ?_)
  · have hlt : k < l.length := by have := of_decide_eq_true hc; omega
    refine swp_skip ?_
    refine swp_seq ?_
    refine swp_block ?_
    refine swp_seq ?_
    refine swp_region ?_
    refine sops_go rfl (st_move (v := .d _) rfl rfl rfl ?_)
    refine sops_go rfl (st_assign (v := .d _) rfl rfl rfl ?_)
    refine sops_nil ?_
    refine swp_seq ?_
    refine swp_region ?_
    first | refine sops_go rfl (st_move (v := .fn _ _) rfl rfl rfl ?_) | refine sops_go rfl (st_move (v := .d _) rfl rfl rfl ?_)
    first | refine sops_go rfl (st_move (v := .d _) rfl rfl rfl ?_) | refine sops_go rfl (st_move (v := .own _ _ _ _ _) rfl rfl rfl ?_)
    refine sops_go rfl (st_move (v := .d _) rfl rfl rfl ?_)
    -- hand: indexAddr 24 t12 t13
    refine sops_go rfl (so_indexSl rfl rfl rfl rfl rfl rfl rfl (T.rows_all _) (by omega) (by rw [T.rows_len]; omega) (T.rows_get _ _ hlt) ?_)
    have hfx := hf _ (List.getElem_mem hlt)
    have hat := any_take p l k hlt
    have hfi := firstAt_take p l k 0 ha hlt
    generalize l[k] = x at hfx hat hfi ⊢
    obtain ⟨a1, a2, a3⟩ := x
    first | refine sops_go rfl (so_load (v := .d (.agg [_, _, _])) rfl rfl rfl rfl rfl rfl rfl rfl ?_) | refine sops_go rfl (so_load (v := .agg [_, _, _]) rfl rfl rfl rfl rfl rfl rfl rfl ?_)
    -- hand: CALL t11(t15)
    refine sops_go rfl (st_call rfl rfl (hfx) ⟨na_d _, nas_free hcb⟩ rfl ?_)
    refine sops_nil ?_
    -- cond
    refine swp_cond _ rfl (fun hc => ?_) (fun hc => ?_)
    · refine swp_seq ?_
      refine swp_region ?_
      refine sops_go rfl (st_move (v := .d _) rfl rfl rfl ?_)
      refine sops_go rfl (st_assign (v := .d _) rfl rfl rfl ?_)
      refine sops_nil ?_
      refine swp_ret ?_
      with_reducible refine inblk_ret ?_
      with_reducible refine after_ret ?_
      with_reducible refine after_ret ?_
      with_reducible refine inblk_ret ?_
      with_reducible refine after_ret ?_
      -- ret
      refine ⟨.inl rfl, .inl ⟨4, rfl, ?_⟩⟩
      rw [hfi hc, Int.zero_add]
      exact ra_d (keeps_v _)
    · refine swp_skip ?_
      refine swp_region ?_
      refine sops_go rfl (st_bin rfl rfl rfl rfl rfl ?_)
      refine sops_go rfl (st_move (v := .d _) rfl rfl rfl ?_)
      refine sops_nil ?_
      -- loopend
      refine ⟨k + 1, ⟨hlt, by rw [hat, ha, hc]; rfl⟩, by omega, ?_⟩
      refine wk_of rfl (Nat.le_of_ble_eq_true rfl) (by rw [hB]; exact Nat.zero_le _) (tle_upd (le_eq (next_i64 hlt hlen) rfl) (tle_upd (le_eq rfl rfl) (tle_upd (le_eq rfl hcb) (tle_upd (le_eq rfl rfl) (tle_any _))))) (hle_dead _) (dead_none)
  · refine swp_exit ?_
    with_reducible refine after_exit ?_
    with_reducible refine after_exit ?_
    refine inblk_hit ?_
    refine swp_seq ?_
    refine swp_region ?_
    refine sops_go rfl (st_assign (v := .d _) rfl rfl rfl ?_)
    refine sops_nil ?_
    refine swp_ret ?_
    -- ret
    have : k = l.length := by have := of_decide_eq_false hc; omega
    rw [this, List.take_length] at ha
    refine ⟨.inl rfl, .inl ⟨4, rfl, ?_⟩⟩
    rw [firstAt_none p l 0 ha]
    exact ra_d (keeps_v _)

theorem containsFuncT_pure (s : Bool) (l : List T) (f : FuncId) (caps : List AV) (p : T → Bool) (hf : ∀ x ∈ l, Pure env f (.d x.d :: caps) (.d (.v (.bool (p x))))) (hcb : AV.bnds 0 caps = true) :
    Pure env 36 [.d (.sl s (T.rows l)), .fn f caps] (.d (.v (.bool (l.any p)))) := by
  refine pure_of_body Tryz.func36 rfl rfl rfl fun B hB => ?_
  refine swp_seq ?_
  refine swp_region ?_
  refine sops_go rfl (st_assign (v := .d _) rfl rfl rfl ?_)
  refine sops_nil ?_
  refine swp_seq ?_
  refine swp_region ?_
  first | refine sops_go rfl (st_move (v := .d _) rfl rfl rfl ?_) | refine sops_go rfl (st_move (v := .own _ _ _ _ _) rfl rfl rfl ?_)
  first | refine sops_go rfl (st_move (v := .fn _ _) rfl rfl rfl ?_) | refine sops_go rfl (st_move (v := .d _) rfl rfl rfl ?_)
  -- hand: CALL f57(t5, t6)
  refine sops_go rfl (st_call rfl rfl (indexFuncT_pure s l f caps p hf hcb) ⟨na_d _, na_free hcb, trivial⟩ rfl ?_)
  refine sops_go rfl (st_bin rfl rfl rfl rfl rfl ?_)
  refine sops_go rfl (st_assign (v := .d _) rfl rfl rfl ?_)
  refine sops_nil ?_
  refine swp_ret ?_
  -- ret
  refine ⟨.inl rfl, .inl ⟨4, rfl, ?_⟩⟩
  rw [← firstAt_any p l 0 (Int.le_refl _)]
  exact ra_d (keeps_v _)

theorem indexFuncS_pure (s : Bool) (l : List ByteArray) (f : FuncId) (caps : List AV) (p : ByteArray → Bool) (hf : ∀ x ∈ l, Pure env f (.d (.v (.string x)) :: caps) (.d (.v (.bool (p x))))) (hcb : AV.bnds 0 caps = true) :
    Pure env 55 [.d (.sl s (strRows l)), .fn f caps] (.d (.v (.int .i64 (firstAt p l 0)))) := by
  refine pure_of_body Tryz.func55 rfl rfl rfl fun B hB => ?_
  refine swp_lenT (i := 0) rfl fun hlen => ?_
  rw [strRows_len] at hlen
  refine swp_seq ?_
  refine swp_region ?_
  refine sops_go rfl (st_assign (v := .d _) rfl rfl rfl ?_)
  refine sops_nil ?_
  refine swp_seq ?_
  refine swp_seq ?_
  refine swp_region ?_
  first | refine sops_go rfl (st_move (v := .d _) rfl rfl rfl ?_) | refine sops_go rfl (st_move (v := .own _ _ _ _ _) rfl rfl rfl ?_)
  refine sops_go rfl (so_lenSl rfl rfl rfl rfl rfl ?_)
  refine sops_go rfl (st_move (v := .d _) rfl rfl rfl ?_)
  refine sops_nil ?_
  refine swp_block ?_
  -- loop
  refine swp_loopF (F := fun k : Nat => { t := upd (upd (upd (upd (fun _ => .any) 0 (.d (.sl s (strRows l)))) 1 (.fn f caps)) 7 (.d (.v (.int .i64 l.length)))) 8 (.d (.v (.int .i64 k))), n := 19, h := fun _ => .dead, nx := 0 })
    (fun k => k ≤ l.length ∧ (l.take k).any p = false) (fun k => l.length - k) 0 ⟨Nat.zero_le _, rfl⟩ ?_ ?_
  · refine wk_of rfl (Nat.le_of_ble_eq_true rfl) (by rw [hB]; exact Nat.zero_le _) (tle_upd (le_eq rfl rfl) (tle_upd (le_eq (int_eq (by rw [strRows_len])) rfl) (tle_upd (le_eq rfl hcb) (tle_upd (le_eq rfl rfl) (tle_any _))))) (hle_dead _) (dead_none)
  rintro k ⟨hk, ha⟩
  refine swp_seq ?_
  refine swp_region ?_
  refine sops_go rfl (st_bin rfl rfl rfl rfl rfl ?_)
  refine sops_nil ?_
  refine swp_seq ?_
  -- cond
  refine swp_cond _ rfl (fun hc => ?_) (fun hc => ?_)
  · have hlt : k < l.length := by have := of_decide_eq_true hc; omega
    refine swp_skip ?_
    refine swp_seq ?_
    refine swp_block ?_
    refine swp_seq ?_
    refine swp_region ?_
    refine sops_go rfl (st_move (v := .d _) rfl rfl rfl ?_)
    refine sops_go rfl (st_assign (v := .d _) rfl rfl rfl ?_)
    refine sops_nil ?_
    refine swp_seq ?_
    refine swp_region ?_
    first | refine sops_go rfl (st_move (v := .fn _ _) rfl rfl rfl ?_) | refine sops_go rfl (st_move (v := .d _) rfl rfl rfl ?_)
    first | refine sops_go rfl (st_move (v := .d _) rfl rfl rfl ?_) | refine sops_go rfl (st_move (v := .own _ _ _ _ _) rfl rfl rfl ?_)
    refine sops_go rfl (st_move (v := .d _) rfl rfl rfl ?_)
    -- hand: indexAddr 23 t12 t13
    refine sops_go rfl (so_indexSl rfl rfl rfl rfl rfl rfl rfl (strRows_all _) (by omega) (by rw [strRows_len]; omega) (strRows_get _ _ hlt) ?_)
    have hfx := hf _ (List.getElem_mem hlt)
    have hat := any_take p l k hlt
    have hfi := firstAt_take p l k 0 ha hlt
    generalize l[k] = x at hfx hat hfi ⊢
    skip
    refine sops_go rfl (so_load (v := .d _) rfl rfl rfl rfl rfl rfl rfl rfl ?_)
    -- hand: CALL t11(t15)
    refine sops_go rfl (st_call rfl rfl (hfx) ⟨na_d _, nas_free hcb⟩ rfl ?_)
    refine sops_nil ?_
    -- cond
    refine swp_cond _ rfl (fun hc => ?_) (fun hc => ?_)
    · refine swp_seq ?_
      refine swp_region ?_
      refine sops_go rfl (st_move (v := .d _) rfl rfl rfl ?_)
      refine sops_go rfl (st_assign (v := .d _) rfl rfl rfl ?_)
      refine sops_nil ?_
      refine swp_ret ?_
      with_reducible refine inblk_ret ?_
      with_reducible refine after_ret ?_
      with_reducible refine after_ret ?_
      with_reducible refine inblk_ret ?_
      with_reducible refine after_ret ?_
      -- ret
      refine ⟨.inl rfl, .inl ⟨4, rfl, ?_⟩⟩
      rw [hfi hc, Int.zero_add]
      exact ra_d (keeps_v _)
    · refine swp_skip ?_
      refine swp_region ?_
      refine sops_go rfl (st_bin rfl rfl rfl rfl rfl ?_)
      refine sops_go rfl (st_move (v := .d _) rfl rfl rfl ?_)
      refine sops_nil ?_
      -- loopend
      refine ⟨k + 1, ⟨hlt, by rw [hat, ha, hc]; rfl⟩, by omega, ?_⟩
      refine wk_of rfl (Nat.le_of_ble_eq_true rfl) (by rw [hB]; exact Nat.zero_le _) (tle_upd (le_eq (next_i64 hlt hlen) rfl) (tle_upd (le_eq rfl rfl) (tle_upd (le_eq rfl hcb) (tle_upd (le_eq rfl rfl) (tle_any _))))) (hle_dead _) (dead_none)
  · refine swp_exit ?_
    with_reducible refine after_exit ?_
    with_reducible refine after_exit ?_
    refine inblk_hit ?_
    refine swp_seq ?_
    refine swp_region ?_
    refine sops_go rfl (st_assign (v := .d _) rfl rfl rfl ?_)
    refine sops_nil ?_
    refine swp_ret ?_
    -- ret
    have : k = l.length := by have := of_decide_eq_false hc; omega
    rw [this, List.take_length] at ha
    refine ⟨.inl rfl, .inl ⟨4, rfl, ?_⟩⟩
    rw [firstAt_none p l 0 ha]
    exact ra_d (keeps_v _)

theorem containsFuncS_pure (s : Bool) (l : List ByteArray) (f : FuncId) (caps : List AV) (p : ByteArray → Bool) (hf : ∀ x ∈ l, Pure env f (.d (.v (.string x)) :: caps) (.d (.v (.bool (p x))))) (hcb : AV.bnds 0 caps = true) :
    Pure env 33 [.d (.sl s (strRows l)), .fn f caps] (.d (.v (.bool (l.any p)))) := by
  refine pure_of_body Tryz.func33 rfl rfl rfl fun B hB => ?_
  refine swp_seq ?_
  refine swp_region ?_
  refine sops_go rfl (st_assign (v := .d _) rfl rfl rfl ?_)
  refine sops_nil ?_
  refine swp_seq ?_
  refine swp_region ?_
  first | refine sops_go rfl (st_move (v := .d _) rfl rfl rfl ?_) | refine sops_go rfl (st_move (v := .own _ _ _ _ _) rfl rfl rfl ?_)
  first | refine sops_go rfl (st_move (v := .fn _ _) rfl rfl rfl ?_) | refine sops_go rfl (st_move (v := .d _) rfl rfl rfl ?_)
  -- hand: CALL f55(t5, t6)
  refine sops_go rfl (st_call rfl rfl (indexFuncS_pure s l f caps p hf hcb) ⟨na_d _, na_free hcb, trivial⟩ rfl ?_)
  refine sops_go rfl (st_bin rfl rfl rfl rfl rfl ?_)
  refine sops_go rfl (st_assign (v := .d _) rfl rfl rfl ?_)
  refine sops_nil ?_
  refine swp_ret ?_
  -- ret
  refine ⟨.inl rfl, .inl ⟨4, rfl, ?_⟩⟩
  rw [← firstAt_any p l 0 (Int.le_refl _)]
  exact ra_d (keeps_v _)

theorem indexFuncV_pure (s : Bool) (l : List V) (f : FuncId) (caps : List AV) (p : V → Bool) (hf : ∀ x ∈ l, Pure env f (.d x.d :: caps) (.d (.v (.bool (p x))))) (hcb : AV.bnds 0 caps = true) :
    Pure env 63 [.d (.sl s (V.rows l)), .fn f caps] (.d (.v (.int .i64 (firstAt p l 0)))) := by
  refine pure_of_body Tryz.func63 rfl rfl rfl fun B hB => ?_
  refine swp_lenT (i := 0) rfl fun hlen => ?_
  rw [V.rows_len] at hlen
  refine swp_seq ?_
  refine swp_region ?_
  refine sops_go rfl (st_assign (v := .d _) rfl rfl rfl ?_)
  refine sops_nil ?_
  refine swp_seq ?_
  refine swp_seq ?_
  refine swp_region ?_
  first | refine sops_go rfl (st_move (v := .d _) rfl rfl rfl ?_) | refine sops_go rfl (st_move (v := .own _ _ _ _ _) rfl rfl rfl ?_)
  refine sops_go rfl (so_lenSl rfl rfl rfl rfl rfl ?_)
  refine sops_go rfl (st_move (v := .d _) rfl rfl rfl ?_)
  refine sops_nil ?_
  refine swp_block ?_
  -- loop
  refine swp_loopF (F := fun k : Nat => { t := upd (upd (upd (upd (fun _ => .any) 0 (.d (.sl s (V.rows l)))) 1 (.fn f caps)) 7 (.d (.v (.int .i64 l.length)))) 8 (.d (.v (.int .i64 k))), n := 19, h := fun _ => .dead, nx := 0 })
    (fun k => k ≤ l.length ∧ (l.take k).any p = false) (fun k => l.length - k) 0 ⟨Nat.zero_le _, rfl⟩ ?_ ?_
  · refine wk_of rfl (Nat.le_of_ble_eq_true rfl) (by rw [hB]; exact Nat.zero_le _) (tle_upd (le_eq rfl rfl) (tle_upd (le_eq (int_eq (by rw [V.rows_len])) rfl) (tle_upd (le_eq rfl hcb) (tle_upd (le_eq rfl rfl) (tle_any _))))) (hle_dead _) (dead_none)
  rintro k ⟨hk, ha⟩
  refine swp_seq ?_
  refine swp_region ?_
  refine sops_go rfl (st_bin rfl rfl rfl rfl rfl ?_)
  refine sops_nil ?_
  refine swp_seq ?_
  -- cond
  refine swp_cond _ rfl (fun hc => ?_) (fun hc => ?_)
  · have hlt : k < l.length := by have := of_decide_eq_true hc; omega
    refine swp_skip ?_
    refine swp_seq ?_
    refine swp_block ?_
    refine swp_seq ?_
    refine swp_region ?_
    refine sops_go rfl (st_move (v := .d _) rfl rfl rfl ?_)
    refine sops_go rfl (st_assign (v := .d _) rfl rfl rfl ?_)
    refine sops_nil ?_
    refine swp_seq ?_
    refine swp_region ?_
    first | refine sops_go rfl (st_move (v := .fn _ _) rfl rfl rfl ?_) | refine sops_go rfl (st_move (v := .d _) rfl rfl rfl ?_)
    first | refine sops_go rfl (st_move (v := .d _) rfl rfl rfl ?_) | refine sops_go rfl (st_move (v := .own _ _ _ _ _) rfl rfl rfl ?_)
    refine sops_go rfl (st_move (v := .d _) rfl rfl rfl ?_)
    -- hand: indexAddr 31 t12 t13
    refine sops_go rfl (so_indexSl rfl rfl rfl rfl rfl rfl rfl (V.rows_all _) (by omega) (by rw [V.rows_len]; omega) (V.rows_get _ _ hlt) ?_)
    have hfx := hf _ (List.getElem_mem hlt)
    have hat := any_take p l k hlt
    have hfi := firstAt_take p l k 0 ha hlt
    generalize l[k] = x at hfx hat hfi ⊢
    obtain ⟨a1, a2, a3, a4, a5, a6, a7, a8, a9⟩ := x
    first | refine sops_go rfl (so_load (v := .d (.agg [_, _, _, _, _, _, _, _, _])) rfl rfl rfl rfl rfl rfl rfl rfl ?_) | refine sops_go rfl (so_load (v := .agg [_, _, _, _, _, _, _, _, _]) rfl rfl rfl rfl rfl rfl rfl rfl ?_)
    -- hand: CALL t11(t15)
    refine sops_go rfl (st_call rfl rfl (hfx) ⟨na_d _, nas_free hcb⟩ rfl ?_)
    refine sops_nil ?_
    -- cond
    refine swp_cond _ rfl (fun hc => ?_) (fun hc => ?_)
    · refine swp_seq ?_
      refine swp_region ?_
      refine sops_go rfl (st_move (v := .d _) rfl rfl rfl ?_)
      refine sops_go rfl (st_assign (v := .d _) rfl rfl rfl ?_)
      refine sops_nil ?_
      refine swp_ret ?_
      with_reducible refine inblk_ret ?_
      with_reducible refine after_ret ?_
      with_reducible refine after_ret ?_
      with_reducible refine inblk_ret ?_
      with_reducible refine after_ret ?_
      -- ret
      refine ⟨.inl rfl, .inl ⟨4, rfl, ?_⟩⟩
      rw [hfi hc, Int.zero_add]
      exact ra_d (keeps_v _)
    · refine swp_skip ?_
      refine swp_region ?_
      refine sops_go rfl (st_bin rfl rfl rfl rfl rfl ?_)
      refine sops_go rfl (st_move (v := .d _) rfl rfl rfl ?_)
      refine sops_nil ?_
      -- loopend
      refine ⟨k + 1, ⟨hlt, by rw [hat, ha, hc]; rfl⟩, by omega, ?_⟩
      refine wk_of rfl (Nat.le_of_ble_eq_true rfl) (by rw [hB]; exact Nat.zero_le _) (tle_upd (le_eq (next_i64 hlt hlen) rfl) (tle_upd (le_eq rfl rfl) (tle_upd (le_eq rfl hcb) (tle_upd (le_eq rfl rfl) (tle_any _))))) (hle_dead _) (dead_none)
  · refine swp_exit ?_
    with_reducible refine after_exit ?_
    with_reducible refine after_exit ?_
    refine inblk_hit ?_
    refine swp_seq ?_
    refine swp_region ?_
    refine sops_go rfl (st_assign (v := .d _) rfl rfl rfl ?_)
    refine sops_nil ?_
    refine swp_ret ?_
    -- ret
    have : k = l.length := by have := of_decide_eq_false hc; omega
    rw [this, List.take_length] at ha
    refine ⟨.inl rfl, .inl ⟨4, rfl, ?_⟩⟩
    rw [firstAt_none p l 0 ha]
    exact ra_d (keeps_v _)

theorem containsFuncV_pure (s : Bool) (l : List V) (f : FuncId) (caps : List AV) (p : V → Bool) (hf : ∀ x ∈ l, Pure env f (.d x.d :: caps) (.d (.v (.bool (p x))))) (hcb : AV.bnds 0 caps = true) :
    Pure env 43 [.d (.sl s (V.rows l)), .fn f caps] (.d (.v (.bool (l.any p)))) := by
  refine pure_of_body Tryz.func43 rfl rfl rfl fun B hB => ?_
  refine swp_seq ?_
  refine swp_region ?_
  refine sops_go rfl (st_assign (v := .d _) rfl rfl rfl ?_)
  refine sops_nil ?_
  refine swp_seq ?_
  refine swp_region ?_
  first | refine sops_go rfl (st_move (v := .d _) rfl rfl rfl ?_) | refine sops_go rfl (st_move (v := .own _ _ _ _ _) rfl rfl rfl ?_)
  first | refine sops_go rfl (st_move (v := .fn _ _) rfl rfl rfl ?_) | refine sops_go rfl (st_move (v := .d _) rfl rfl rfl ?_)
  -- hand: CALL f63(t5, t6)
  refine sops_go rfl (st_call rfl rfl (indexFuncV_pure s l f caps p hf hcb) ⟨na_d _, na_free hcb, trivial⟩ rfl ?_)
  refine sops_go rfl (st_bin rfl rfl rfl rfl rfl ?_)
  refine sops_go rfl (st_assign (v := .d _) rfl rfl rfl ?_)
  refine sops_nil ?_
  refine swp_ret ?_
  -- ret
  refine ⟨.inl rfl, .inl ⟨4, rfl, ?_⟩⟩
  rw [← firstAt_any p l 0 (Int.le_refl _)]
  exact ra_d (keeps_v _)

end Go.Proofs.YtdcpnpcmgfmenaaGreatDoor
/-
  Walks: how big and how deep a value is. Conditions: none.
-/
set_option linter.unusedVariables false
set_option maxRecDepth 100000
namespace Go.Proofs.YtdcpnpcmgfmenaaGreatDoor
open Go Go.Proofs.YtdcpnpcmgfmenaaGreatDoor.Lg

/-- A value as a struct, its rows lent (false) or there for good (true). -/
def V.df (s : Bool) : V → D
  | .mk kind flag neg digits exp bits text names list => .agg [.v (.int .i64 kind), .v (.bool flag), .v (.bool neg), .v (.string digits), .v (.int .i64 exp), .v (.int .u64 bits), .v (.string text), .sl s (strRows names), .sl s (V.rows list)]
theorem V.df_d (t : V) : t.d = t.df true := by cases t; rfl

mutual
def V.sizeW : V → Int
  | .mk _ _ _ _ _ _ _ _ list => V.sizeF list 1
def V.sizeF : List V → Int → Int
  | [], a => a
  | x :: r, a => V.sizeF r (IntKind.i64.wrap (a + x.sizeW))
end
theorem V.sizeF_take : ∀ (l : List V) (a : Int) (k : Nat) (h : k < l.length), V.sizeF (l.take (k + 1)) a = IntKind.i64.wrap (V.sizeF (l.take k) a + l[k].sizeW)
  | x :: r, a, 0, _ => by simp [V.sizeF]
  | x :: r, a, k + 1, h => by
    simp only [List.take_succ_cons, V.sizeF, List.getElem_cons_succ]
    exact V.sizeF_take r _ k (by simpa using h)

theorem size_pure (t : V) : ∀ s, Pure env 42 [.d (t.df s)] (.d (.v (.int .i64 t.sizeW))) := by
  revert t
  apply V.ind
  intro kind flag neg digits exp bits text names list ih s
  refine pure_of_body Tryz.func42 rfl rfl rfl fun B hB => ?_
  refine swp_seq ?_
  refine swp_region ?_
  refine sops_go rfl (so_box (cs := [_, _, _, _, _, _, _, _, _]) rfl rfl rfl ?_)
  refine sops_go rfl (st_assign (v := .d _) rfl rfl rfl ?_)
  refine sops_nil ?_
  -- stop
  refine swp_len (l := 0) (i := 8) rfl rfl rfl fun hll => ?_
  rw [V.rows_len] at hll
  refine swp_seq ?_
  refine swp_region ?_
  refine sops_go rfl (st_assign (v := .d _) rfl rfl rfl ?_)
  refine sops_nil ?_
  refine swp_seq ?_
  refine swp_seq ?_
  refine swp_region ?_
  first | refine sops_go rfl (so_fieldAddr (v := .p _ _ _) rfl rfl rfl rfl rfl rfl rfl rfl rfl rfl ?_) | refine sops_go rfl (so_fieldAddr (v := .dp _ _) rfl rfl rfl rfl rfl rfl rfl rfl rfl rfl ?_) | refine sops_go rfl (so_fieldAddr (v := .pe _ _ _ _ _) rfl rfl rfl rfl rfl rfl rfl rfl rfl rfl ?_)
  first | refine sops_go rfl (so_load (v := .d _) rfl rfl rfl rfl rfl rfl rfl rfl ?_) | refine sops_go rfl (so_load (v := .own _ _ _ _ _) rfl rfl rfl rfl rfl rfl rfl rfl ?_)
  refine sops_go rfl (so_lenSl rfl rfl rfl rfl rfl ?_)
  refine sops_go rfl (st_move (v := .d _) rfl rfl rfl ?_)
  refine sops_nil ?_
  refine swp_block ?_
  -- loop
  let a : Nat → Int := fun k => V.sizeF (list.take k) 1
  refine swp_loopF (F := fun k : Nat => { t := upd (upd (upd (upd (fun _ => .any) 3 (.d (.v (.int .i64 (a k))))) 7 (.d (.sl s (V.rows list)))) 8 (.d (.v (.int .i64 list.length)))) 9 (.d (.v (.int .i64 k))), n := 19, h := fun _ => .dead, nx := 0 })
    (fun k => k ≤ list.length) (fun k => list.length - k) 0 (Nat.zero_le _) ?_ ?_
  · refine wk_of rfl (Nat.le_of_ble_eq_true rfl) (by rw [hB]; exact Nat.zero_le _) (tle_upd (le_eq rfl rfl) (tle_upd (le_eq (int_eq (by rw [V.rows_len])) rfl) (tle_upd (le_eq rfl rfl) (tle_upd (le_eq rfl rfl) (tle_any _))))) (hle_dead _) (dead_none)
  intro k hk
  refine swp_seq ?_
  refine swp_region ?_
  refine sops_go rfl (st_bin rfl rfl rfl rfl rfl ?_)
  refine sops_nil ?_
  refine swp_seq ?_
  -- cond
  refine swp_cond _ rfl (fun hc => ?_) (fun hc => ?_)
  · have hlt : k < list.length := by have := of_decide_eq_true hc; omega
    refine swp_skip ?_
    refine swp_seq ?_
    refine swp_block ?_
    refine swp_seq ?_
    refine swp_region ?_
    -- hand: indexAddr 31 t7 t9
    refine sops_go rfl (so_indexSl rfl rfl rfl rfl rfl rfl rfl (V.rows_all _) (by omega) (by rw [V.rows_len]; omega) (V.rows_get _ _ hlt) ?_)
    have ihk := ih _ (List.getElem_mem hlt) true
    have hak := V.sizeF_take list 1 k hlt
    generalize list[k] = x at ihk hak ⊢
    obtain ⟨a1, a2, a3, a4, a5, a6, a7, a8, a9⟩ := x
    first | refine sops_go rfl (so_load (v := .d (.agg [_, _, _, _, _, _, _, _, _])) rfl rfl rfl rfl rfl rfl rfl rfl ?_) | refine sops_go rfl (so_load (v := .agg [_, _, _, _, _, _, _, _, _]) rfl rfl rfl rfl rfl rfl rfl rfl ?_)
    refine sops_go rfl (so_alloc (cs := [_, _, _, _, _, _, _, _, _]) rfl rfl rfl rfl ?_)
    refine sops_go rfl (so_store rfl rfl rfl rfl rfl rfl rfl rfl rfl (zs := [_, _, _, _, _, _, _, _, _]) rfl ?_)
    refine sops_nil ?_
    refine swp_region ?_
    refine sops_go rfl (st_move (v := .d _) rfl rfl rfl ?_)
    first | refine sops_go rfl (so_load (v := .d (.agg [_, _, _, _, _, _, _, _, _])) rfl rfl rfl rfl rfl rfl rfl rfl ?_) | refine sops_go rfl (so_load (v := .agg [_, _, _, _, _, _, _, _, _]) rfl rfl rfl rfl rfl rfl rfl rfl ?_)
    -- hand: CALL f42(t14)
    refine sops_go rfl (st_call rfl rfl (ihk) ⟨na_d _, trivial⟩ rfl ?_)
    refine sops_go rfl (st_bin rfl rfl rfl rfl rfl ?_)
    refine sops_go rfl (st_assign (v := .d _) rfl rfl rfl ?_)
    refine sops_nil ?_
    refine swp_region ?_
    refine sops_go rfl (st_bin rfl rfl rfl rfl rfl ?_)
    refine sops_go rfl (st_move (v := .d _) rfl rfl rfl ?_)
    refine sops_nil ?_
    -- loopend
    have e : a (k + 1) = IntKind.i64.wrap (a k + (V.mk a1 a2 a3 a4 a5 a6 a7 a8 a9).sizeW) := hak
    refine ⟨k + 1, hlt, by omega, ?_⟩
    simp only [e]
    refine wk_of rfl (Nat.le_of_ble_eq_true rfl) (by rw [hB]; exact Nat.zero_le _) (tle_upd (le_eq (next_i64 hlt hll) rfl) (tle_upd (le_eq rfl rfl) (tle_upd (le_eq rfl rfl) (tle_upd (le_eq rfl rfl) (tle_any _))))) (hle_dead _) (dead_none)
  · refine swp_exit ?_
    with_reducible refine after_exit ?_
    with_reducible refine after_exit ?_
    refine inblk_hit ?_
    refine swp_seq ?_
    refine swp_region ?_
    refine sops_go rfl (st_move (v := .d _) rfl rfl rfl ?_)
    refine sops_go rfl (st_assign (v := .d _) rfl rfl rfl ?_)
    refine sops_nil ?_
    refine swp_ret ?_
    -- ret
    have : k = list.length := by have := of_decide_eq_false hc; omega
    have e : V.sizeF list 1 = a k := by show _ = V.sizeF (list.take k) _; rw [this, List.take_length]
    refine ⟨.inl rfl, .inl ⟨2, rfl, ?_⟩⟩
    simp only [V.sizeW, e]; exact ra_d (keeps_v _)

mutual
def V.short : V → Bool
  | .mk kind _ _ _ _ _ text names list =>
    (!(decide ((text.size : Int) > (if kind = 9 then 64 else 4096)) || (decide ((list.length : Int) > 256) || names.any fun s => decide ((s.size : Int) > 64)))) && V.shortL list
def V.shortL : List V → Bool
  | [] => true
  | x :: r => x.short && V.shortL r
end
theorem V.shortL_any : ∀ l : List V, V.shortL l = !(l.any fun x => !x.short)
  | [] => rfl
  | x :: r => by rw [V.shortL, V.shortL_any r]; simp

theorem short1_pure (s : ByteArray) : Pure env 61 [.d (.v (.string s))] (.d (.v (.bool (decide ((s.size : Int) > 64))))) := by
  refine pure_of_body Tryz.func61 rfl rfl rfl fun B hB => ?_
  refine swp_seq ?_
  refine swp_region ?_
  refine sops_go rfl (st_assign (v := .d _) rfl rfl rfl ?_)
  refine sops_nil ?_
  refine swp_seq ?_
  refine swp_region ?_
  refine sops_go rfl (st_move (v := .d _) rfl rfl rfl ?_)
  refine sops_go rfl (so_lenStr rfl rfl rfl rfl rfl ?_)
  refine sops_go rfl (st_bin rfl rfl rfl rfl rfl ?_)
  refine sops_go rfl (st_assign (v := .d _) rfl rfl rfl ?_)
  refine sops_nil ?_
  refine swp_ret ?_
  -- ret
  exact ⟨.inl rfl, .inl ⟨2, rfl, ra_d (keeps_v _)⟩⟩
theorem short2_pure (x : V) (hx : Pure env 40 [.d x.d] (.d (.v (.bool x.short)))) : Pure env 62 [.d x.d] (.d (.v (.bool (!x.short)))) := by
  obtain ⟨a1, a2, a3, a4, a5, a6, a7, a8, a9⟩ := x
  refine pure_of_body Tryz.func62 rfl rfl rfl fun B hB => ?_
  refine swp_seq ?_
  refine swp_region ?_
  refine sops_go rfl (so_box (cs := [_, _, _, _, _, _, _, _, _]) rfl rfl rfl ?_)
  refine sops_go rfl (st_assign (v := .d _) rfl rfl rfl ?_)
  refine sops_nil ?_
  refine swp_seq ?_
  refine swp_region ?_
  first | refine sops_go rfl (so_load (v := .d (.agg [_, _, _, _, _, _, _, _, _])) rfl rfl rfl rfl rfl rfl rfl rfl ?_) | refine sops_go rfl (so_load (v := .agg [_, _, _, _, _, _, _, _, _]) rfl rfl rfl rfl rfl rfl rfl rfl ?_)
  -- hand: CALL f40(t3)
  refine sops_go rfl (st_call rfl rfl (hx) ⟨na_d _, trivial⟩ rfl ?_)
  refine sops_go rfl (st_not rfl rfl rfl ?_)
  refine sops_go rfl (st_assign (v := .d _) rfl rfl rfl ?_)
  refine sops_nil ?_
  refine swp_ret ?_
  -- ret
  exact ⟨.inl rfl, .inl ⟨2, rfl, ra_d (keeps_v _)⟩⟩
end Go.Proofs.YtdcpnpcmgfmenaaGreatDoor
/-
  Walks: is a value short? Conditions: none.
-/
set_option linter.unusedVariables false
set_option maxRecDepth 100000
namespace Go.Proofs.YtdcpnpcmgfmenaaGreatDoor
open Go Go.Proofs.YtdcpnpcmgfmenaaGreatDoor.Lg

theorem short_pure (t : V) : ∀ s, Pure env 40 [.d (t.df s)] (.d (.v (.bool t.short))) := by
  revert t
  apply V.ind
  intro kind flag neg digits exp bits text names list ih s
  have hrec : ∀ x ∈ list, Pure env 62 [.d x.d] (.d (.v (.bool (!x.short)))) := fun x hx => short2_pure x (by rw [V.df_d]; exact ih x hx true)
  have hS : (V.mk kind flag neg digits exp bits text names list).short = ((!(decide ((text.size : Int) > (if kind = 9 then 64 else 4096)) || (decide ((list.length : Int) > 256) || names.any fun s => decide ((s.size : Int) > 64)))) && V.shortL list) := by rw [V.short]
  refine pure_of_body Tryz.func40 rfl rfl rfl fun B hB => ?_
  refine swp_seq ?_
  refine swp_region ?_
  refine sops_go rfl (so_box (cs := [_, _, _, _, _, _, _, _, _]) rfl rfl rfl ?_)
  refine sops_go rfl (st_assign (v := .d _) rfl rfl rfl ?_)
  refine sops_nil ?_
  refine swp_seq ?_
  refine swp_region ?_
  refine sops_go rfl (st_assign (v := .d _) rfl rfl rfl ?_)
  refine sops_nil ?_
  -- stop
  let most : Int := if kind = 9 then 64 else 4096
  refine swp_seqF (F := fun _ : Unit => ({ t := upd (upd (fun _ => .any) 1 (.p 0 0 0)) 3 (.d (.v (.int .i64 most))), n := 27, h := upd (fun _ => .dead) 0 (.cells [.any, .any, .any, .any, .any, .any, .d (.v (.string text)), .d (.sl s (strRows names)), .d (.sl s (V.rows list))]), nx := 1 } : St)) (P := fun _ => True) ?_ ?_
  · refine swp_seq ?_
    refine swp_region ?_
    first | refine sops_go rfl (so_fieldAddr (v := .p _ _ _) rfl rfl rfl rfl rfl rfl rfl rfl rfl rfl ?_) | refine sops_go rfl (so_fieldAddr (v := .dp _ _) rfl rfl rfl rfl rfl rfl rfl rfl rfl rfl ?_) | refine sops_go rfl (so_fieldAddr (v := .pe _ _ _ _ _) rfl rfl rfl rfl rfl rfl rfl rfl rfl rfl ?_)
    refine sops_go rfl (so_load (v := .d _) rfl rfl rfl rfl rfl rfl rfl rfl ?_)
    refine sops_go rfl (st_bin rfl rfl rfl rfl rfl ?_)
    refine sops_nil ?_
    -- cond
    refine swp_cond _ rfl (fun hc => ?_) (fun hc => ?_)
    · refine swp_region ?_
      refine sops_go rfl (st_assign (v := .d _) rfl rfl rfl ?_)
      refine sops_nil ?_
      -- cut
      have hm : (64 : Int) = most := (if_pos (by simpa using hc)).symm
      refine ⟨(), trivial, ?_⟩
      refine wk_of rfl (Nat.le_of_ble_eq_true rfl) (by rw [hB]; exact Nat.zero_le _) (tle_upd (le_eq (int_eq hm) rfl) (tle_upd (le_eq rfl rfl) (tle_any _))) (hle_upd (.cells _ _ ⟨le_any _, le_any _, le_any _, le_any _, le_any _, le_any _, le_eq rfl rfl, le_eq rfl rfl, le_eq rfl rfl, trivial⟩) (hle_dead _)) (dead_upd (Nat.le_of_ble_eq_true rfl) (dead_none))
    · refine swp_skip ?_
      -- cut
      have hm : (4096 : Int) = most := (if_neg (by simpa using hc)).symm
      refine ⟨(), trivial, ?_⟩
      refine wk_of rfl (Nat.le_of_ble_eq_true rfl) (by rw [hB]; exact Nat.zero_le _) (tle_upd (le_eq (int_eq hm) rfl) (tle_upd (le_eq rfl rfl) (tle_any _))) (hle_upd (.cells _ _ ⟨le_any _, le_any _, le_any _, le_any _, le_any _, le_any _, le_eq rfl rfl, le_eq rfl rfl, le_eq rfl rfl, trivial⟩) (hle_dead _)) (dead_upd (Nat.le_of_ble_eq_true rfl) (dead_none))
  rintro ⟨⟩ -
  refine swp_seq ?_
  refine swp_seq ?_
  refine swp_region ?_
  first | refine sops_go rfl (so_fieldAddr (v := .p _ _ _) rfl rfl rfl rfl rfl rfl rfl rfl rfl rfl ?_) | refine sops_go rfl (so_fieldAddr (v := .dp _ _) rfl rfl rfl rfl rfl rfl rfl rfl rfl rfl ?_) | refine sops_go rfl (so_fieldAddr (v := .pe _ _ _ _ _) rfl rfl rfl rfl rfl rfl rfl rfl rfl rfl ?_)
  refine sops_go rfl (so_load (v := .d _) rfl rfl rfl rfl rfl rfl rfl rfl ?_)
  refine sops_go rfl (so_lenStr rfl rfl rfl rfl rfl ?_)
  refine sops_go rfl (st_move (v := .d _) rfl rfl rfl ?_)
  refine sops_go rfl (st_bin rfl rfl rfl rfl rfl ?_)
  refine sops_go rfl (st_move (v := .d _) rfl rfl rfl ?_)
  -- guard (some (5, false))
  refine sops_case 12 rfl (fun hb12 => ?_) (fun hb12 => ?_)
  · first | refine sops_yes rfl rfl rfl rfl (so_fieldAddr (v := .p _ _ _) rfl rfl rfl rfl rfl rfl rfl rfl rfl rfl ?_) | refine sops_yes rfl rfl rfl rfl (so_fieldAddr (v := .dp _ _) rfl rfl rfl rfl rfl rfl rfl rfl rfl rfl ?_) | refine sops_yes rfl rfl rfl rfl (so_fieldAddr (v := .pe _ _ _ _ _) rfl rfl rfl rfl rfl rfl rfl rfl rfl rfl ?_) | first | refine sops_no rfl rfl rfl rfl rfl ?_ | refine sops_un rfl rfl rfl rfl rfl ?_
    first | refine sops_yes rfl rfl rfl rfl (so_load (v := .d _) rfl rfl rfl rfl rfl rfl rfl rfl ?_) | refine sops_yes rfl rfl rfl rfl (so_load (v := .own _ _ _ _ _) rfl rfl rfl rfl rfl rfl rfl rfl ?_) | first | refine sops_no rfl rfl rfl rfl rfl ?_ | refine sops_un rfl rfl rfl rfl rfl ?_
    first | refine sops_yes rfl rfl rfl rfl (so_lenSl rfl rfl rfl rfl rfl ?_) | first | refine sops_no rfl rfl rfl rfl rfl ?_ | refine sops_un rfl rfl rfl rfl rfl ?_
    first | refine sops_yes rfl rfl rfl rfl (st_bin rfl rfl rfl rfl rfl ?_) | first | refine sops_no rfl rfl rfl rfl rfl ?_ | refine sops_un rfl rfl rfl rfl rfl ?_
    refine sops_go rfl (st_pick (v := .d _) rfl rfl rfl rfl ?_)
    refine sops_go rfl (st_move (v := .d _) rfl rfl rfl ?_)
    -- guard (some (11, false))
    first | refine sops_yes rfl rfl rfl rfl (so_fieldAddr (v := .p _ _ _) rfl rfl rfl rfl rfl rfl rfl rfl rfl rfl ?_) | refine sops_yes rfl rfl rfl rfl (so_fieldAddr (v := .dp _ _) rfl rfl rfl rfl rfl rfl rfl rfl rfl rfl ?_) | refine sops_yes rfl rfl rfl rfl (so_fieldAddr (v := .pe _ _ _ _ _) rfl rfl rfl rfl rfl rfl rfl rfl rfl rfl ?_) | first | refine sops_no rfl rfl rfl rfl rfl ?_ | refine sops_un rfl rfl rfl rfl rfl ?_
    first | refine sops_yes rfl rfl rfl rfl (so_load (v := .d _) rfl rfl rfl rfl rfl rfl rfl rfl ?_) | refine sops_yes rfl rfl rfl rfl (so_load (v := .own _ _ _ _ _) rfl rfl rfl rfl rfl rfl rfl rfl ?_) | first | refine sops_no rfl rfl rfl rfl rfl ?_ | refine sops_un rfl rfl rfl rfl rfl ?_
    -- hand: CALL f33(t20, f61)
    first | refine sops_no rfl rfl rfl rfl rfl ?_ | refine sops_un rfl rfl rfl rfl rfl ?_
    refine sops_go rfl (st_pick (v := .d _) rfl rfl rfl rfl ?_)
    refine sops_nil ?_
    -- cond
    refine swp_condT rfl ?_
    refine swp_seq ?_
    refine swp_region ?_
    refine sops_go rfl (st_assign (v := .d _) rfl rfl rfl ?_)
    refine sops_nil ?_
    refine swp_ret ?_
    with_reducible refine after_ret ?_
    -- ret
    refine ⟨.inl rfl, .inl ⟨2, rfl, ?_⟩⟩
    rw [hS, show decide ((text.size : Int) > (if kind = 9 then 64 else 4096)) = true from hb12]
    exact ra_d (keeps_v _)
  · first | refine sops_yes rfl rfl rfl rfl (so_fieldAddr (v := .p _ _ _) rfl rfl rfl rfl rfl rfl rfl rfl rfl rfl ?_) | refine sops_yes rfl rfl rfl rfl (so_fieldAddr (v := .dp _ _) rfl rfl rfl rfl rfl rfl rfl rfl rfl rfl ?_) | refine sops_yes rfl rfl rfl rfl (so_fieldAddr (v := .pe _ _ _ _ _) rfl rfl rfl rfl rfl rfl rfl rfl rfl rfl ?_) | first | refine sops_no rfl rfl rfl rfl rfl ?_ | refine sops_un rfl rfl rfl rfl rfl ?_
    first | refine sops_yes rfl rfl rfl rfl (so_load (v := .d _) rfl rfl rfl rfl rfl rfl rfl rfl ?_) | refine sops_yes rfl rfl rfl rfl (so_load (v := .own _ _ _ _ _) rfl rfl rfl rfl rfl rfl rfl rfl ?_) | first | refine sops_no rfl rfl rfl rfl rfl ?_ | refine sops_un rfl rfl rfl rfl rfl ?_
    first | refine sops_yes rfl rfl rfl rfl (so_lenSl rfl rfl rfl rfl rfl ?_) | first | refine sops_no rfl rfl rfl rfl rfl ?_ | refine sops_un rfl rfl rfl rfl rfl ?_
    first | refine sops_yes rfl rfl rfl rfl (st_bin rfl rfl rfl rfl rfl ?_) | first | refine sops_no rfl rfl rfl rfl rfl ?_ | refine sops_un rfl rfl rfl rfl rfl ?_
    refine sops_go rfl (st_pick (v := .d _) rfl rfl rfl rfl ?_)
    refine sops_go rfl (st_move (v := .d _) rfl rfl rfl ?_)
    -- guard (some (11, false))
    refine sops_case 18 rfl (fun hb18 => ?_) (fun hb18 => ?_)
    · first | refine sops_yes rfl rfl rfl rfl (so_fieldAddr (v := .p _ _ _) rfl rfl rfl rfl rfl rfl rfl rfl rfl rfl ?_) | refine sops_yes rfl rfl rfl rfl (so_fieldAddr (v := .dp _ _) rfl rfl rfl rfl rfl rfl rfl rfl rfl rfl ?_) | refine sops_yes rfl rfl rfl rfl (so_fieldAddr (v := .pe _ _ _ _ _) rfl rfl rfl rfl rfl rfl rfl rfl rfl rfl ?_) | first | refine sops_no rfl rfl rfl rfl rfl ?_ | refine sops_un rfl rfl rfl rfl rfl ?_
      first | refine sops_yes rfl rfl rfl rfl (so_load (v := .d _) rfl rfl rfl rfl rfl rfl rfl rfl ?_) | refine sops_yes rfl rfl rfl rfl (so_load (v := .own _ _ _ _ _) rfl rfl rfl rfl rfl rfl rfl rfl ?_) | first | refine sops_no rfl rfl rfl rfl rfl ?_ | refine sops_un rfl rfl rfl rfl rfl ?_
      -- hand: CALL f33(t20, f61)
      -- hand: CALL f33(t20, f61)
      first | refine sops_no rfl rfl rfl rfl rfl ?_ | refine sops_un rfl rfl rfl rfl rfl ?_
      refine sops_go rfl (st_pick (v := .d _) rfl rfl rfl rfl ?_)
      refine sops_nil ?_
      -- cond
      refine swp_condT rfl ?_
      refine swp_seq ?_
      refine swp_region ?_
      refine sops_go rfl (st_assign (v := .d _) rfl rfl rfl ?_)
      refine sops_nil ?_
      refine swp_ret ?_
      with_reducible refine after_ret ?_
      -- ret
      refine ⟨.inl rfl, .inl ⟨2, rfl, ?_⟩⟩
      have h2 : decide ((list.length : Int) > 256) = true := by rw [← V.rows_len list]; exact hb18
      rw [hS, show decide ((text.size : Int) > (if kind = 9 then 64 else 4096)) = false from hb12, h2]
      exact ra_d (keeps_v _)
    · have h2 : decide ((list.length : Int) > 256) = false := by rw [← V.rows_len list]; exact hb18
      first | refine sops_yes rfl rfl rfl rfl (so_fieldAddr (v := .p _ _ _) rfl rfl rfl rfl rfl rfl rfl rfl rfl rfl ?_) | refine sops_yes rfl rfl rfl rfl (so_fieldAddr (v := .dp _ _) rfl rfl rfl rfl rfl rfl rfl rfl rfl rfl ?_) | refine sops_yes rfl rfl rfl rfl (so_fieldAddr (v := .pe _ _ _ _ _) rfl rfl rfl rfl rfl rfl rfl rfl rfl rfl ?_) | first | refine sops_no rfl rfl rfl rfl rfl ?_ | refine sops_un rfl rfl rfl rfl rfl ?_
      first | refine sops_yes rfl rfl rfl rfl (so_load (v := .d _) rfl rfl rfl rfl rfl rfl rfl rfl ?_) | refine sops_yes rfl rfl rfl rfl (so_load (v := .own _ _ _ _ _) rfl rfl rfl rfl rfl rfl rfl rfl ?_) | first | refine sops_no rfl rfl rfl rfl rfl ?_ | refine sops_un rfl rfl rfl rfl rfl ?_
      -- hand: CALL f33(t20, f61)
      first | refine sops_yes rfl rfl rfl rfl (st_call rfl rfl (containsFuncS_pure s names 61 [] (fun x => decide ((x.size : Int) > 64)) (fun x hx => short1_pure x) rfl) ⟨na_d _, na_free rfl, trivial⟩ rfl ?_) | first | refine sops_no rfl rfl rfl rfl rfl ?_ | refine sops_un rfl rfl rfl rfl rfl ?_
      refine sops_go rfl (st_pick (v := .d _) rfl rfl rfl rfl ?_)
      refine sops_nil ?_
      -- cond
      refine swp_cond _ rfl (fun hc => ?_) (fun hc => ?_)
      · refine swp_seq ?_
        refine swp_region ?_
        refine sops_go rfl (st_assign (v := .d _) rfl rfl rfl ?_)
        refine sops_nil ?_
        refine swp_ret ?_
        with_reducible refine after_ret ?_
        -- ret
        refine ⟨.inl rfl, .inl ⟨2, rfl, ?_⟩⟩
        rw [hS, show decide ((text.size : Int) > (if kind = 9 then 64 else 4096)) = false from hb12, h2, hc]
        exact ra_d (keeps_v _)
      · refine swp_skip ?_
        refine swp_seq ?_
        refine swp_region ?_
        first | refine sops_go rfl (so_fieldAddr (v := .p _ _ _) rfl rfl rfl rfl rfl rfl rfl rfl rfl rfl ?_) | refine sops_go rfl (so_fieldAddr (v := .dp _ _) rfl rfl rfl rfl rfl rfl rfl rfl rfl rfl ?_) | refine sops_go rfl (so_fieldAddr (v := .pe _ _ _ _ _) rfl rfl rfl rfl rfl rfl rfl rfl rfl rfl ?_)
        first | refine sops_go rfl (so_load (v := .d _) rfl rfl rfl rfl rfl rfl rfl rfl ?_) | refine sops_go rfl (so_load (v := .own _ _ _ _ _) rfl rfl rfl rfl rfl rfl rfl rfl ?_)
        -- hand: CALL f43(t24, f62)
        refine sops_go rfl (st_call rfl rfl (containsFuncV_pure s list 62 [] (fun x => !x.short) hrec rfl) ⟨na_d _, na_free rfl, trivial⟩ rfl ?_)
        refine sops_go rfl (st_not rfl rfl rfl ?_)
        refine sops_go rfl (st_assign (v := .d _) rfl rfl rfl ?_)
        refine sops_nil ?_
        refine swp_ret ?_
        -- ret
        refine ⟨.inl rfl, .inl ⟨2, rfl, ?_⟩⟩
        rw [hS, show decide ((text.size : Int) > (if kind = 9 then 64 else 4096)) = false from hb12, h2, hc, V.shortL_any]
        exact ra_d (keeps_v _)
end Go.Proofs.YtdcpnpcmgfmenaaGreatDoor
/-
  Walks: how deep a value is. Conditions: none.
-/
set_option linter.unusedVariables false
set_option maxRecDepth 100000
namespace Go.Proofs.YtdcpnpcmgfmenaaGreatDoor
open Go Go.Proofs.YtdcpnpcmgfmenaaGreatDoor.Lg

mutual
def V.depthW : V → Int
  | .mk _ _ _ _ _ _ _ _ list => IntKind.i64.wrap (V.depthF list 0 + 1)
def V.depthF : List V → Int → Int
  | [], a => a
  | x :: r, a => V.depthF r (max a x.depthW)
end
theorem V.depthF_take : ∀ (l : List V) (a : Int) (k : Nat) (h : k < l.length), V.depthF (l.take (k + 1)) a = max (V.depthF (l.take k) a) l[k].depthW
  | x :: r, a, 0, _ => by simp [V.depthF]
  | x :: r, a, k + 1, h => by
    simp only [List.take_succ_cons, V.depthF, List.getElem_cons_succ]
    exact V.depthF_take r _ k (by simpa using h)

theorem depthW_pure (t : V) : ∀ s, Pure env 41 [.d (t.df s)] (.d (.v (.int .i64 t.depthW))) := by
  revert t
  apply V.ind
  intro kind flag neg digits exp bits text names list ih s
  refine pure_of_body Tryz.func41 rfl rfl rfl fun B hB => ?_
  refine swp_seq ?_
  refine swp_region ?_
  refine sops_go rfl (so_box (cs := [_, _, _, _, _, _, _, _, _]) rfl rfl rfl ?_)
  refine sops_go rfl (st_assign (v := .d _) rfl rfl rfl ?_)
  refine sops_nil ?_
  -- stop
  refine swp_len (l := 0) (i := 8) rfl rfl rfl fun hll => ?_
  rw [V.rows_len] at hll
  refine swp_seq ?_
  refine swp_region ?_
  refine sops_go rfl (st_assign (v := .d _) rfl rfl rfl ?_)
  refine sops_nil ?_
  refine swp_seq ?_
  refine swp_seq ?_
  refine swp_region ?_
  first | refine sops_go rfl (so_fieldAddr (v := .p _ _ _) rfl rfl rfl rfl rfl rfl rfl rfl rfl rfl ?_) | refine sops_go rfl (so_fieldAddr (v := .dp _ _) rfl rfl rfl rfl rfl rfl rfl rfl rfl rfl ?_) | refine sops_go rfl (so_fieldAddr (v := .pe _ _ _ _ _) rfl rfl rfl rfl rfl rfl rfl rfl rfl rfl ?_)
  first | refine sops_go rfl (so_load (v := .d _) rfl rfl rfl rfl rfl rfl rfl rfl ?_) | refine sops_go rfl (so_load (v := .own _ _ _ _ _) rfl rfl rfl rfl rfl rfl rfl rfl ?_)
  refine sops_go rfl (so_lenSl rfl rfl rfl rfl rfl ?_)
  refine sops_go rfl (st_move (v := .d _) rfl rfl rfl ?_)
  refine sops_nil ?_
  refine swp_block ?_
  -- loop
  let a : Nat → Int := fun k => V.depthF (list.take k) 0
  refine swp_loopF (F := fun k : Nat => { t := upd (upd (upd (upd (fun _ => .any) 3 (.d (.v (.int .i64 (a k))))) 7 (.d (.sl s (V.rows list)))) 8 (.d (.v (.int .i64 list.length)))) 9 (.d (.v (.int .i64 k))), n := 20, h := fun _ => .dead, nx := 0 })
    (fun k => k ≤ list.length) (fun k => list.length - k) 0 (Nat.zero_le _) ?_ ?_
  · refine wk_of rfl (Nat.le_of_ble_eq_true rfl) (by rw [hB]; exact Nat.zero_le _) (tle_upd (le_eq rfl rfl) (tle_upd (le_eq (int_eq (by rw [V.rows_len])) rfl) (tle_upd (le_eq rfl rfl) (tle_upd (le_eq rfl rfl) (tle_any _))))) (hle_dead _) (dead_none)
  intro k hk
  refine swp_seq ?_
  refine swp_region ?_
  refine sops_go rfl (st_bin rfl rfl rfl rfl rfl ?_)
  refine sops_nil ?_
  refine swp_seq ?_
  -- cond
  refine swp_cond _ rfl (fun hc => ?_) (fun hc => ?_)
  · have hlt : k < list.length := by have := of_decide_eq_true hc; omega
    refine swp_skip ?_
    refine swp_seq ?_
    refine swp_block ?_
    refine swp_seq ?_
    refine swp_region ?_
    -- hand: indexAddr 31 t7 t9
    refine sops_go rfl (so_indexSl rfl rfl rfl rfl rfl rfl rfl (V.rows_all _) (by omega) (by rw [V.rows_len]; omega) (V.rows_get _ _ hlt) ?_)
    have ihk := ih _ (List.getElem_mem hlt) true
    have hak := V.depthF_take list 0 k hlt
    generalize list[k] = x at ihk hak ⊢
    obtain ⟨a1, a2, a3, a4, a5, a6, a7, a8, a9⟩ := x
    first | refine sops_go rfl (so_load (v := .d (.agg [_, _, _, _, _, _, _, _, _])) rfl rfl rfl rfl rfl rfl rfl rfl ?_) | refine sops_go rfl (so_load (v := .agg [_, _, _, _, _, _, _, _, _]) rfl rfl rfl rfl rfl rfl rfl rfl ?_)
    refine sops_go rfl (so_alloc (cs := [_, _, _, _, _, _, _, _, _]) rfl rfl rfl rfl ?_)
    refine sops_go rfl (so_store rfl rfl rfl rfl rfl rfl rfl rfl rfl (zs := [_, _, _, _, _, _, _, _, _]) rfl ?_)
    refine sops_nil ?_
    refine swp_region ?_
    refine sops_go rfl (st_move (v := .d _) rfl rfl rfl ?_)
    first | refine sops_go rfl (so_load (v := .d (.agg [_, _, _, _, _, _, _, _, _])) rfl rfl rfl rfl rfl rfl rfl rfl ?_) | refine sops_go rfl (so_load (v := .agg [_, _, _, _, _, _, _, _, _]) rfl rfl rfl rfl rfl rfl rfl rfl ?_)
    -- hand: CALL f41(t14)
    refine sops_go rfl (st_call rfl rfl (ihk) ⟨na_d _, trivial⟩ rfl ?_)
    refine sops_go rfl (so_max rfl rfl rfl rfl rfl ?_)
    refine sops_go rfl (st_assign (v := .d _) rfl rfl rfl ?_)
    refine sops_nil ?_
    refine swp_region ?_
    refine sops_go rfl (st_bin rfl rfl rfl rfl rfl ?_)
    refine sops_go rfl (st_move (v := .d _) rfl rfl rfl ?_)
    refine sops_nil ?_
    -- loopend
    have e : a (k + 1) = max (a k) (V.mk a1 a2 a3 a4 a5 a6 a7 a8 a9).depthW := hak
    refine ⟨k + 1, hlt, by omega, ?_⟩
    simp only [e]
    refine wk_of rfl (Nat.le_of_ble_eq_true rfl) (by rw [hB]; exact Nat.zero_le _) (tle_upd (le_eq (next_i64 hlt hll) rfl) (tle_upd (le_eq rfl rfl) (tle_upd (le_eq rfl rfl) (tle_upd (le_eq rfl rfl) (tle_any _))))) (hle_dead _) (dead_none)
  · refine swp_exit ?_
    with_reducible refine after_exit ?_
    with_reducible refine after_exit ?_
    refine inblk_hit ?_
    refine swp_seq ?_
    refine swp_region ?_
    refine sops_go rfl (st_move (v := .d _) rfl rfl rfl ?_)
    refine sops_go rfl (st_bin rfl rfl rfl rfl rfl ?_)
    refine sops_go rfl (st_assign (v := .d _) rfl rfl rfl ?_)
    refine sops_nil ?_
    refine swp_ret ?_
    -- ret
    have : k = list.length := by have := of_decide_eq_false hc; omega
    have e : V.depthF list 0 = a k := by show _ = V.depthF (list.take k) _; rw [this, List.take_length]
    refine ⟨.inl rfl, .inl ⟨2, rfl, ?_⟩⟩
    simp only [V.depthW, e]; exact ra_d (keeps_v _)

end Go.Proofs.YtdcpnpcmgfmenaaGreatDoor
/-
  Ends of walks, results in cells, sets of texts. Conditions: none.
-/
set_option linter.unusedVariables false
set_option linter.unusedSimpArgs false
namespace Go.Proofs.YtdcpnpcmgfmenaaGreatDoor.Lg
open Go Go.RowKit

section
variable {E : Env} {B : Base} {Q : Exit → St → Prop} {σ : St} {fn : Func}

theorem rc_of {t : Nat} {ty : TypeId} {r : AV} {v : AV} {cs : List AV} {i : TI} (hi : E.ti ty = some i) (hc : at_ σ.h (σ.t t) = some cs) (hl : decide (i.size ≤ cs.length) = true) (h0 : decide (0 < i.size) = true)
    (hv : (bif i.agg then mkAgg (cs.take i.size) else cs.headD .any) = v) (hra : RA E σ v r) : RC E σ t ty r := by
  refine ⟨cs, i.size, i.agg, hc, E.sz hi, E.agg hi, by simpa using hl, .inr (by simpa using h0), ?_⟩
  rw [← hv] at hra
  cases h : i.agg <;> simpa [h] using hra

/-! ### One result -/
theorem fin_v {t : Nat} {x y : Value} (h1 : fn.results = #[.tmp t]) (h2 : σ.t t = .d (.v x)) (h : y = x) : Fin E fn (.d (.v y)) .ret σ := by
  subst h; exact ⟨.inl rfl, .inl ⟨t, h1, by rw [h2]; exact ra_d (keeps_v _)⟩⟩
theorem fin_b {t : Nat} {x y : Bool} (h1 : fn.results = #[.tmp t]) (h2 : σ.t t = .d (.v (.bool x))) (h : y = x) : Fin E fn (.d (.v (.bool y))) .ret σ := fin_v h1 h2 (by rw [h])
theorem fin_i {t : Nat} {k : IntKind} {x y : Int} (h1 : fn.results = #[.tmp t]) (h2 : σ.t t = .d (.v (.int k x))) (h : y = x) : Fin E fn (.d (.v (.int k y))) .ret σ := fin_v h1 h2 (by rw [h])
theorem fin_s {t : Nat} {x y : ByteArray} (h1 : fn.results = #[.tmp t]) (h2 : σ.t t = .d (.v (.string x))) (h : y = x) : Fin E fn (.d (.v (.string y))) .ret σ := fin_v h1 h2 (by rw [h])
theorem fin_d {t : Nat} {x y : D} (h1 : fn.results = #[.tmp t]) (h2 : σ.t t = .d x) (h : y = x) (hk : Keeps x) : Fin E fn (.d y) .ret σ := by
  subst h; exact ⟨.inl rfl, .inl ⟨t, h1, by rw [h2]; exact ra_d hk⟩⟩
theorem fin_c {t : Nat} {ty : TypeId} {r : AV} (h1 : fn.results = #[.cell t ty]) (h : RC E σ t ty r) : Fin E fn r .ret σ := ⟨.inl rfl, .inr (.inr (.inr (.inr (.inl ⟨t, ty, h1, h⟩))))⟩
/-! ### Two, three -/
theorem fin_2 {t u : Nat} {x y x' y' : D} (h1 : fn.results = #[.tmp t, .tmp u]) (h2 : σ.t t = .d x') (h3 : σ.t u = .d y') (e1 : x = x') (e2 : y = y') (k1 : Keeps x') (k2 : Keeps y') : Fin E fn (.tup [.d x, .d y]) .ret σ := by
  subst e1; subst e2; exact ⟨.inl rfl, .inr (.inl ⟨t, u, _, _, h1, rfl, by rw [h2]; exact ra_d k1, by rw [h3]; exact ra_d k2⟩)⟩
theorem fin_2v {t u : Nat} {x y x' y' : Value} (h1 : fn.results = #[.tmp t, .tmp u]) (h2 : σ.t t = .d (.v x')) (h3 : σ.t u = .d (.v y')) (e1 : x = x') (e2 : y = y') : Fin E fn (.tup [.d (.v x), .d (.v y)]) .ret σ :=
  fin_2 h1 h2 h3 (by rw [e1]) (by rw [e2]) (keeps_v _) (keeps_v _)
theorem fin_cv {t u : Nat} {ty : TypeId} {r : AV} {y y' : Value} (h1 : fn.results = #[.cell t ty, .tmp u]) (h2 : RC E σ t ty r) (h3 : σ.t u = .d (.v y')) (e2 : y = y') : Fin E fn (.tup [r, .d (.v y)]) .ret σ := by
  subst e2; exact ⟨.inl rfl, .inr (.inr (.inr (.inr (.inr (.inl ⟨t, ty, u, _, _, h1, rfl, h2, by rw [h3]; exact ra_d (keeps_v _)⟩)))))⟩
theorem fin_n {r : AV} (h : Fin E fn r .ret σ) : Fin E fn r .normal σ := ⟨.inr rfl, h.2⟩
theorem fin_s0 {R : AV → Prop} {r : AV} (hR : R r) (h : Fin E fn r .ret σ) : FinS E fn R .ret σ := ⟨h.1, r, hR, h.2⟩

/-- A test whose outcome is kept. -/
theorem swp_condC {t : Nat} {x y : Code} (b : Bool) (hb : σ.t t = .d (.v (.bool b))) (ht : b = true → SWP E B x Q { σ with t := upd σ.t t (.d (.v (.bool true))) }) (hf : b = false → SWP E B y Q { σ with t := upd σ.t t (.d (.v (.bool false))) }) :
    SWP E B (.cond (.tmp t) x y) Q σ := by
  have key : ∀ b', b = b' → { σ with t := upd σ.t t (.d (.v (.bool b'))) } = σ := fun b' e => by
    subst e
    have : upd σ.t t (.d (.v (.bool b))) = σ.t := by
      funext i
      simp only [upd]
      split
      · rename_i h; subst h; exact hb.symm
      · rfl
    rw [this]
  refine swp_cond b hb (fun h => ?_) (fun h => ?_)
  · have := ht h; rwa [key true h] at this
  · have := hf h; rwa [key false h] at this

/-! ### A part of a region, joined -/
theorem wp_upto {P : Program} {o : Oper} {a : Act} {w : World} {K K' : Act → World → Prop} {Q Q' : Exit → Act → World → Prop} (h : ∀ a w, K a w → K' a w) (hq : ∀ e a w, e ≠ .normal → Q e a w → Q' e a w)
    (hh : o.wp P a w K Q) : o.wp P a w K' Q' := by
  unfold Oper.wp at *
  generalize (execOp a.eval o).run P w = r at *
  cases r with
  | ok n w' =>
    cases n <;> simp only [Oper.upon] at hh ⊢ <;>
      first
        | exact h _ _ hh
        | exact Calls.mono hh (fun e w'' he => by
            cases e with
            | returned v => exact h _ _ he
            | panicked ch => exact hq _ _ _ (by simp) he
            | outgrown => obtain ⟨a, w, he⟩ := he; exact ⟨a, w, hq _ _ _ (by simp) he⟩)
        | exact Rows.mono hh (fun _ _ he => h _ _ he)
  | halt x w' => cases x <;> simp only [Oper.upon] at hh ⊢ <;> exact hq _ _ _ (by simp) hh
theorem wpList_app {P : Program} {ops : Array Oper} {Q Q' : Exit → Act → World → Prop} : ∀ (l1 l2 : List Oper) (a : Act) (w : World),
    wpList P ops Q l1 a w → (∀ a w, Q .normal a w → wpList P ops Q' l2 a w) → (∀ e a w, e ≠ .normal → Q e a w → Q' e a w) → wpList P ops Q' (l1 ++ l2) a w
  | [], l2, a, w, h, hn, hx => hn a w h
  | o :: l1, l2, a, w, h, hn, hx => by
    unfold wpList at h
    rw [List.cons_append]
    unfold wpList
    split at h
    · rename_i hw
      rw [if_pos hw]
      rcases h with h | ⟨h1, a', w', h2⟩
      · refine .inl (wp_upto (fun a w hk => wpList_app l1 l2 a w hk hn hx) (fun e a w he hq => hx e a w he hq) h)
      · exact .inr ⟨h1, a', w', hx _ _ _ (by simp) h2⟩
    · rename_i hw
      rw [if_neg hw]
      exact wpList_app l1 l2 _ w h hn hx

def forget (t : Nat → AV) : List Nat → Nat → AV
  | [] => t
  | d :: ds => forget (upd t d .any) ds
def updZip (t : Nat → AV) : List Nat → List AV → Nat → AV
  | d :: ds, v :: vs => updZip (upd t d v) ds vs
  | _, _ => t
theorem rel_t {g : G} {w : World} {a : Act} {t' : Nat → AV} (hr : Rel E B g σ w a) (ht : ∀ i x, VR w g σ.nx (σ.t i) x → VR w g σ.nx (t' i) x) : Rel E B g { σ with t := t' } w a :=
  ⟨hr.size, fun i => ht i _ (hr.tm i), hr.hr, hr.ext, hr.df⟩
theorem zip_forget {w : World} {g : G} {nx : Nat} {x : Value} (i : Nat) : ∀ (ds : List Nat) (vs : List AV) (t t' : Nat → AV), ds.length = vs.length → (VR w g nx (t i) x → VR w g nx (t' i) x) → VR w g nx (updZip t ds vs i) x → VR w g nx (forget t' ds i) x
  | [], [], t, t', _, h, hv => h hv
  | d :: ds, v :: vs, t, t', hl, h, hv => by
    refine zip_forget i ds vs (upd t d v) (upd t' d .any) (by simpa using hl) (fun hh => ?_) hv
    by_cases e : i = d
    · subst e; rw [upd_same]; exact .any _
    · rw [upd_ne _ _ _ e] at hh ⊢; exact h hh
  | [], _ :: _, _, _, hl, _, _ => by simp at hl
  | _ :: _, [], _, _, hl, _, _ => by simp at hl

/-- What stands behind a part of a region whose first test came out so. -/
def MidT (σ : St) (d : Nat) (b : Bool) (ds : List Nat) (p : Nat) (v : Bool) : Exit → St → Prop := fun e τ =>
  e = .normal ∧ τ.n = σ.n ∧ τ.h = σ.h ∧ τ.nx = σ.nx ∧ ∃ L : List AV, ds.length = L.length ∧ τ.t = upd (updZip (upd σ.t d (.d (.v (.bool b)))) ds L) p (.d (.v (.bool v)))

theorem midT_ok {d p : Nat} {b v : Bool} {ds : List Nat} (hd : σ.t d = .d (.v (.bool b))) {e : Exit} {τ : St} (h : MidT σ d b ds p v e τ) {g : G} {w : World} {a : Act} (hr : Rel E B g τ w a) :
    Rel E B g { σ with t := upd (forget σ.t ds) p (.d (.v (.bool v))) } w a := by
  obtain ⟨-, h1, h2, h3, L, hL, h4⟩ := h
  have hτ : τ = { σ with t := upd (updZip (upd σ.t d (.d (.v (.bool b)))) ds L) p (.d (.v (.bool v))) } := by
    cases τ; simp only at h1 h2 h3 h4; subst h1; subst h2; subst h3; subst h4; rfl
  subst hτ
  refine rel_t (σ := { σ with t := upd (updZip (upd σ.t d (.d (.v (.bool b)))) ds L) p (.d (.v (.bool v))) }) hr fun i x hx => ?_
  simp only at hx ⊢
  by_cases e : i = p
  · subst e; rw [upd_same]; rw [upd_same] at hx; exact hx
  · rw [upd_ne _ _ _ e]; rw [upd_ne _ _ _ e] at hx
    refine zip_forget i ds L _ _ hL (fun hh => ?_) hx
    by_cases e2 : i = d
    · subst e2; rw [hd]; rw [upd_same] at hh; exact hh
    · rw [upd_ne _ _ _ e2] at hh; exact hh

variable {ops : Array Oper} {l l1 l2 : List Oper}
theorem sops_join {d p : Nat} {b v v' r : Bool} (ds : List Nat) (n : Nat) (hd : σ.t d = .d (.v (.bool b))) (h1 : l.take n = l1) (h2 : l.drop n = l2)
    (hf : b = false → SOps E B ops l1 (MidT σ d false ds p v) { σ with t := upd σ.t d (.d (.v (.bool false))) }) (ht : b = true → SOps E B ops l1 (MidT σ d true ds p v') { σ with t := upd σ.t d (.d (.v (.bool true))) })
    (hr : r = bif b then v' else v) (hk : SOps E B ops l2 Q { σ with t := upd (forget σ.t ds) p (.d (.v (.bool r))) }) : SOps E B ops l Q σ := by
  rw [← List.take_append_drop n l, h1, h2]
  intro g w a hrel
  have key : ∀ b', b = b' → { σ with t := upd σ.t d (.d (.v (.bool b'))) } = σ := fun b' e => by
    subst e
    have : upd σ.t d (.d (.v (.bool b))) = σ.t := by
      funext i
      simp only [upd]
      split
      · rename_i h; subst h; exact hd.symm
      · rfl
    rw [this]
  subst hr
  cases hb : b with
  | false =>
    have h := hf hb
    rw [key false hb] at h
    rw [hb] at hk hd
    refine wpList_app l1 l2 a w (h g w a hrel) (fun a w ⟨g', τ, hr', hq⟩ => hk g' w a (midT_ok hd hq hr')) (fun e a w he ⟨g', τ, hr', hq⟩ => absurd hq.1 he)
  | true =>
    have h := ht hb
    rw [key true hb] at h
    rw [hb] at hk hd
    refine wpList_app l1 l2 a w (h g w a hrel) (fun a w ⟨g', τ, hr', hq⟩ => hk g' w a (midT_ok hd hq hr')) (fun e a w he ⟨g', τ, hr', hq⟩ => absurd hq.1 he)
theorem sops_or {d p : Nat} {b v : Bool} (ds : List Nat) (n : Nat) (hd : σ.t d = .d (.v (.bool b))) (h1 : l.take n = l1) (h2 : l.drop n = l2)
    (hf : b = false → SOps E B ops l1 (MidT σ d false ds p v) { σ with t := upd σ.t d (.d (.v (.bool false))) }) (ht : b = true → SOps E B ops l1 (MidT σ d true ds p true) { σ with t := upd σ.t d (.d (.v (.bool true))) })
    (hk : SOps E B ops l2 Q { σ with t := upd (forget σ.t ds) p (.d (.v (.bool (b || v)))) }) : SOps E B ops l Q σ := sops_join ds n hd h1 h2 hf ht (by cases b <;> rfl) hk
theorem sops_and {d p : Nat} {b v : Bool} (ds : List Nat) (n : Nat) (hd : σ.t d = .d (.v (.bool b))) (h1 : l.take n = l1) (h2 : l.drop n = l2)
    (ht : b = true → SOps E B ops l1 (MidT σ d true ds p v) { σ with t := upd σ.t d (.d (.v (.bool true))) }) (hf : b = false → SOps E B ops l1 (MidT σ d false ds p false) { σ with t := upd σ.t d (.d (.v (.bool false))) })
    (hk : SOps E B ops l2 Q { σ with t := upd (forget σ.t ds) p (.d (.v (.bool (b && v)))) }) : SOps E B ops l Q σ := sops_join ds n hd h1 h2 hf ht (by cases b <;> rfl) hk

theorem so_neT {o : Oper} {K : St → Prop} {q : Md} [Qt q] {op : BinOp} {t u : TypeId} {x y : Operand} (ho : o.op = .binOp op t x y u) (sts : List TypeId) (hst : (sts.all fun t => plainSt E.P t) = true) (hfit : ∀ t j, E.ti t = some j → fitsT E t = true) (hg : E.P.eqGuardType E.P.depth t = false)
    {i : TI} (hi : E.ti t = some i) {fs : Array Field} (hif : i.desc = .struct fs) {xs ys : List D} (hx : ev E σ x = .d (.agg xs)) (hy : ev E σ y = .d (.agg ys)) {vs ws : List Value} (hvs : valsOf xs = some vs) (hws : valsOf ys = some ws) (hvl : Nat.beq vs.length i.size = true) (hwl : Nat.beq ws.length i.size = true)
    (hop : op = .neq) (hd : dlt o.dst σ.n = true) {b : Bool} (hb : eqT E sts 8 t vs ws = some b) (hK : K (σ.put o.dst (.d (.v (.bool (!b)))))) : Step q E B o K Q σ := by
  subst hop
  refine step_val _ (fun B g w a hr => ?_) hd hK
  have hx' := ev_ok hr x
  have hy' := ev_ok hr y
  rw [hx] at hx'
  rw [hy] at hy'
  have hdx := vr_data hx'
  have hdy := vr_data hy'
  obtain ⟨ax, hax⟩ : ∃ ax, a.eval x = .agg ax := by generalize a.eval x = z at hdx; cases hdx; exact ⟨_, rfl⟩
  obtain ⟨ay, hay⟩ : ∃ ay, a.eval y = .agg ay := by generalize a.eval y = z at hdy; cases hdy; exact ⟨_, rfl⟩
  rw [hax] at hdx
  rw [hay] at hdy
  have e1 := valsOf_ok hvs hdx
  have e2 := valsOf_ok hws hdy
  subst e1; subst e2
  obtain ⟨_, h2, _⟩ := eqT_ok hst hfit w 9992 8 t i vs ws b hi (Nat.eq_of_beq_eq_true hvl) (Nat.eq_of_beq_eq_true hwl) hb
  have ha : aggT E.P t = some true := by simp [aggT, E.und hi, hif]
  simp only [asVal, ha, Option.getD_some, cond_true] at h2
  refine ⟨.bool (!b), ?_, .d _ _ (.v _)⟩
  simp only [execOp, ho, hax, hay]
  refine run_v ?_
  rw [Sem.run_bind, run_eqGuard_agg w .neq t x y _ _ hg, Result.andThen_ok, run_neq_struct w t, h2]; rfl


/-! ### Sets of texts -/
def encS (l : List ByteArray) : List (Value × AV) := l.map fun s => (.string s, .d (.v (.bool true)))
theorem encS_keys (l : List ByteArray) : ∀ p ∈ encS l, Go.MapKept.IsKey .string p.1 := by
  intro p hp
  obtain ⟨q, _, rfl⟩ := List.mem_map.1 hp
  trivial
def hasS (l : List ByteArray) (s : ByteArray) : Bool := l.any fun x => decide (x = s)
theorem so_setHas {o : Oper} {K : St → Prop} {t : TypeId} {x ix : Operand} (ho : o.op = .lookup t x ix false) {i : TI} (hi : E.ti t = some i) {kt et : TypeId} (ht : i.desc = .map kt et) {jk je : TI} (hjk : E.ti kt = some jk) (hje : E.ti et = some je) (hd1 : jk.desc = .string) (hz : je.zero = .bool false)
    {l : Nat} (hx : ev E σ x = .map l) {es : List ByteArray} (hl : σ.h l = .map (encS es)) {s : ByteArray} (hk : ev E σ ix = .d (.v (.string s))) (hd : dlt o.dst σ.n = true)
    (hK : K (σ.put o.dst (.d (.v (.bool (hasS es s)))))) : Step .all E B o K Q σ := by
  refine so_lookup ho hi ht hjk hje hx hl hk (by rw [hd1]; trivial) (by rw [hd1]; exact encS_keys es) hd (fun h0 => ?_) (fun j v h1 => ?_)
  · have e : hasS es s = false := by
      unfold hasS
      rw [List.any_eq_false]
      intro x hx he
      have : x = s := by simpa using he
      exact h0 (.string x, .d (.v (.bool true))) (List.mem_map.2 ⟨x, hx, rfl⟩) (by rw [this])
    rw [e] at hK
    rw [hz]; exact hK
  · simp only [encS, List.getElem?_map, Option.map_eq_some_iff] at h1
    obtain ⟨x, hx, he⟩ := h1
    simp only [Prod.mk.injEq, Value.string.injEq] at he
    have e : hasS es s = true := List.any_eq_true.2 ⟨x, List.mem_of_getElem? hx, by simpa using he.1⟩
    rw [e] at hK
    rw [← he.2]; exact hK
theorem so_setPut {o : Oper} {K : St → Prop} {t : TypeId} {x ix y : Operand} (ho : o.op = .mapUpdate t x ix y) {i : TI} (hi : E.ti t = some i) {kt et : TypeId} (ht : i.desc = .map kt et) {jk : TI} (hjk : E.ti kt = some jk) (hd1 : jk.desc = .string)
    {l : Nat} (hx : ev E σ x = .map l) {es : List ByteArray} (hl : σ.h l = .map (encS es)) {s : ByteArray} (hk : ev E σ ix = .d (.v (.string s))) (hy : ev E σ y = .d (.v (.bool true))) (hd : dlt o.dst σ.n = true) (hnew : hasS es s = false)
    (hK : K (St.put { σ with h := upd σ.h l (.map (encS (es ++ [s]))) } o.dst .any)) : Step .all E B o K Q σ := by
  refine so_mapUpdate ho hi ht hjk hx hl hk (by rw [hd1]; trivial) (by rw [hd1]; exact encS_keys es) hd (fun h0 => ?_) (fun j v h1 => ?_)
  · have e : encS es ++ [(.string s, ev E σ y)] = encS (es ++ [s]) := by rw [hy]; simp [encS]
    rw [e]; exact hK
  · exfalso
    simp only [encS, List.getElem?_map, Option.map_eq_some_iff] at h1
    obtain ⟨x, hx, he⟩ := h1
    simp only [Prod.mk.injEq, Value.string.injEq] at he
    have : hasS es s = true := List.any_eq_true.2 ⟨x, List.mem_of_getElem? hx, by simpa using he.1⟩
    rw [hnew] at this; cases this
theorem encS_bnd (es : List ByteArray) (n : Nat) : ∀ p ∈ encS es, p.2.bnd n = true := by
  intro p hp; obtain ⟨q, _, rfl⟩ := List.mem_map.1 hp; rfl
end
end Go.Proofs.YtdcpnpcmgfmenaaGreatDoor.Lg
/-
  Walks: slices.Equal and slices.Index on texts, slices.EqualFunc on types. Conditions: none.
-/
set_option linter.unusedVariables false
set_option maxRecDepth 100000
namespace Go.Proofs.YtdcpnpcmgfmenaaGreatDoor
open Go Go.Proofs.YtdcpnpcmgfmenaaGreatDoor.Lg

theorem indexS_pure (s : Bool) (l : List ByteArray) (x : ByteArray) :
    Pure env 46 [.d (.sl s (strRows l)), .d (.v (.string x))] (.d (.v (.int .i64 (firstAt (fun y => x.toList == y.toList) l 0)))) := by
  refine pure_of_body Tryz.func46 rfl rfl rfl fun B hB => ?_
  refine swp_lenT (i := 0) rfl fun hlen => ?_
  rw [strRows_len] at hlen
  refine swp_seq ?_
  refine swp_region ?_
  refine sops_go rfl (st_assign (v := .d _) rfl rfl rfl ?_)
  refine sops_nil ?_
  refine swp_seq ?_
  refine swp_seq ?_
  refine swp_region ?_
  first | refine sops_go rfl (st_move (v := .d _) rfl rfl rfl ?_) | refine sops_go rfl (st_move (v := .own _ _ _ _ _) rfl rfl rfl ?_)
  refine sops_go rfl (so_lenSl rfl rfl rfl rfl rfl ?_)
  refine sops_go rfl (st_move (v := .d _) rfl rfl rfl ?_)
  refine sops_nil ?_
  refine swp_block ?_
  -- loop
  refine swp_loopF (F := fun k : Nat => { t := upd (upd (upd (upd (fun _ => .any) 0 (.d (.sl s (strRows l)))) 1 (.d (.v (.string x)))) 7 (.d (.v (.int .i64 l.length)))) 8 (.d (.v (.int .i64 k))), n := 19, h := fun _ => .dead, nx := 0 })
    (fun k => k ≤ l.length ∧ (l.take k).any (fun y => x.toList == y.toList) = false) (fun k => l.length - k) 0 ⟨Nat.zero_le _, rfl⟩ ?_ ?_
  · refine wk_of rfl (Nat.le_of_ble_eq_true rfl) (by rw [hB]; exact Nat.zero_le _) (tle_upd (le_eq rfl rfl) (tle_upd (le_eq (int_eq (by rw [strRows_len])) rfl) (tle_upd (le_eq rfl rfl) (tle_upd (le_eq rfl rfl) (tle_any _))))) (hle_dead _) (dead_none)
  rintro k ⟨hk, ha⟩
  refine swp_seq ?_
  refine swp_region ?_
  refine sops_go rfl (st_bin rfl rfl rfl rfl rfl ?_)
  refine sops_nil ?_
  refine swp_seq ?_
  -- cond
  refine swp_cond _ rfl (fun hc => ?_) (fun hc => ?_)
  · have hlt : k < l.length := by have := of_decide_eq_true hc; omega
    refine swp_skip ?_
    refine swp_seq ?_
    refine swp_block ?_
    refine swp_seq ?_
    refine swp_region ?_
    refine sops_go rfl (st_move (v := .d _) rfl rfl rfl ?_)
    refine sops_go rfl (st_assign (v := .d _) rfl rfl rfl ?_)
    refine sops_nil ?_
    refine swp_seq ?_
    refine swp_region ?_
    refine sops_go rfl (st_move (v := .d _) rfl rfl rfl ?_)
    first | refine sops_go rfl (st_move (v := .d _) rfl rfl rfl ?_) | refine sops_go rfl (st_move (v := .own _ _ _ _ _) rfl rfl rfl ?_)
    refine sops_go rfl (st_move (v := .d _) rfl rfl rfl ?_)
    -- hand: indexAddr 23 t12 t13
    refine sops_go rfl (so_indexSl rfl rfl rfl rfl rfl rfl rfl (strRows_all _) (by omega) (by rw [strRows_len]; omega) (strRows_get _ _ hlt) ?_)
    have hat := any_take (fun y => x.toList == y.toList) l k hlt
    have hfi := firstAt_take (fun y => x.toList == y.toList) l k 0 ha hlt
    refine sops_go rfl (so_load (v := .d _) rfl rfl rfl rfl rfl rfl rfl rfl ?_)
    refine sops_go rfl (st_bin rfl rfl rfl rfl rfl ?_)
    refine sops_nil ?_
    -- cond
    refine swp_cond _ rfl (fun hc => ?_) (fun hc => ?_)
    · refine swp_seq ?_
      refine swp_region ?_
      refine sops_go rfl (st_move (v := .d _) rfl rfl rfl ?_)
      refine sops_go rfl (st_assign (v := .d _) rfl rfl rfl ?_)
      refine sops_nil ?_
      refine swp_ret ?_
      with_reducible refine inblk_ret ?_
      with_reducible refine after_ret ?_
      with_reducible refine after_ret ?_
      with_reducible refine inblk_ret ?_
      with_reducible refine after_ret ?_
      -- ret
      refine ⟨.inl rfl, .inl ⟨4, rfl, ?_⟩⟩
      rw [hfi hc, Int.zero_add]
      exact ra_d (keeps_v _)
    · refine swp_skip ?_
      refine swp_region ?_
      refine sops_go rfl (st_bin rfl rfl rfl rfl rfl ?_)
      refine sops_go rfl (st_move (v := .d _) rfl rfl rfl ?_)
      refine sops_nil ?_
      -- loopend
      refine ⟨k + 1, ⟨hlt, by rw [hat, ha]; exact hc⟩, by omega, ?_⟩
      refine wk_of rfl (Nat.le_of_ble_eq_true rfl) (by rw [hB]; exact Nat.zero_le _) (tle_upd (le_eq (next_i64 hlt hlen) rfl) (tle_upd (le_eq rfl rfl) (tle_upd (le_eq rfl rfl) (tle_upd (le_eq rfl rfl) (tle_any _))))) (hle_dead _) (dead_none)
  · refine swp_exit ?_
    with_reducible refine after_exit ?_
    with_reducible refine after_exit ?_
    refine inblk_hit ?_
    refine swp_seq ?_
    refine swp_region ?_
    refine sops_go rfl (st_assign (v := .d _) rfl rfl rfl ?_)
    refine sops_nil ?_
    refine swp_ret ?_
    -- ret
    have : k = l.length := by have := of_decide_eq_false hc; omega
    rw [this, List.take_length] at ha
    refine ⟨.inl rfl, .inl ⟨4, rfl, ?_⟩⟩
    rw [firstAt_none _ l 0 ha]
    exact ra_d (keeps_v _)

/-- Are two rows alike, place by place? -/
def rowsEq {α : Type} (p : α → α → Bool) : List α → List α → Bool
  | [], [] => true
  | x :: a, y :: b => p x y && rowsEq p a b
  | _, _ => false
theorem rowsEq_len {α : Type} (p : α → α → Bool) : ∀ (a b : List α), a.length ≠ b.length → rowsEq p a b = false
  | [], [], h => absurd rfl h
  | [], _ :: _, _ => rfl
  | _ :: _, [], _ => rfl
  | x :: a, y :: b, h => by simp only [rowsEq, rowsEq_len p a b (by simpa using h), Bool.and_false]
theorem rowsEq_at {α : Type} (p : α → α → Bool) : ∀ (a b : List α), a.length = b.length → ∀ (k : Nat) (h : k < a.length) (h' : k < b.length), p a[k] b[k] = false → rowsEq p a b = false
  | x :: a, y :: b, _, 0, _, _, hp => by simp at hp; simp [rowsEq, hp]
  | x :: a, y :: b, hl, k + 1, h, h', hp => by
    have := rowsEq_at p a b (by simpa using hl) k (by simpa using h) (by simpa using h') (by simpa using hp)
    simp [rowsEq, this]
theorem rowsEq_all {α : Type} (p : α → α → Bool) : ∀ (a b : List α), a.length = b.length → (∀ (k : Nat) (h : k < a.length) (h' : k < b.length), p a[k] b[k] = true) → rowsEq p a b = true
  | [], [], _, _ => rfl
  | x :: a, y :: b, hl, h => by
    have h0 := h 0 (by simp) (by simp)
    have := rowsEq_all p a b (by simpa using hl) fun k hk hk' => by have := h (k + 1) (by simpa using hk) (by simpa using hk'); simpa only [List.getElem_cons_succ] using this
    simp at h0
    simp [rowsEq, h0, this]
def strEq (x y : ByteArray) : Bool := x.toList == y.toList

theorem equalS_pure (s s' : Bool) (a b : List ByteArray) :
    Pure env 45 [.d (.sl s (strRows a)), .d (.sl s' (strRows b))] (.d (.v (.bool (rowsEq strEq a b)))) := by
  refine pure_of_body Tryz.func45 rfl rfl rfl fun B hB => ?_
  refine swp_lenT (i := 0) rfl fun hlen => ?_
  rw [strRows_len] at hlen
  refine swp_seq ?_
  refine swp_region ?_
  refine sops_go rfl (st_assign (v := .d _) rfl rfl rfl ?_)
  refine sops_nil ?_
  refine swp_seq ?_
  refine swp_seq ?_
  refine swp_region ?_
  first | refine sops_go rfl (st_move (v := .d _) rfl rfl rfl ?_) | refine sops_go rfl (st_move (v := .own _ _ _ _ _) rfl rfl rfl ?_)
  refine sops_go rfl (so_lenSl rfl rfl rfl rfl rfl ?_)
  first | refine sops_go rfl (st_move (v := .d _) rfl rfl rfl ?_) | refine sops_go rfl (st_move (v := .own _ _ _ _ _) rfl rfl rfl ?_)
  refine sops_go rfl (so_lenSl rfl rfl rfl rfl rfl ?_)
  refine sops_go rfl (st_bin rfl rfl rfl rfl rfl ?_)
  refine sops_nil ?_
  -- cond
  refine swp_cond _ rfl (fun hc => ?_) (fun hc => ?_)
  · refine swp_seq ?_
    refine swp_region ?_
    refine sops_go rfl (st_assign (v := .d _) rfl rfl rfl ?_)
    refine sops_nil ?_
    refine swp_ret ?_
    with_reducible refine after_ret ?_
    -- ret
    have hne : a.length ≠ b.length := by
      intro h
      have hc : (((strRows a).length : Int) != ((strRows b).length : Int)) = true := hc
      rw [strRows_len, strRows_len, h] at hc
      simp at hc
    refine ⟨.inl rfl, .inl ⟨4, rfl, ?_⟩⟩
    rw [rowsEq_len _ _ _ hne]; exact ra_d (keeps_v _)
  · refine swp_skip ?_
    refine swp_seq ?_
    refine swp_seq ?_
    refine swp_region ?_
    first | refine sops_go rfl (st_move (v := .d _) rfl rfl rfl ?_) | refine sops_go rfl (st_move (v := .own _ _ _ _ _) rfl rfl rfl ?_)
    refine sops_go rfl (so_lenSl rfl rfl rfl rfl rfl ?_)
    refine sops_go rfl (st_move (v := .d _) rfl rfl rfl ?_)
    refine sops_nil ?_
    refine swp_block ?_
    -- loop
    have hl : a.length = b.length := by
      have hc : (((strRows a).length : Int) != ((strRows b).length : Int)) = false := hc
      rw [strRows_len, strRows_len] at hc
      simp at hc; omega
    refine swp_loopF (F := fun k : Nat => { t := upd (upd (upd (upd (fun _ => .any) 0 (.d (.sl s (strRows a)))) 1 (.d (.sl s' (strRows b)))) 12 (.d (.v (.int .i64 a.length)))) 13 (.d (.v (.int .i64 k))), n := 26, h := fun _ => .dead, nx := 0 })
      (fun k => k ≤ a.length ∧ ∀ (j : Nat) (h : j < a.length) (h' : j < b.length), j < k → strEq a[j] b[j] = true) (fun k => a.length - k) 0 ⟨Nat.zero_le _, fun _ _ _ h => by omega⟩ ?_ ?_
    · refine wk_of rfl (Nat.le_of_ble_eq_true rfl) (by rw [hB]; exact Nat.zero_le _) (tle_upd (le_eq rfl rfl) (tle_upd (le_eq (int_eq (by rw [strRows_len])) rfl) (tle_upd (le_eq rfl rfl) (tle_upd (le_eq rfl rfl) (tle_any _))))) (hle_dead _) (dead_none)
    rintro k ⟨hk, ha⟩
    refine swp_seq ?_
    refine swp_region ?_
    refine sops_go rfl (st_bin rfl rfl rfl rfl rfl ?_)
    refine sops_nil ?_
    refine swp_seq ?_
    -- cond
    refine swp_cond _ rfl (fun hc => ?_) (fun hc => ?_)
    · have hlt : k < a.length := by have := of_decide_eq_true hc; omega
      have hlt' : k < b.length := by omega
      refine swp_skip ?_
      refine swp_seq ?_
      refine swp_block ?_
      refine swp_seq ?_
      refine swp_region ?_
      refine sops_go rfl (st_move (v := .d _) rfl rfl rfl ?_)
      refine sops_go rfl (st_assign (v := .d _) rfl rfl rfl ?_)
      refine sops_nil ?_
      refine swp_seq ?_
      refine swp_regionQ 8 (by kernel_rfl) rfl rfl rfl ?_
      first | refine h0_go rfl (st_move (v := .d _) rfl rfl rfl ⟨_, rfl, ?_⟩) | refine h0_go rfl (st_move (v := .own _ _ _ _ _) rfl rfl rfl ⟨_, rfl, ?_⟩)
      refine h0_go rfl (st_move (v := .d _) rfl rfl rfl ⟨_, rfl, ?_⟩)
      -- hand: indexAddr 23 t16 t17
      refine h0_go rfl (so_indexSl rfl rfl rfl rfl rfl rfl rfl (strRows_all _) (by omega) (by rw [strRows_len]; omega) (strRows_get _ _ hlt) ⟨_, rfl, ?_⟩)
      refine h0_go rfl (so_load (v := .d _) rfl rfl rfl rfl rfl rfl rfl rfl ⟨_, rfl, ?_⟩)
      first | refine h0_go rfl (st_move (v := .d _) rfl rfl rfl ⟨_, rfl, ?_⟩) | refine h0_go rfl (st_move (v := .own _ _ _ _ _) rfl rfl rfl ⟨_, rfl, ?_⟩)
      refine h0_go rfl (st_move (v := .d _) rfl rfl rfl ⟨_, rfl, ?_⟩)
      -- hand: indexAddr 23 t20 t21
      refine h0_go rfl (so_indexSl rfl rfl rfl rfl rfl rfl rfl (strRows_all _) (by omega) (by rw [strRows_len]; omega) (strRows_get _ _ hlt') ⟨_, rfl, ?_⟩)
      refine h0_go rfl (so_load (v := .d _) rfl rfl rfl rfl rfl rfl rfl rfl ⟨_, rfl, ?_⟩)
      refine h0_nil ?_
      refine sops_go rfl (st_bin rfl rfl rfl rfl rfl ?_)
      refine sops_nil ?_
      -- cond
      refine swp_cond _ rfl (fun hc => ?_) (fun hc => ?_)
      · refine swp_seq ?_
        refine swp_region ?_
        refine sops_go rfl (st_assign (v := .d _) rfl rfl rfl ?_)
        refine sops_nil ?_
        refine swp_ret ?_
        with_reducible refine inblk_ret ?_
        with_reducible refine after_ret ?_
        with_reducible refine after_ret ?_
        with_reducible refine inblk_ret ?_
        with_reducible refine after_ret ?_
        -- ret
        refine ⟨.inl rfl, .inl ⟨4, rfl, ?_⟩⟩
        rw [rowsEq_at strEq a b hl k hlt hlt' (by simpa [strEq] using hc)]
        exact ra_d (keeps_v _)
      · refine swp_skip ?_
        refine swp_region ?_
        refine sops_go rfl (st_bin rfl rfl rfl rfl rfl ?_)
        refine sops_go rfl (st_move (v := .d _) rfl rfl rfl ?_)
        refine sops_nil ?_
        -- loopend
        refine ⟨k + 1, ⟨hlt, fun j h h' hj => ?_⟩, by omega, ?_⟩
        · rcases Nat.lt_or_ge j k with h1 | h1
          · exact ha j h h' h1
          · obtain rfl : j = k := by omega
            simpa [strEq] using hc
        refine wk_of rfl (Nat.le_of_ble_eq_true rfl) (by rw [hB]; exact Nat.zero_le _) (tle_upd (le_eq (next_i64 hlt hlen) rfl) (tle_upd (le_eq rfl rfl) (tle_upd (le_eq rfl rfl) (tle_upd (le_eq rfl rfl) (tle_any _))))) (hle_dead _) (dead_none)
    · refine swp_exit ?_
      with_reducible refine after_exit ?_
      with_reducible refine after_exit ?_
      refine inblk_hit ?_
      refine swp_seq ?_
      refine swp_region ?_
      refine sops_go rfl (st_assign (v := .d _) rfl rfl rfl ?_)
      refine sops_nil ?_
      refine swp_ret ?_
      -- ret
      refine ⟨.inl rfl, .inl ⟨4, rfl, ?_⟩⟩
      rw [rowsEq_all strEq a b hl fun j h h' => ha j h h' (by have := of_decide_eq_false hc; omega)]
      exact ra_d (keeps_v _)

theorem equalFuncT_pure (s s' : Bool) (a b : List T) (f : FuncId) (caps : List AV) (p : T → T → Bool) (hf : ∀ x ∈ a, ∀ y ∈ b, Pure env f (.d x.d :: .d y.d :: caps) (.d (.v (.bool (p x y))))) (hcb : AV.bnds 0 caps = true) :
    Pure env 69 [.d (.sl s (T.rows a)), .d (.sl s' (T.rows b)), .fn f caps] (.d (.v (.bool (rowsEq p a b)))) := by
  refine pure_of_body Tryz.func69 rfl rfl rfl fun B hB => ?_
  refine swp_lenT (i := 0) rfl fun hlen => ?_
  rw [T.rows_len] at hlen
  refine swp_seq ?_
  refine swp_region ?_
  refine sops_go rfl (st_assign (v := .d _) rfl rfl rfl ?_)
  refine sops_nil ?_
  refine swp_seq ?_
  refine swp_seq ?_
  refine swp_region ?_
  first | refine sops_go rfl (st_move (v := .d _) rfl rfl rfl ?_) | refine sops_go rfl (st_move (v := .own _ _ _ _ _) rfl rfl rfl ?_)
  refine sops_go rfl (so_lenSl rfl rfl rfl rfl rfl ?_)
  first | refine sops_go rfl (st_move (v := .d _) rfl rfl rfl ?_) | refine sops_go rfl (st_move (v := .own _ _ _ _ _) rfl rfl rfl ?_)
  refine sops_go rfl (so_lenSl rfl rfl rfl rfl rfl ?_)
  refine sops_go rfl (st_bin rfl rfl rfl rfl rfl ?_)
  refine sops_nil ?_
  -- cond
  refine swp_cond _ rfl (fun hc => ?_) (fun hc => ?_)
  · refine swp_seq ?_
    refine swp_region ?_
    refine sops_go rfl (st_assign (v := .d _) rfl rfl rfl ?_)
    refine sops_nil ?_
    refine swp_ret ?_
    with_reducible refine after_ret ?_
    -- ret
    have hne : a.length ≠ b.length := by
      intro h
      have hc : (((T.rows a).length : Int) != ((T.rows b).length : Int)) = true := hc
      rw [T.rows_len, T.rows_len, h] at hc
      simp at hc
    refine ⟨.inl rfl, .inl ⟨6, rfl, ?_⟩⟩
    rw [rowsEq_len _ _ _ hne]; exact ra_d (keeps_v _)
  · refine swp_skip ?_
    refine swp_seq ?_
    refine swp_seq ?_
    refine swp_region ?_
    first | refine sops_go rfl (st_move (v := .d _) rfl rfl rfl ?_) | refine sops_go rfl (st_move (v := .own _ _ _ _ _) rfl rfl rfl ?_)
    refine sops_go rfl (so_lenSl rfl rfl rfl rfl rfl ?_)
    refine sops_go rfl (st_move (v := .d _) rfl rfl rfl ?_)
    refine sops_nil ?_
    refine swp_block ?_
    -- loop
    have hl : a.length = b.length := by
      have hc : (((T.rows a).length : Int) != ((T.rows b).length : Int)) = false := hc
      rw [T.rows_len, T.rows_len] at hc
      simp at hc; omega
    refine swp_loopF (F := fun k : Nat => { t := upd (upd (upd (upd (upd (fun _ => .any) 1 (.d (.sl s' (T.rows b)))) 2 (.fn f caps)) 15 (.d (.sl s (T.rows a)))) 16 (.d (.v (.int .i64 a.length)))) 17 (.d (.v (.int .i64 k))), n := 32, h := fun _ => .dead, nx := 0 })
      (fun k => k ≤ a.length ∧ ∀ (j : Nat) (h : j < a.length) (h' : j < b.length), j < k → p a[j] b[j] = true) (fun k => a.length - k) 0 ⟨Nat.zero_le _, fun _ _ _ h => by omega⟩ ?_ ?_
    · refine wk_of rfl (Nat.le_of_ble_eq_true rfl) (by rw [hB]; exact Nat.zero_le _) (tle_upd (le_eq rfl rfl) (tle_upd (le_eq (int_eq (by rw [T.rows_len])) rfl) (tle_upd (le_eq rfl rfl) (tle_upd (le_eq rfl hcb) (tle_upd (le_eq rfl rfl) (tle_any _)))))) (hle_dead _) (dead_none)
    rintro k ⟨hk, ha⟩
    refine swp_seq ?_
    refine swp_region ?_
    refine sops_go rfl (st_bin rfl rfl rfl rfl rfl ?_)
    refine sops_nil ?_
    refine swp_seq ?_
    -- cond
    refine swp_cond _ rfl (fun hc => ?_) (fun hc => ?_)
    · have hlt : k < a.length := by have := of_decide_eq_true hc; omega
      have hlt' : k < b.length := by omega
      refine swp_skip ?_
      refine swp_seq ?_
      refine swp_block ?_
      refine swp_seq ?_
      refine swp_region ?_
      refine sops_go rfl (st_move (v := .d _) rfl rfl rfl ?_)
      -- hand: indexAddr 24 t15 t17
      refine sops_go rfl (so_indexSl rfl rfl rfl rfl rfl rfl rfl (T.rows_all _) (by omega) (by rw [T.rows_len]; omega) (T.rows_get _ _ hlt) ?_)
      have hfx := hf _ (List.getElem_mem hlt) _ (List.getElem_mem hlt')
      have hat := rowsEq_at p a b hl k hlt hlt'
      have hgo : p a[k] b[k] = true → ∀ (j : Nat) (h : j < a.length) (h' : j < b.length), j < k + 1 → p a[j] b[j] = true := fun hp j h h' hj => by
        rcases Nat.lt_or_ge j k with h1 | h1
        · exact ha j h h' h1
        · obtain rfl : j = k := by omega
          exact hp
      have gy := T.rows_get b k hlt'
      generalize b[k] = y at hfx hat hgo gy
      generalize a[k] = x at hfx hat hgo ⊢
      obtain ⟨a1, a2, a3⟩ := x
      obtain ⟨b1, b2, b3⟩ := y
      first | refine sops_go rfl (so_load (v := .d (.agg [_, _, _])) rfl rfl rfl rfl rfl rfl rfl rfl ?_) | refine sops_go rfl (so_load (v := .agg [_, _, _]) rfl rfl rfl rfl rfl rfl rfl rfl ?_)
      refine sops_go rfl (so_alloc (cs := [_, _, _]) rfl rfl rfl rfl ?_)
      refine sops_go rfl (st_assign (v := .d _) rfl rfl rfl ?_)
      refine sops_go rfl (so_store rfl rfl rfl rfl rfl rfl rfl rfl rfl (zs := [_, _, _]) rfl ?_)
      refine sops_nil ?_
      refine swp_seq ?_
      refine swp_region ?_
      first | refine sops_go rfl (st_move (v := .d _) rfl rfl rfl ?_) | refine sops_go rfl (st_move (v := .own _ _ _ _ _) rfl rfl rfl ?_)
      refine sops_go rfl (st_move (v := .d _) rfl rfl rfl ?_)
      -- hand: indexAddr 24 t22 t23
      refine sops_go rfl (so_indexSl rfl rfl rfl rfl rfl rfl rfl (T.rows_all _) (by omega) (by rw [T.rows_len]; omega) gy ?_)
      first | refine sops_go rfl (so_load (v := .d (.agg [_, _, _])) rfl rfl rfl rfl rfl rfl rfl rfl ?_) | refine sops_go rfl (so_load (v := .agg [_, _, _]) rfl rfl rfl rfl rfl rfl rfl rfl ?_)
      refine sops_go rfl (so_alloc (cs := [_, _, _]) rfl rfl rfl rfl ?_)
      refine sops_go rfl (so_store rfl rfl rfl rfl rfl rfl rfl rfl rfl (zs := [_, _, _]) rfl ?_)
      refine sops_nil ?_
      refine swp_seq ?_
      refine swp_region ?_
      first | refine sops_go rfl (st_move (v := .fn _ _) rfl rfl rfl ?_) | refine sops_go rfl (st_move (v := .d _) rfl rfl rfl ?_)
      first | refine sops_go rfl (so_load (v := .d (.agg [_, _, _])) rfl rfl rfl rfl rfl rfl rfl rfl ?_) | refine sops_go rfl (so_load (v := .agg [_, _, _]) rfl rfl rfl rfl rfl rfl rfl rfl ?_)
      first | refine sops_go rfl (so_load (v := .d (.agg [_, _, _])) rfl rfl rfl rfl rfl rfl rfl rfl ?_) | refine sops_go rfl (so_load (v := .agg [_, _, _]) rfl rfl rfl rfl rfl rfl rfl rfl ?_)
      -- hand: CALL t26(t27, t28)
      refine sops_go rfl (st_call rfl rfl (hfx) ⟨na_d _, na_d _, nas_free hcb⟩ rfl ?_)
      refine sops_go rfl (st_not rfl rfl rfl ?_)
      refine sops_nil ?_
      -- cond
      refine swp_cond _ rfl (fun hc => ?_) (fun hc => ?_)
      · refine swp_seq ?_
        refine swp_region ?_
        refine sops_go rfl (st_assign (v := .d _) rfl rfl rfl ?_)
        refine sops_nil ?_
        refine swp_ret ?_
        with_reducible refine inblk_ret ?_
        with_reducible refine after_ret ?_
        with_reducible refine after_ret ?_
        with_reducible refine inblk_ret ?_
        with_reducible refine after_ret ?_
        -- ret
        refine ⟨.inl rfl, .inl ⟨6, rfl, ?_⟩⟩
        rw [hat (by simpa using hc)]
        exact ra_d (keeps_v _)
      · refine swp_skip ?_
        refine swp_region ?_
        refine sops_go rfl (st_bin rfl rfl rfl rfl rfl ?_)
        refine sops_go rfl (st_move (v := .d _) rfl rfl rfl ?_)
        refine sops_nil ?_
        -- loopend
        refine ⟨k + 1, ⟨hlt, hgo (by simpa using hc)⟩, by omega, ?_⟩
        refine wk_of rfl (Nat.le_of_ble_eq_true rfl) (by rw [hB]; exact Nat.zero_le _) (tle_upd (le_eq (next_i64 hlt hlen) rfl) (tle_upd (le_eq rfl rfl) (tle_upd (le_eq rfl rfl) (tle_upd (le_eq rfl hcb) (tle_upd (le_eq rfl rfl) (tle_any _)))))) (hle_dead _) (dead_none)
    · refine swp_exit ?_
      with_reducible refine after_exit ?_
      with_reducible refine after_exit ?_
      refine inblk_hit ?_
      refine swp_seq ?_
      refine swp_region ?_
      refine sops_go rfl (st_assign (v := .d _) rfl rfl rfl ?_)
      refine sops_nil ?_
      refine swp_ret ?_
      -- ret
      refine ⟨.inl rfl, .inl ⟨6, rfl, ?_⟩⟩
      rw [rowsEq_all p a b hl fun j h h' => ha j h h' (by have := of_decide_eq_false hc; omega)]
      exact ra_d (keeps_v _)
end Go.Proofs.YtdcpnpcmgfmenaaGreatDoor
/-
  Walks: where names stand. Conditions: none.
-/
set_option linter.unusedVariables false
set_option maxRecDepth 100000
namespace Go.Proofs.YtdcpnpcmgfmenaaGreatDoor
open Go Go.Proofs.YtdcpnpcmgfmenaaGreatDoor.Lg

/-- A map, written to. -/
def mput : List (ByteArray × Nat) → ByteArray → Nat → List (ByteArray × Nat)
  | [], s, i => [(s, i)]
  | p :: r, s, i => if p.1 = s then (s, i) :: r else p :: mput r s i
def encM (es : List (ByteArray × Nat)) : List (Value × Value) := es.map fun p => (.string p.1, .int .i64 p.2)
def placesFrom : List ByteArray → Nat → List (ByteArray × Nat) → List (ByteArray × Nat)
  | [], _, es => es
  | s :: r, i, es => placesFrom r (i + 1) (mput es s i)
def placesOf (l : List ByteArray) : List (ByteArray × Nat) := placesFrom l 0 []

theorem mput_new : ∀ (es : List (ByteArray × Nat)) (s : ByteArray) (i : Nat), (∀ p ∈ es, p.1 ≠ s) → mput es s i = es ++ [(s, i)]
  | [], _, _, _ => rfl
  | p :: r, s, i, h => by
    simp only [mput]
    rw [if_neg (h p (by simp)), mput_new r s i (fun q hq => h q (by simp [hq]))]; rfl
theorem mput_old : ∀ (es : List (ByteArray × Nat)) (s : ByteArray) (i j v : Nat), (es.map (·.1)).Nodup → es[j]? = some (s, v) → mput es s i = es.set j (s, i)
  | p :: r, s, i, 0, v, _, h => by
    simp at h; subst h
    simp [mput]
  | p :: r, s, i, j + 1, v, hn, h => by
    have h' : r[j]? = some (s, v) := by simpa using h
    have hne : p.1 ≠ s := fun e => by
      have := (List.nodup_cons.1 (show (p.1 :: r.map (·.1)).Nodup from hn)).1
      exact this (List.mem_map.2 ⟨(s, v), List.mem_of_getElem? h', e.symm⟩)
    simp only [mput, if_neg hne, List.set_cons_succ]
    rw [mput_old r s i j v (List.nodup_cons.1 (show (p.1 :: r.map (·.1)).Nodup from hn)).2 h']
theorem mput_keys : ∀ (es : List (ByteArray × Nat)) (s : ByteArray) (i : Nat), (es.map (·.1)).Nodup → ((mput es s i).map (·.1)).Nodup ∧ ∀ x, x ∈ (mput es s i).map (·.1) ↔ x = s ∨ x ∈ es.map (·.1)
  | [], s, i, _ => by simp [mput]
  | p :: r, s, i, h => by
    have h1 := List.nodup_cons.1 (show (p.1 :: r.map (·.1)).Nodup by simpa using h)
    simp only [mput]
    split
    · rename_i e
      subst e
      refine ⟨by simpa using h, fun x => by simp⟩
    · rename_i e
      obtain ⟨g1, g2⟩ := mput_keys r s i h1.2
      refine ⟨?_, fun x => ?_⟩
      · simp only [List.map_cons, List.nodup_cons]
        refine ⟨fun hm => ?_, g1⟩
        rcases (g2 p.1).1 hm with h | h
        · exact e h
        · exact h1.1 h
      · simp only [List.map_cons, List.mem_cons, g2]
        constructor
        · rintro (h | h | h)
          · exact .inr (.inl h)
          · exact .inl h
          · exact .inr (.inr h)
        · rintro (h | h | h)
          · exact .inr (.inl h)
          · exact .inl h
          · exact .inr (.inr h)
theorem placesFrom_take : ∀ (l : List ByteArray) (i : Nat) (es : List (ByteArray × Nat)) (k : Nat) (h : k < l.length), placesFrom (l.take (k + 1)) i es = mput (placesFrom (l.take k) i es) l[k] (i + k)
  | s :: r, i, es, 0, _ => by simp [placesFrom]
  | s :: r, i, es, k + 1, h => by
    simp only [List.take_succ_cons, placesFrom, List.getElem_cons_succ]
    rw [placesFrom_take r (i + 1) _ k (by simpa using h)]
    congr 1; omega
theorem placesFrom_nodup : ∀ (l : List ByteArray) (i : Nat) (es : List (ByteArray × Nat)), (es.map (·.1)).Nodup → ((placesFrom l i es).map (·.1)).Nodup
  | [], _, _, h => h
  | s :: r, i, es, h => placesFrom_nodup r (i + 1) _ (mput_keys es s i h).1

def encA (es : List (ByteArray × Nat)) : List (Value × AV) := (encM es).map fun p => (p.1, .d (.v p.2))
theorem encA_get (es : List (ByteArray × Nat)) (j : Nat) (s : ByteArray) (v : AV) (h : (encA es)[j]? = some (.string s, v)) : ∃ n, es[j]? = some (s, n) := by
  simp only [encA, encM, List.getElem?_map, Option.map_map, Option.map_eq_some_iff] at h
  obtain ⟨p, hp, he⟩ := h
  simp only [Function.comp, Prod.mk.injEq, Value.string.injEq] at he
  exact ⟨p.2, by rw [hp, ← he.1]⟩
theorem encA_new {es : List (ByteArray × Nat)} {s : ByteArray} (h : ∀ p ∈ encA es, p.1 ≠ Value.string s) : ∀ p ∈ es, p.1 ≠ s := fun p hp he =>
  h (.string p.1, .d (.v (.int .i64 p.2))) (by simp only [encA, encM, List.map_map]; exact List.mem_map.2 ⟨p, hp, rfl⟩) (by rw [he])
theorem encA_keys (es : List (ByteArray × Nat)) : ∀ p ∈ encA es, Go.MapKept.IsKey .string p.1 := by
  intro p hp
  simp only [encA, encM, List.map_map] at hp
  obtain ⟨q, _, rfl⟩ := List.mem_map.1 hp
  trivial

theorem so_mapPut {B : Base} {Q : Exit → St → Prop} {σ : St} {o : Oper} {K : St → Prop} {E : Env} {t : TypeId} {x ix y : Operand} (ho : o.op = .mapUpdate t x ix y) {i : TI} (hi : E.ti t = some i) {kt et : TypeId} (ht : i.desc = .map kt et) {jk : TI} (hjk : E.ti kt = some jk) (hd' : jk.desc = .string)
    {l : Nat} (hx : ev E σ x = .map l) {es : List (ByteArray × Nat)} (hl : σ.h l = .map (encA es)) {s : ByteArray} (hk : ev E σ ix = .d (.v (.string s))) {n : Nat} (hy : ev E σ y = .d (.v (.int .i64 n))) (hd : dlt o.dst σ.n = true) (hnd : (es.map (·.1)).Nodup)
    (hK : K (St.put { σ with h := upd σ.h l (.map (encA (mput es s n))) } o.dst .any)) : Step .all E B o K Q σ := by
  refine so_mapUpdate ho hi ht hjk hx hl hk (by rw [hd']; trivial) (by rw [hd']; exact encA_keys es) hd (fun h0 => ?_) (fun j v h1 => ?_)
  · have e : encA es ++ [(.string s, ev E σ y)] = encA (mput es s n) := by
      rw [mput_new es s n (encA_new h0), hy]; simp [encA, encM]
    rw [e]; exact hK
  · obtain ⟨m, hm⟩ := encA_get es j s v h1
    have e : (encA es).set j (.string s, ev E σ y) = encA (mput es s n) := by
      rw [mput_old es s n j m hnd hm, hy]; simp [encA, encM, List.map_set]
    rw [e]; exact hK

theorem places_pure (s : Bool) (l : List ByteArray) : Pure env 32 [.d (.sl s (strRows l))] (.d (.map (encM (placesOf l)))) := by
  refine pure_of_body Tryz.func32 rfl rfl rfl fun B hB => ?_
  refine swp_lenT (i := 0) rfl fun hlen => ?_
  rw [strRows_len] at hlen
  refine swp_seq ?_
  refine swp_region ?_
  first | refine sops_go rfl (st_assign (v := .map _) rfl rfl rfl ?_) | refine sops_go rfl (st_assign (v := .d _) rfl rfl rfl ?_)
  refine sops_nil ?_
  refine swp_seq ?_
  refine swp_region ?_
  -- hand: makeMap 56 none
  refine sops_go rfl (so_makeMap rfl rfl ?_)
  first | refine sops_go rfl (st_assign (v := .map _) rfl rfl rfl ?_) | refine sops_go rfl (st_assign (v := .d _) rfl rfl rfl ?_)
  refine sops_nil ?_
  refine swp_seq ?_
  refine swp_seq ?_
  refine swp_region ?_
  first | refine sops_go rfl (st_move (v := .d _) rfl rfl rfl ?_) | refine sops_go rfl (st_move (v := .own _ _ _ _ _) rfl rfl rfl ?_)
  refine sops_go rfl (so_lenSl rfl rfl rfl rfl rfl ?_)
  refine sops_go rfl (st_move (v := .d _) rfl rfl rfl ?_)
  refine sops_nil ?_
  refine swp_block ?_
  -- loop
  refine swp_loopF (F := fun k : Nat => { t := upd (upd (upd (upd (fun _ => .any) 3 (.map 0)) 7 (.d (.sl s (strRows l)))) 8 (.d (.v (.int .i64 l.length)))) 9 (.d (.v (.int .i64 k))), n := 19, h := upd (fun _ => .dead) 0 (.map (encA (placesFrom (l.take k) 0 []))), nx := 1 })
    (fun k => k ≤ l.length) (fun k => l.length - k) 0 (Nat.zero_le _) ?_ ?_
  · refine wk_of rfl (Nat.le_of_ble_eq_true rfl) (by rw [hB]; exact Nat.zero_le _) (tle_upd (le_eq rfl rfl) (tle_upd (le_eq (int_eq (by rw [strRows_len])) rfl) (tle_upd (le_eq rfl rfl) (tle_upd (le_eq rfl rfl) (tle_any _))))) (hle_upd (.map _ _ rfl (by intro p hp; cases hp)) (hle_dead _)) (dead_upd (Nat.le_of_ble_eq_true rfl) (dead_none))
  intro k hk
  refine swp_seq ?_
  refine swp_region ?_
  refine sops_go rfl (st_bin rfl rfl rfl rfl rfl ?_)
  refine sops_nil ?_
  refine swp_seq ?_
  -- cond
  refine swp_cond _ rfl (fun hc => ?_) (fun hc => ?_)
  · have hlt : k < l.length := by have := of_decide_eq_true hc; omega
    refine swp_skip ?_
    refine swp_seq ?_
    refine swp_block ?_
    refine swp_seq ?_
    refine swp_region ?_
    refine sops_go rfl (st_move (v := .d _) rfl rfl rfl ?_)
    -- hand: indexAddr 23 t7 t9
    refine sops_go rfl (so_indexSl rfl rfl rfl rfl rfl rfl rfl (strRows_all _) (by omega) (by rw [strRows_len]; omega) (strRows_get _ _ hlt) ?_)
    refine sops_go rfl (so_load (v := .d _) rfl rfl rfl rfl rfl rfl rfl rfl ?_)
    refine sops_go rfl (st_assign (v := .d _) rfl rfl rfl ?_)
    refine sops_go rfl (st_assign (v := .d _) rfl rfl rfl ?_)
    refine sops_nil ?_
    refine swp_region ?_
    first | refine sops_go rfl (st_move (v := .map _) rfl rfl rfl ?_) | refine sops_go rfl (st_move (v := .d _) rfl rfl rfl ?_)
    refine sops_go rfl (st_move (v := .d _) rfl rfl rfl ?_)
    refine sops_go rfl (st_move (v := .d _) rfl rfl rfl ?_)
    -- hand: mapUpdate 56 t14 t15 t16
    have hnd := placesFrom_nodup (l.take k) 0 [] (by simp)
    have hput := placesFrom_take l 0 [] k hlt
    refine sops_go rfl (so_mapPut rfl rfl rfl rfl rfl rfl rfl rfl rfl rfl hnd ?_)
    refine sops_nil ?_
    refine swp_region ?_
    refine sops_go rfl (st_bin rfl rfl rfl rfl rfl ?_)
    refine sops_go rfl (st_move (v := .d _) rfl rfl rfl ?_)
    refine sops_nil ?_
    -- loopend
    refine ⟨k + 1, hlt, by omega, ?_⟩
    refine wk_of rfl (Nat.le_of_ble_eq_true rfl) (by rw [hB]; exact Nat.zero_le _) (tle_upd (le_eq (next_i64 hlt hlen) rfl) (tle_upd (le_eq rfl rfl) (tle_upd (le_eq rfl rfl) (tle_upd (le_eq rfl rfl) (tle_any _))))) (hle_upd (.map _ _ (by rw [hput, Nat.zero_add]) (by intro p hp; simp only [encA, encM, List.map_map] at hp; obtain ⟨q, _, rfl⟩ := List.mem_map.1 hp; rfl)) (hle_dead _)) (dead_upd (Nat.le_of_ble_eq_true rfl) (dead_none))
  · refine swp_exit ?_
    with_reducible refine after_exit ?_
    with_reducible refine after_exit ?_
    refine inblk_hit ?_
    refine swp_seq ?_
    refine swp_region ?_
    first | refine sops_go rfl (st_move (v := .map _) rfl rfl rfl ?_) | refine sops_go rfl (st_move (v := .d _) rfl rfl rfl ?_)
    first | refine sops_go rfl (st_assign (v := .map _) rfl rfl rfl ?_) | refine sops_go rfl (st_assign (v := .d _) rfl rfl rfl ?_)
    refine sops_nil ?_
    refine swp_ret ?_
    -- ret
    have : k = l.length := by have := of_decide_eq_false hc; omega
    refine ⟨.inl rfl, .inl ⟨2, rfl, ?_⟩⟩
    refine ra_map ?_
    show AO.map (encA (placesFrom (l.take k) 0 [])) = _
    rw [this, List.take_length]; rfl
end Go.Proofs.YtdcpnpcmgfmenaaGreatDoor
/-
  Walks: are texts names, no two alike? Conditions: none.
-/
set_option linter.unusedVariables false
set_option maxRecDepth 100000
namespace Go.Proofs.YtdcpnpcmgfmenaaGreatDoor
open Go Go.Proofs.YtdcpnpcmgfmenaaGreatDoor.Lg

/-- Names that have not been seen, one after another. -/
def namesOk : List ByteArray → List ByteArray → Bool
  | [], _ => true
  | s :: r, seen => if (hasS seen s || !utfOk s) = true then false else namesOk r (seen ++ [s])

theorem names_pure (s : Bool) (l : List ByteArray) (hf : ∀ n ∈ l, fits n) : Pure env 59 [.d (.sl s (strRows l))] (.d (.v (.bool (namesOk l [])))) := by
  refine pure_of_body Tryz.func59 rfl rfl rfl fun B hB => ?_
  refine swp_lenT (i := 0) rfl fun hlen => ?_
  rw [strRows_len] at hlen
  refine swp_seq ?_
  refine swp_region ?_
  refine sops_go rfl (st_assign (v := .d _) rfl rfl rfl ?_)
  refine sops_nil ?_
  refine swp_seq ?_
  refine swp_region ?_
  refine sops_go rfl (so_makeMap rfl rfl ?_)
  first | refine sops_go rfl (st_assign (v := .map _) rfl rfl rfl ?_) | refine sops_go rfl (st_assign (v := .d _) rfl rfl rfl ?_)
  refine sops_nil ?_
  refine swp_seq ?_
  refine swp_seq ?_
  refine swp_region ?_
  first | refine sops_go rfl (st_move (v := .d _) rfl rfl rfl ?_) | refine sops_go rfl (st_move (v := .own _ _ _ _ _) rfl rfl rfl ?_)
  refine sops_go rfl (so_lenSl rfl rfl rfl rfl rfl ?_)
  refine sops_go rfl (st_move (v := .d _) rfl rfl rfl ?_)
  refine sops_nil ?_
  refine swp_block ?_
  refine swp_loopF (F := fun k : Nat => { t := upd (upd (upd (upd (fun _ => .any) 3 (.map 0)) 7 (.d (.sl s (strRows l)))) 8 (.d (.v (.int .i64 l.length)))) 9 (.d (.v (.int .i64 k))), n := 24, h := upd (fun _ => .dead) 0 (.map (encS (l.take k))), nx := 1 })
    (fun k => k ≤ l.length ∧ namesOk l [] = namesOk (l.drop k) (l.take k)) (fun k => l.length - k) 0 ⟨Nat.zero_le _, rfl⟩ ?_ ?_
  · refine wk_of rfl (Nat.le_of_ble_eq_true rfl) (by rw [hB]; exact Nat.zero_le _) (tle_upd (le_eq rfl rfl) (tle_upd (le_eq (int_eq (by rw [strRows_len])) rfl) (tle_upd (le_eq rfl rfl) (tle_upd (le_eq rfl rfl) (tle_any _))))) (hle_upd (.map _ _ (rfl) (encS_bnd _ _)) (hle_dead _)) (dead_upd (Nat.le_of_ble_eq_true rfl) (dead_none))
  rintro k ⟨hk, ha⟩
  refine swp_seq ?_
  refine swp_region ?_
  refine sops_go rfl (st_bin rfl rfl rfl rfl rfl ?_)
  refine sops_nil ?_
  refine swp_seq ?_
  refine swp_cond _ rfl (fun hc10 => ?_) (fun hc10 => ?_)
  · have hlt : k < l.length := by have := of_decide_eq_true hc10; omega
    rw [List.drop_eq_getElem_cons hlt, namesOk] at ha
    refine swp_skip ?_
    refine swp_seq ?_
    refine swp_block ?_
    refine swp_seq ?_
    refine swp_region ?_
    refine sops_go rfl (so_indexSl rfl rfl rfl rfl rfl rfl rfl (strRows_all _) (by omega) (by rw [strRows_len]; omega) (strRows_get _ _ hlt) ?_)
    refine sops_go rfl (so_load (v := .d _) rfl rfl rfl rfl rfl rfl rfl rfl ?_)
    refine sops_go rfl (st_assign (v := .d _) rfl rfl rfl ?_)
    refine sops_nil ?_
    refine swp_seq ?_
    refine swp_seq ?_
    refine swp_region ?_
    first | refine sops_go rfl (st_move (v := .map _) rfl rfl rfl ?_) | refine sops_go rfl (st_move (v := .d _) rfl rfl rfl ?_)
    refine sops_go rfl (st_move (v := .d _) rfl rfl rfl ?_)
    refine sops_go rfl (so_setHas rfl rfl rfl rfl rfl rfl rfl rfl rfl rfl rfl ?_)
    refine sops_go rfl (st_move (v := .d _) rfl rfl rfl ?_)
    refine' sops_or (d := 16) (p := 20) [17, 18, 19] 4 rfl rfl rfl (fun hb16 => ?a16) (fun hb16 => ?b16) ?_
    case a16 =>
      refine sops_yes rfl rfl rfl rfl (st_move (v := .d _) rfl rfl rfl ?_)
      refine sops_yes rfl rfl rfl rfl (st_call rfl rfl (valid_pure _ (hf _ (List.getElem_mem hlt))) ⟨na_d _, trivial⟩ rfl ?_)
      refine sops_yes rfl rfl rfl rfl (st_not rfl rfl rfl ?_)
      refine sops_go rfl (st_pick (v := .d _) rfl rfl rfl rfl ?_)
      refine sops_nil ?_
      exact ⟨rfl, rfl, rfl, rfl, [_, _, _], rfl, rfl⟩
    case b16 =>
      refine sops_no rfl rfl rfl rfl rfl ?_
      refine sops_no rfl rfl rfl rfl rfl ?_
      refine sops_no rfl rfl rfl rfl rfl ?_
      refine sops_go rfl (st_pick (v := .d _) rfl rfl rfl rfl ?_)
      refine sops_nil ?_
      exact ⟨rfl, rfl, rfl, rfl, [_, _, _], rfl, rfl⟩
    refine sops_nil ?_
    refine swp_cond _ rfl (fun hc20 => ?_) (fun hc20 => ?_)
    · rw [if_pos hc20] at ha
      refine swp_seq ?_
      refine swp_region ?_
      refine sops_go rfl (st_assign (v := .d _) rfl rfl rfl ?_)
      refine sops_nil ?_
      refine swp_ret ?_
      with_reducible refine after_ret ?_
      with_reducible refine inblk_ret ?_
      with_reducible refine after_ret ?_
      with_reducible refine after_ret ?_
      with_reducible refine inblk_ret ?_
      with_reducible refine after_ret ?_
      exact fin_b rfl rfl ha
    · rw [if_neg (by rw [hc20]; simp)] at ha
      have hnew := (Bool.or_eq_false_iff.1 hc20).1
      refine swp_skip ?_
      refine swp_region ?_
      first | refine sops_go rfl (st_move (v := .map _) rfl rfl rfl ?_) | refine sops_go rfl (st_move (v := .d _) rfl rfl rfl ?_)
      refine sops_go rfl (st_move (v := .d _) rfl rfl rfl ?_)
      refine sops_go rfl (so_setPut rfl rfl rfl rfl rfl rfl rfl rfl rfl rfl hnew ?_)
      refine sops_nil ?_
      refine swp_region ?_
      refine sops_go rfl (st_bin rfl rfl rfl rfl rfl ?_)
      refine sops_go rfl (st_move (v := .d _) rfl rfl rfl ?_)
      refine sops_nil ?_
      refine ⟨k + 1, ⟨hlt, by rw [ha, List.take_succ_eq_append_getElem hlt]⟩, by omega, ?_⟩
      refine wk_of rfl (Nat.le_of_ble_eq_true rfl) (by rw [hB]; exact Nat.zero_le _) (tle_upd (le_eq (next_i64 hlt hlen) rfl) (tle_upd (le_eq rfl rfl) (tle_upd (le_eq rfl rfl) (tle_upd (le_eq rfl rfl) (tle_any _))))) (hle_upd (.map _ _ ((by rw [List.take_succ_eq_append_getElem hlt])) (encS_bnd _ _)) (hle_dead _)) (dead_upd (Nat.le_of_ble_eq_true rfl) (dead_none))
  · have he : k = l.length := by have := of_decide_eq_false hc10; omega
    rw [he, List.drop_length] at ha
    refine swp_exit ?_
    with_reducible refine after_exit ?_
    with_reducible refine after_exit ?_
    refine inblk_hit ?_
    refine swp_seq ?_
    refine swp_region ?_
    refine sops_go rfl (st_assign (v := .d _) rfl rfl rfl ?_)
    refine sops_nil ?_
    refine swp_ret ?_
    exact fin_b rfl rfl ha
end Go.Proofs.YtdcpnpcmgfmenaaGreatDoor
/-
  Walks: is a struct a value? And its limits. Conditions: none.
-/
set_option linter.unusedVariables false
set_option maxRecDepth 100000
namespace Go.Proofs.YtdcpnpcmgfmenaaGreatDoor
open Go Go.Proofs.YtdcpnpcmgfmenaaGreatDoor.Lg

mutual
/-- No text is longer than a text may be. -/
def V.fit : V → Prop
  | .mk _ _ _ digits _ _ text names list => fits digits ∧ fits text ∧ (∀ n ∈ names, fits n) ∧ V.fitL list
def V.fitL : List V → Prop
  | [] => True
  | x :: r => x.fit ∧ V.fitL r
end
theorem V.fitL_iff : ∀ l : List V, V.fitL l ↔ ∀ x ∈ l, x.fit
  | [] => by simp [V.fitL]
  | x :: r => by rw [V.fitL, V.fitL_iff r]; simp

/-- Is something left that may not be? -/
def V.bad (ok flag neg : Bool) (digits : ByteArray) (exp bits : Int) (text : ByteArray) (nn nl : Nat) : Bool :=
  (((((!ok || flag) || !((neg == false) && ((digits.toList == noText.toList) && ((exp == 0) && true)))) || (bits != 0)) || !(text.toList == noText.toList)) || decide ((nn : Int) > 0)) || decide ((nl : Int) > 0)
mutual
def V.formed : V → Bool
  | .mk kind flag neg digits exp bits text names list =>
    (if kind = 1 then !(V.bad true flag neg digits exp bits text names.length list.length)
    else if kind = 2 then !(V.bad true false neg digits exp bits text names.length list.length)
    else if kind = 3 then !(V.bad (numCheck neg digits exp == 0) flag false noText 0 bits text names.length list.length)
    else if kind = 4 then !(V.bad true flag neg digits exp 0 text names.length list.length)
    else if kind = 5 then !(V.bad (utfOk text) flag neg digits exp bits noText names.length list.length)
    else if kind = 6 then !(V.bad true flag neg digits exp bits noText names.length list.length)
    else if kind = 7 then !(V.bad true flag neg digits exp bits text names.length 0)
    else if kind = 8 then !(V.bad (((names.length : Int) == (list.length : Int)) && namesOk names []) flag neg digits exp bits text 0 0)
    else if kind = 9 then !(V.bad (((list.length : Int) == 1) && utfOk text) flag neg digits exp bits noText names.length 0)
    else false) && V.formedL list
def V.formedL : List V → Bool
  | [] => true
  | x :: r => x.formed && V.formedL r
end
theorem V.formedL_any : ∀ l : List V, V.formedL l = !(l.any fun x => !x.formed)
  | [] => rfl
  | x :: r => by rw [V.formedL, V.formedL_any r]; simp

theorem formedV1_pure (x : V) (hx : Pure env 39 [.d x.d] (.d (.v (.bool x.formed)))) : Pure env 60 [.d x.d] (.d (.v (.bool (!x.formed)))) := by
  rw [V.df_d] at hx ⊢
  obtain ⟨kind, flag, neg, digits, exp, bits, text, names, list⟩ := x
  refine pure_of_body Tryz.func60 rfl rfl rfl fun B hB => ?_
  refine swp_seq ?_
  refine swp_region ?_
  refine sops_go rfl (so_box (cs := [_, _, _, _, _, _, _, _, _]) rfl rfl rfl ?_)
  refine sops_go rfl (st_assign (v := .d _) rfl rfl rfl ?_)
  refine sops_nil ?_
  refine swp_seq ?_
  refine swp_region ?_
  first | refine sops_go rfl (so_load (v := .d (.agg [_, _, _, _, _, _, _, _, _])) rfl rfl rfl rfl rfl rfl rfl rfl ?_) | refine sops_go rfl (so_load (v := .agg [_, _, _, _, _, _, _, _, _]) rfl rfl rfl rfl rfl rfl rfl rfl ?_)
  refine sops_go rfl (st_call rfl rfl (hx) ⟨na_d _, trivial⟩ rfl ?_)
  refine sops_go rfl (st_not rfl rfl rfl ?_)
  refine sops_go rfl (st_assign (v := .d _) rfl rfl rfl ?_)
  refine sops_nil ?_
  refine swp_ret ?_
  exact fin_b rfl rfl rfl

structure Rest where
  ok : Bool
  flag : Bool
  neg : Bool
  digits : ByteArray
  exp : Int
  bits : Int
  text : ByteArray
  sn : Bool
  names : List ByteArray
  sl : Bool
  list : List V
def Rest.bad (r : Rest) : Bool := V.bad r.ok r.flag r.neg r.digits r.exp r.bits r.text r.names.length r.list.length

theorem formedV_pure (t : V) : t.fit → ∀ s, Pure env 39 [.d (t.df s)] (.d (.v (.bool t.formed))) := by
  revert t
  apply V.ind
  intro kind flag neg digits exp bits text names list ih hfit s
  obtain ⟨hf1, hf2, hf3, hf4⟩ := hfit
  refine pure_of_body Tryz.func39 rfl rfl rfl fun B hB => ?_
  let P : Rest → Prop := fun r => (V.mk kind flag neg digits exp bits text names list).formed = (!(V.bad r.ok r.flag r.neg r.digits r.exp r.bits r.text r.names.length r.list.length) && V.formedL list)
  refine swp_seq ?_
  refine swp_region ?_
  refine sops_go rfl (so_box (cs := [_, _, _, _, _, _, _, _, _]) rfl rfl rfl ?_)
  refine sops_go rfl (st_assign (v := .d _) rfl rfl rfl ?_)
  refine sops_nil ?_
  refine swp_seq ?_
  refine swp_region ?_
  first | refine sops_go rfl (so_load (v := .d (.agg [_, _, _, _, _, _, _, _, _])) rfl rfl rfl rfl rfl rfl rfl rfl ?_) | refine sops_go rfl (so_load (v := .agg [_, _, _, _, _, _, _, _, _]) rfl rfl rfl rfl rfl rfl rfl rfl ?_)
  refine sops_go rfl (so_alloc (cs := [_, _, _, _, _, _, _, _, _]) rfl rfl rfl rfl ?_)
  refine sops_go rfl (so_store rfl rfl rfl rfl rfl rfl rfl rfl rfl (zs := [_, _, _, _, _, _, _, _, _]) rfl ?_)
  refine sops_nil ?_
  refine swp_seq ?_
  refine swp_region ?_
  refine sops_go rfl (st_assign (v := .d _) rfl rfl rfl ?_)
  refine sops_nil ?_
  refine swp_seqF (F := fun r : Rest => ({ t := upd (upd (upd (fun _ => .any) 1 (.p 0 0 0)) 3 (.p 1 0 0)) 4 (.d (.v (.bool r.ok))), n := 103, h := upd (upd (fun _ => .dead) 0 (.cells [.any, .any, .any, .any, .any, .any, .any, .any, .d (.sl s (V.rows list))])) 1 (.cells [.any, .d (.v (.bool r.flag)), .d (.v (.bool r.neg)), .d (.v (.string r.digits)), .d (.v (.int .i64 r.exp)), .d (.v (.int .u64 r.bits)), .d (.v (.string r.text)), .d (.sl r.sn (strRows r.names)), .d (.sl r.sl (V.rows r.list))]), nx := 2 } : St)) (P := P) ?_ ?_
  · refine swp_seq ?_
    refine swp_region ?_
    first | refine sops_go rfl (so_fieldAddr (v := .p _ _ _) rfl rfl rfl rfl rfl rfl rfl rfl rfl rfl ?_) | refine sops_go rfl (so_fieldAddr (v := .dp _ _) rfl rfl rfl rfl rfl rfl rfl rfl rfl rfl ?_) | refine sops_go rfl (so_fieldAddr (v := .pe _ _ _ _ _) rfl rfl rfl rfl rfl rfl rfl rfl rfl rfl ?_)
    refine sops_go rfl (so_load (v := .d _) rfl rfl rfl rfl rfl rfl rfl rfl ?_)
    refine sops_nil ?_
    refine swp_block ?_
    refine swp_seq ?_
    refine swp_region ?_
    refine sops_go rfl (st_bin rfl rfl rfl rfl rfl ?_)
    refine sops_go rfl (st_assign (v := .d _) rfl rfl rfl ?_)
    refine sops_nil ?_
    refine swp_cond _ rfl (fun hc8 => ?_) (fun hc8 => ?_)
    · let r : Rest := ⟨true, flag, neg, digits, exp, bits, text, s, names, s, list⟩
      have hP : P r := by show V.formed _ = _; rw [V.formed, show kind = 1 by simpa using hc8]; rfl
      refine swp_skip ?_
      refine ⟨r, hP, ?_⟩
      refine wk_of rfl (Nat.le_of_ble_eq_true rfl) (by rw [hB]; exact Nat.zero_le _) (tle_upd (le_eq rfl rfl) (tle_upd (le_eq rfl rfl) (tle_upd (le_eq rfl rfl) (tle_any _)))) (hle_upd (.cells _ _ ⟨le_any _, le_eq rfl rfl, le_eq rfl rfl, le_eq rfl rfl, le_eq rfl rfl, le_eq rfl rfl, le_eq rfl rfl, (by first | exact le_eq rfl rfl | exact le_nil), (by first | exact le_eq rfl rfl | exact le_nil), trivial⟩) (hle_upd (.cells _ _ ⟨le_any _, le_any _, le_any _, le_any _, le_any _, le_any _, le_any _, le_any _, le_eq rfl rfl, trivial⟩) (hle_dead _))) (dead_upd (Nat.le_of_ble_eq_true rfl) (dead_upd (Nat.le_of_ble_eq_true rfl) (dead_none)))
    · refine swp_seq ?_
      refine swp_region ?_
      refine sops_go rfl (st_bin rfl rfl rfl rfl rfl ?_)
      refine sops_go rfl (st_assign (v := .d _) rfl rfl rfl ?_)
      refine sops_nil ?_
      refine swp_cond _ rfl (fun hc10 => ?_) (fun hc10 => ?_)
      · let r : Rest := ⟨true, false, neg, digits, exp, bits, text, s, names, s, list⟩
        have hP : P r := by show V.formed _ = _; rw [V.formed, show kind = 2 by simpa using hc10]; rfl
        refine swp_region ?_
        first | refine sops_go rfl (so_fieldAddr (v := .p _ _ _) rfl rfl rfl rfl rfl rfl rfl rfl rfl rfl ?_) | refine sops_go rfl (so_fieldAddr (v := .dp _ _) rfl rfl rfl rfl rfl rfl rfl rfl rfl rfl ?_) | refine sops_go rfl (so_fieldAddr (v := .pe _ _ _ _ _) rfl rfl rfl rfl rfl rfl rfl rfl rfl rfl ?_)
        refine sops_go rfl (so_store rfl rfl rfl rfl rfl rfl rfl rfl rfl (zs := [_, _, _, _, _, _, _, _, _]) rfl ?_)
        refine sops_nil ?_
        refine ⟨r, hP, ?_⟩
        refine wk_of rfl (Nat.le_of_ble_eq_true rfl) (by rw [hB]; exact Nat.zero_le _) (tle_upd (le_eq rfl rfl) (tle_upd (le_eq rfl rfl) (tle_upd (le_eq rfl rfl) (tle_any _)))) (hle_upd (.cells _ _ ⟨le_any _, le_eq rfl rfl, le_eq rfl rfl, le_eq rfl rfl, le_eq rfl rfl, le_eq rfl rfl, le_eq rfl rfl, (by first | exact le_eq rfl rfl | exact le_nil), (by first | exact le_eq rfl rfl | exact le_nil), trivial⟩) (hle_upd (.cells _ _ ⟨le_any _, le_any _, le_any _, le_any _, le_any _, le_any _, le_any _, le_any _, le_eq rfl rfl, trivial⟩) (hle_dead _))) (dead_upd (Nat.le_of_ble_eq_true rfl) (dead_upd (Nat.le_of_ble_eq_true rfl) (dead_none)))
      · refine swp_seq ?_
        refine swp_region ?_
        refine sops_go rfl (st_bin rfl rfl rfl rfl rfl ?_)
        refine sops_go rfl (st_assign (v := .d _) rfl rfl rfl ?_)
        refine sops_nil ?_
        refine swp_cond _ rfl (fun hc13 => ?_) (fun hc13 => ?_)
        · let r : Rest := ⟨(numCheck neg digits exp == 0), flag, false, noText, 0, bits, text, s, names, s, list⟩
          have hP : P r := by show V.formed _ = _; rw [V.formed, show kind = 3 by simpa using hc13]; rfl
          refine swp_seq ?_
          refine swp_region ?_
          first | refine sops_go rfl (so_fieldAddr (v := .p _ _ _) rfl rfl rfl rfl rfl rfl rfl rfl rfl rfl ?_) | refine sops_go rfl (so_fieldAddr (v := .dp _ _) rfl rfl rfl rfl rfl rfl rfl rfl rfl rfl ?_) | refine sops_go rfl (so_fieldAddr (v := .pe _ _ _ _ _) rfl rfl rfl rfl rfl rfl rfl rfl rfl rfl ?_)
          first | refine sops_go rfl (so_load (v := .d (.agg [_, _, _])) rfl rfl rfl rfl rfl rfl rfl rfl ?_) | refine sops_go rfl (so_load (v := .agg [_, _, _]) rfl rfl rfl rfl rfl rfl rfl rfl ?_)
          refine sops_go rfl (st_call rfl rfl (numCheck_pure _ _ _ hf1) ⟨na_d _, trivial⟩ rfl ?_)
          refine sops_go rfl (st_bin rfl rfl rfl rfl rfl ?_)
          refine sops_go rfl (st_assign (v := .d _) rfl rfl rfl ?_)
          refine sops_nil ?_
          refine swp_region ?_
          first | refine sops_go rfl (so_build (v := .d (.agg [_, _, _])) rfl rfl rfl rfl rfl rfl rfl ?_) | refine sops_go rfl (so_build (v := .agg [_, _, _]) rfl rfl rfl rfl rfl rfl rfl ?_)
          first | refine sops_go rfl (so_fieldAddr (v := .p _ _ _) rfl rfl rfl rfl rfl rfl rfl rfl rfl rfl ?_) | refine sops_go rfl (so_fieldAddr (v := .dp _ _) rfl rfl rfl rfl rfl rfl rfl rfl rfl rfl ?_) | refine sops_go rfl (so_fieldAddr (v := .pe _ _ _ _ _) rfl rfl rfl rfl rfl rfl rfl rfl rfl rfl ?_)
          refine sops_go rfl (so_store rfl rfl rfl rfl rfl rfl rfl rfl rfl (zs := [_, _, _, _, _, _, _, _, _]) rfl ?_)
          refine sops_nil ?_
          refine ⟨r, hP, ?_⟩
          refine wk_of rfl (Nat.le_of_ble_eq_true rfl) (by rw [hB]; exact Nat.zero_le _) (tle_upd (le_eq rfl rfl) (tle_upd (le_eq rfl rfl) (tle_upd (le_eq rfl rfl) (tle_any _)))) (hle_upd (.cells _ _ ⟨le_any _, le_eq rfl rfl, le_eq rfl rfl, le_eq rfl rfl, le_eq rfl rfl, le_eq rfl rfl, le_eq rfl rfl, (by first | exact le_eq rfl rfl | exact le_nil), (by first | exact le_eq rfl rfl | exact le_nil), trivial⟩) (hle_upd (.cells _ _ ⟨le_any _, le_any _, le_any _, le_any _, le_any _, le_any _, le_any _, le_any _, le_eq rfl rfl, trivial⟩) (hle_dead _))) (dead_upd (Nat.le_of_ble_eq_true rfl) (dead_upd (Nat.le_of_ble_eq_true rfl) (dead_none)))
        · refine swp_seq ?_
          refine swp_region ?_
          refine sops_go rfl (st_bin rfl rfl rfl rfl rfl ?_)
          refine sops_go rfl (st_assign (v := .d _) rfl rfl rfl ?_)
          refine sops_nil ?_
          refine swp_cond _ rfl (fun hc21 => ?_) (fun hc21 => ?_)
          · let r : Rest := ⟨true, flag, neg, digits, exp, 0, text, s, names, s, list⟩
            have hP : P r := by show V.formed _ = _; rw [V.formed, show kind = 4 by simpa using hc21]; rfl
            refine swp_region ?_
            first | refine sops_go rfl (so_fieldAddr (v := .p _ _ _) rfl rfl rfl rfl rfl rfl rfl rfl rfl rfl ?_) | refine sops_go rfl (so_fieldAddr (v := .dp _ _) rfl rfl rfl rfl rfl rfl rfl rfl rfl rfl ?_) | refine sops_go rfl (so_fieldAddr (v := .pe _ _ _ _ _) rfl rfl rfl rfl rfl rfl rfl rfl rfl rfl ?_)
            refine sops_go rfl (so_store rfl rfl rfl rfl rfl rfl rfl rfl rfl (zs := [_, _, _, _, _, _, _, _, _]) rfl ?_)
            refine sops_nil ?_
            refine ⟨r, hP, ?_⟩
            refine wk_of rfl (Nat.le_of_ble_eq_true rfl) (by rw [hB]; exact Nat.zero_le _) (tle_upd (le_eq rfl rfl) (tle_upd (le_eq rfl rfl) (tle_upd (le_eq rfl rfl) (tle_any _)))) (hle_upd (.cells _ _ ⟨le_any _, le_eq rfl rfl, le_eq rfl rfl, le_eq rfl rfl, le_eq rfl rfl, le_eq rfl rfl, le_eq rfl rfl, (by first | exact le_eq rfl rfl | exact le_nil), (by first | exact le_eq rfl rfl | exact le_nil), trivial⟩) (hle_upd (.cells _ _ ⟨le_any _, le_any _, le_any _, le_any _, le_any _, le_any _, le_any _, le_any _, le_eq rfl rfl, trivial⟩) (hle_dead _))) (dead_upd (Nat.le_of_ble_eq_true rfl) (dead_upd (Nat.le_of_ble_eq_true rfl) (dead_none)))
          · refine swp_seq ?_
            refine swp_region ?_
            refine sops_go rfl (st_bin rfl rfl rfl rfl rfl ?_)
            refine sops_go rfl (st_assign (v := .d _) rfl rfl rfl ?_)
            refine sops_nil ?_
            refine swp_cond _ rfl (fun hc24 => ?_) (fun hc24 => ?_)
            · let r : Rest := ⟨(utfOk text), flag, neg, digits, exp, bits, noText, s, names, s, list⟩
              have hP : P r := by show V.formed _ = _; rw [V.formed, show kind = 5 by simpa using hc24]; rfl
              refine swp_seq ?_
              refine swp_region ?_
              first | refine sops_go rfl (so_fieldAddr (v := .p _ _ _) rfl rfl rfl rfl rfl rfl rfl rfl rfl rfl ?_) | refine sops_go rfl (so_fieldAddr (v := .dp _ _) rfl rfl rfl rfl rfl rfl rfl rfl rfl rfl ?_) | refine sops_go rfl (so_fieldAddr (v := .pe _ _ _ _ _) rfl rfl rfl rfl rfl rfl rfl rfl rfl rfl ?_)
              refine sops_go rfl (so_load (v := .d _) rfl rfl rfl rfl rfl rfl rfl rfl ?_)
              refine sops_go rfl (st_call rfl rfl (valid_pure _ hf2) ⟨na_d _, trivial⟩ rfl ?_)
              refine sops_go rfl (st_assign (v := .d _) rfl rfl rfl ?_)
              refine sops_nil ?_
              refine swp_region ?_
              first | refine sops_go rfl (so_fieldAddr (v := .p _ _ _) rfl rfl rfl rfl rfl rfl rfl rfl rfl rfl ?_) | refine sops_go rfl (so_fieldAddr (v := .dp _ _) rfl rfl rfl rfl rfl rfl rfl rfl rfl rfl ?_) | refine sops_go rfl (so_fieldAddr (v := .pe _ _ _ _ _) rfl rfl rfl rfl rfl rfl rfl rfl rfl rfl ?_)
              refine sops_go rfl (so_store rfl rfl rfl rfl rfl rfl rfl rfl rfl (zs := [_, _, _, _, _, _, _, _, _]) rfl ?_)
              refine sops_nil ?_
              refine ⟨r, hP, ?_⟩
              refine wk_of rfl (Nat.le_of_ble_eq_true rfl) (by rw [hB]; exact Nat.zero_le _) (tle_upd (le_eq rfl rfl) (tle_upd (le_eq rfl rfl) (tle_upd (le_eq rfl rfl) (tle_any _)))) (hle_upd (.cells _ _ ⟨le_any _, le_eq rfl rfl, le_eq rfl rfl, le_eq rfl rfl, le_eq rfl rfl, le_eq rfl rfl, le_eq rfl rfl, (by first | exact le_eq rfl rfl | exact le_nil), (by first | exact le_eq rfl rfl | exact le_nil), trivial⟩) (hle_upd (.cells _ _ ⟨le_any _, le_any _, le_any _, le_any _, le_any _, le_any _, le_any _, le_any _, le_eq rfl rfl, trivial⟩) (hle_dead _))) (dead_upd (Nat.le_of_ble_eq_true rfl) (dead_upd (Nat.le_of_ble_eq_true rfl) (dead_none)))
            · refine swp_seq ?_
              refine swp_region ?_
              refine sops_go rfl (st_bin rfl rfl rfl rfl rfl ?_)
              refine sops_go rfl (st_assign (v := .d _) rfl rfl rfl ?_)
              refine sops_nil ?_
              refine swp_cond _ rfl (fun hc30 => ?_) (fun hc30 => ?_)
              · let r : Rest := ⟨true, flag, neg, digits, exp, bits, noText, s, names, s, list⟩
                have hP : P r := by show V.formed _ = _; rw [V.formed, show kind = 6 by simpa using hc30]; rfl
                refine swp_region ?_
                first | refine sops_go rfl (so_fieldAddr (v := .p _ _ _) rfl rfl rfl rfl rfl rfl rfl rfl rfl rfl ?_) | refine sops_go rfl (so_fieldAddr (v := .dp _ _) rfl rfl rfl rfl rfl rfl rfl rfl rfl rfl ?_) | refine sops_go rfl (so_fieldAddr (v := .pe _ _ _ _ _) rfl rfl rfl rfl rfl rfl rfl rfl rfl rfl ?_)
                refine sops_go rfl (so_store rfl rfl rfl rfl rfl rfl rfl rfl rfl (zs := [_, _, _, _, _, _, _, _, _]) rfl ?_)
                refine sops_nil ?_
                refine ⟨r, hP, ?_⟩
                refine wk_of rfl (Nat.le_of_ble_eq_true rfl) (by rw [hB]; exact Nat.zero_le _) (tle_upd (le_eq rfl rfl) (tle_upd (le_eq rfl rfl) (tle_upd (le_eq rfl rfl) (tle_any _)))) (hle_upd (.cells _ _ ⟨le_any _, le_eq rfl rfl, le_eq rfl rfl, le_eq rfl rfl, le_eq rfl rfl, le_eq rfl rfl, le_eq rfl rfl, (by first | exact le_eq rfl rfl | exact le_nil), (by first | exact le_eq rfl rfl | exact le_nil), trivial⟩) (hle_upd (.cells _ _ ⟨le_any _, le_any _, le_any _, le_any _, le_any _, le_any _, le_any _, le_any _, le_eq rfl rfl, trivial⟩) (hle_dead _))) (dead_upd (Nat.le_of_ble_eq_true rfl) (dead_upd (Nat.le_of_ble_eq_true rfl) (dead_none)))
              · refine swp_seq ?_
                refine swp_region ?_
                refine sops_go rfl (st_bin rfl rfl rfl rfl rfl ?_)
                refine sops_go rfl (st_assign (v := .d _) rfl rfl rfl ?_)
                refine sops_nil ?_
                refine swp_cond _ rfl (fun hc33 => ?_) (fun hc33 => ?_)
                · let r : Rest := ⟨true, flag, neg, digits, exp, bits, text, s, names, true, []⟩
                  have hP : P r := by show V.formed _ = _; rw [V.formed, show kind = 7 by simpa using hc33]; rfl
                  refine swp_region ?_
                  first | refine sops_go rfl (so_fieldAddr (v := .p _ _ _) rfl rfl rfl rfl rfl rfl rfl rfl rfl rfl ?_) | refine sops_go rfl (so_fieldAddr (v := .dp _ _) rfl rfl rfl rfl rfl rfl rfl rfl rfl rfl ?_) | refine sops_go rfl (so_fieldAddr (v := .pe _ _ _ _ _) rfl rfl rfl rfl rfl rfl rfl rfl rfl rfl ?_)
                  refine sops_go rfl (so_store rfl rfl rfl rfl rfl rfl rfl rfl rfl (zs := [_, _, _, _, _, _, _, _, _]) rfl ?_)
                  refine sops_nil ?_
                  refine ⟨r, hP, ?_⟩
                  refine wk_of rfl (Nat.le_of_ble_eq_true rfl) (by rw [hB]; exact Nat.zero_le _) (tle_upd (le_eq rfl rfl) (tle_upd (le_eq rfl rfl) (tle_upd (le_eq rfl rfl) (tle_any _)))) (hle_upd (.cells _ _ ⟨le_any _, le_eq rfl rfl, le_eq rfl rfl, le_eq rfl rfl, le_eq rfl rfl, le_eq rfl rfl, le_eq rfl rfl, (by first | exact le_eq rfl rfl | exact le_nil), (by first | exact le_eq rfl rfl | exact le_nil), trivial⟩) (hle_upd (.cells _ _ ⟨le_any _, le_any _, le_any _, le_any _, le_any _, le_any _, le_any _, le_any _, le_eq rfl rfl, trivial⟩) (hle_dead _))) (dead_upd (Nat.le_of_ble_eq_true rfl) (dead_upd (Nat.le_of_ble_eq_true rfl) (dead_none)))
                · refine swp_seq ?_
                  refine swp_region ?_
                  refine sops_go rfl (st_bin rfl rfl rfl rfl rfl ?_)
                  refine sops_go rfl (st_assign (v := .d _) rfl rfl rfl ?_)
                  refine sops_nil ?_
                  refine swp_cond _ rfl (fun hc36 => ?_) (fun hc36 => ?_)
                  · let r : Rest := ⟨((((strRows names).length : Int) == ((V.rows list).length : Int)) && namesOk names []), flag, neg, digits, exp, bits, text, true, [], true, []⟩
                    have hP : P r := by show V.formed _ = _; rw [V.formed, show kind = 8 by simpa using hc36]; simp only [r, strRows_len, V.rows_len]; rfl
                    refine swp_seq ?_
                    refine swp_region ?_
                    first | refine sops_go rfl (so_fieldAddr (v := .p _ _ _) rfl rfl rfl rfl rfl rfl rfl rfl rfl rfl ?_) | refine sops_go rfl (so_fieldAddr (v := .dp _ _) rfl rfl rfl rfl rfl rfl rfl rfl rfl rfl ?_) | refine sops_go rfl (so_fieldAddr (v := .pe _ _ _ _ _) rfl rfl rfl rfl rfl rfl rfl rfl rfl rfl ?_)
                    first | refine sops_go rfl (so_load (v := .d _) rfl rfl rfl rfl rfl rfl rfl rfl ?_) | refine sops_go rfl (so_load (v := .own _ _ _ _ _) rfl rfl rfl rfl rfl rfl rfl rfl ?_)
                    refine sops_go rfl (so_lenSl rfl rfl rfl rfl rfl ?_)
                    first | refine sops_go rfl (so_fieldAddr (v := .p _ _ _) rfl rfl rfl rfl rfl rfl rfl rfl rfl rfl ?_) | refine sops_go rfl (so_fieldAddr (v := .dp _ _) rfl rfl rfl rfl rfl rfl rfl rfl rfl rfl ?_) | refine sops_go rfl (so_fieldAddr (v := .pe _ _ _ _ _) rfl rfl rfl rfl rfl rfl rfl rfl rfl rfl ?_)
                    first | refine sops_go rfl (so_load (v := .d _) rfl rfl rfl rfl rfl rfl rfl rfl ?_) | refine sops_go rfl (so_load (v := .own _ _ _ _ _) rfl rfl rfl rfl rfl rfl rfl rfl ?_)
                    refine sops_go rfl (so_lenSl rfl rfl rfl rfl rfl ?_)
                    refine sops_go rfl (st_bin rfl rfl rfl rfl rfl ?_)
                    refine sops_go rfl (st_move (v := .d _) rfl rfl rfl ?_)
                    refine' sops_and (d := 45) (p := 49) [46, 47, 48] 4 rfl rfl rfl (fun hb45 => ?a45) (fun hb45 => ?b45) ?_
                    case a45 =>
                      first | refine sops_yes rfl rfl rfl rfl (so_fieldAddr (v := .p _ _ _) rfl rfl rfl rfl rfl rfl rfl rfl rfl rfl ?_) | refine sops_yes rfl rfl rfl rfl (so_fieldAddr (v := .dp _ _) rfl rfl rfl rfl rfl rfl rfl rfl rfl rfl ?_) | refine sops_yes rfl rfl rfl rfl (so_fieldAddr (v := .pe _ _ _ _ _) rfl rfl rfl rfl rfl rfl rfl rfl rfl rfl ?_)
                      first | refine sops_yes rfl rfl rfl rfl (so_load (v := .d _) rfl rfl rfl rfl rfl rfl rfl rfl ?_) | refine sops_yes rfl rfl rfl rfl (so_load (v := .own _ _ _ _ _) rfl rfl rfl rfl rfl rfl rfl rfl ?_)
                      refine sops_yes rfl rfl rfl rfl (st_call rfl rfl (names_pure _ _ hf3) ⟨na_d _, trivial⟩ rfl ?_)
                      refine sops_go rfl (st_pick (v := .d _) rfl rfl rfl rfl ?_)
                      refine sops_nil ?_
                      exact ⟨rfl, rfl, rfl, rfl, [_, _, _], rfl, rfl⟩
                    case b45 =>
                      refine sops_no rfl rfl rfl rfl rfl ?_
                      refine sops_no rfl rfl rfl rfl rfl ?_
                      refine sops_no rfl rfl rfl rfl rfl ?_
                      refine sops_go rfl (st_pick (v := .d _) rfl rfl rfl rfl ?_)
                      refine sops_nil ?_
                      exact ⟨rfl, rfl, rfl, rfl, [_, _, _], rfl, rfl⟩
                    refine sops_go rfl (st_assign (v := .d _) rfl rfl rfl ?_)
                    refine sops_nil ?_
                    refine swp_region ?_
                    first | refine sops_go rfl (so_fieldAddr (v := .p _ _ _) rfl rfl rfl rfl rfl rfl rfl rfl rfl rfl ?_) | refine sops_go rfl (so_fieldAddr (v := .dp _ _) rfl rfl rfl rfl rfl rfl rfl rfl rfl rfl ?_) | refine sops_go rfl (so_fieldAddr (v := .pe _ _ _ _ _) rfl rfl rfl rfl rfl rfl rfl rfl rfl rfl ?_)
                    refine sops_go rfl (so_store rfl rfl rfl rfl rfl rfl rfl rfl rfl (zs := [_, _, _, _, _, _, _, _, _]) rfl ?_)
                    first | refine sops_go rfl (so_fieldAddr (v := .p _ _ _) rfl rfl rfl rfl rfl rfl rfl rfl rfl rfl ?_) | refine sops_go rfl (so_fieldAddr (v := .dp _ _) rfl rfl rfl rfl rfl rfl rfl rfl rfl rfl ?_) | refine sops_go rfl (so_fieldAddr (v := .pe _ _ _ _ _) rfl rfl rfl rfl rfl rfl rfl rfl rfl rfl ?_)
                    refine sops_go rfl (so_store rfl rfl rfl rfl rfl rfl rfl rfl rfl (zs := [_, _, _, _, _, _, _, _, _]) rfl ?_)
                    refine sops_nil ?_
                    refine ⟨r, hP, ?_⟩
                    refine wk_of rfl (Nat.le_of_ble_eq_true rfl) (by rw [hB]; exact Nat.zero_le _) (tle_upd (le_eq rfl rfl) (tle_upd (le_eq rfl rfl) (tle_upd (le_eq rfl rfl) (tle_any _)))) (hle_upd (.cells _ _ ⟨le_any _, le_eq rfl rfl, le_eq rfl rfl, le_eq rfl rfl, le_eq rfl rfl, le_eq rfl rfl, le_eq rfl rfl, (by first | exact le_eq rfl rfl | exact le_nil), (by first | exact le_eq rfl rfl | exact le_nil), trivial⟩) (hle_upd (.cells _ _ ⟨le_any _, le_any _, le_any _, le_any _, le_any _, le_any _, le_any _, le_any _, le_eq rfl rfl, trivial⟩) (hle_dead _))) (dead_upd (Nat.le_of_ble_eq_true rfl) (dead_upd (Nat.le_of_ble_eq_true rfl) (dead_none)))
                  · refine swp_seq ?_
                    refine swp_region ?_
                    refine sops_go rfl (st_bin rfl rfl rfl rfl rfl ?_)
                    refine sops_go rfl (st_assign (v := .d _) rfl rfl rfl ?_)
                    refine sops_nil ?_
                    refine swp_cond _ rfl (fun hc52 => ?_) (fun hc52 => ?_)
                    · let r : Rest := ⟨((((V.rows list).length : Int) == 1) && utfOk text), flag, neg, digits, exp, bits, noText, s, names, true, []⟩
                      have hP : P r := by show V.formed _ = _; rw [V.formed, show kind = 9 by simpa using hc52]; simp only [r, V.rows_len]; rfl
                      refine swp_seq ?_
                      refine swp_region ?_
                      first | refine sops_go rfl (so_fieldAddr (v := .p _ _ _) rfl rfl rfl rfl rfl rfl rfl rfl rfl rfl ?_) | refine sops_go rfl (so_fieldAddr (v := .dp _ _) rfl rfl rfl rfl rfl rfl rfl rfl rfl rfl ?_) | refine sops_go rfl (so_fieldAddr (v := .pe _ _ _ _ _) rfl rfl rfl rfl rfl rfl rfl rfl rfl rfl ?_)
                      first | refine sops_go rfl (so_load (v := .d _) rfl rfl rfl rfl rfl rfl rfl rfl ?_) | refine sops_go rfl (so_load (v := .own _ _ _ _ _) rfl rfl rfl rfl rfl rfl rfl rfl ?_)
                      refine sops_go rfl (so_lenSl rfl rfl rfl rfl rfl ?_)
                      refine sops_go rfl (st_bin rfl rfl rfl rfl rfl ?_)
                      refine sops_go rfl (st_move (v := .d _) rfl rfl rfl ?_)
                      refine' sops_and (d := 58) (p := 62) [59, 60, 61] 4 rfl rfl rfl (fun hb58 => ?a58) (fun hb58 => ?b58) ?_
                      case a58 =>
                        first | refine sops_yes rfl rfl rfl rfl (so_fieldAddr (v := .p _ _ _) rfl rfl rfl rfl rfl rfl rfl rfl rfl rfl ?_) | refine sops_yes rfl rfl rfl rfl (so_fieldAddr (v := .dp _ _) rfl rfl rfl rfl rfl rfl rfl rfl rfl rfl ?_) | refine sops_yes rfl rfl rfl rfl (so_fieldAddr (v := .pe _ _ _ _ _) rfl rfl rfl rfl rfl rfl rfl rfl rfl rfl ?_)
                        refine sops_yes rfl rfl rfl rfl (so_load (v := .d _) rfl rfl rfl rfl rfl rfl rfl rfl ?_)
                        refine sops_yes rfl rfl rfl rfl (st_call rfl rfl (valid_pure _ hf2) ⟨na_d _, trivial⟩ rfl ?_)
                        refine sops_go rfl (st_pick (v := .d _) rfl rfl rfl rfl ?_)
                        refine sops_nil ?_
                        exact ⟨rfl, rfl, rfl, rfl, [_, _, _], rfl, rfl⟩
                      case b58 =>
                        refine sops_no rfl rfl rfl rfl rfl ?_
                        refine sops_no rfl rfl rfl rfl rfl ?_
                        refine sops_no rfl rfl rfl rfl rfl ?_
                        refine sops_go rfl (st_pick (v := .d _) rfl rfl rfl rfl ?_)
                        refine sops_nil ?_
                        exact ⟨rfl, rfl, rfl, rfl, [_, _, _], rfl, rfl⟩
                      refine sops_go rfl (st_assign (v := .d _) rfl rfl rfl ?_)
                      refine sops_nil ?_
                      refine swp_region ?_
                      first | refine sops_go rfl (so_fieldAddr (v := .p _ _ _) rfl rfl rfl rfl rfl rfl rfl rfl rfl rfl ?_) | refine sops_go rfl (so_fieldAddr (v := .dp _ _) rfl rfl rfl rfl rfl rfl rfl rfl rfl rfl ?_) | refine sops_go rfl (so_fieldAddr (v := .pe _ _ _ _ _) rfl rfl rfl rfl rfl rfl rfl rfl rfl rfl ?_)
                      refine sops_go rfl (so_store rfl rfl rfl rfl rfl rfl rfl rfl rfl (zs := [_, _, _, _, _, _, _, _, _]) rfl ?_)
                      first | refine sops_go rfl (so_fieldAddr (v := .p _ _ _) rfl rfl rfl rfl rfl rfl rfl rfl rfl rfl ?_) | refine sops_go rfl (so_fieldAddr (v := .dp _ _) rfl rfl rfl rfl rfl rfl rfl rfl rfl rfl ?_) | refine sops_go rfl (so_fieldAddr (v := .pe _ _ _ _ _) rfl rfl rfl rfl rfl rfl rfl rfl rfl rfl ?_)
                      refine sops_go rfl (so_store rfl rfl rfl rfl rfl rfl rfl rfl rfl (zs := [_, _, _, _, _, _, _, _, _]) rfl ?_)
                      refine sops_nil ?_
                      refine ⟨r, hP, ?_⟩
                      refine wk_of rfl (Nat.le_of_ble_eq_true rfl) (by rw [hB]; exact Nat.zero_le _) (tle_upd (le_eq rfl rfl) (tle_upd (le_eq rfl rfl) (tle_upd (le_eq rfl rfl) (tle_any _)))) (hle_upd (.cells _ _ ⟨le_any _, le_eq rfl rfl, le_eq rfl rfl, le_eq rfl rfl, le_eq rfl rfl, le_eq rfl rfl, le_eq rfl rfl, (by first | exact le_eq rfl rfl | exact le_nil), (by first | exact le_eq rfl rfl | exact le_nil), trivial⟩) (hle_upd (.cells _ _ ⟨le_any _, le_any _, le_any _, le_any _, le_any _, le_any _, le_any _, le_any _, le_eq rfl rfl, trivial⟩) (hle_dead _))) (dead_upd (Nat.le_of_ble_eq_true rfl) (dead_upd (Nat.le_of_ble_eq_true rfl) (dead_none)))
                    · refine swp_seq ?_
                      refine swp_region ?_
                      refine sops_go rfl (st_assign (v := .d _) rfl rfl rfl ?_)
                      refine sops_nil ?_
                      refine swp_ret ?_
                      with_reducible refine inblk_ret ?_
                      with_reducible refine after_ret ?_
                      have hk : (V.mk kind flag neg digits exp bits text names list).formed = false := by
                        simp only [beq_eq_false_iff_ne, ne_eq] at hc8 hc10 hc13 hc21 hc24 hc30 hc33 hc36 hc52
                        rw [V.formed]; simp [hc8, hc10, hc13, hc21, hc24, hc30, hc33, hc36, hc52]
                      exact fin_b rfl rfl hk
  · rintro ⟨ok, flag', neg', digits', exp', bits', text', sn, names', sl, list'⟩ hP
    have hP : (V.mk kind flag neg digits exp bits text names list).formed = (!(V.bad ok flag' neg' digits' exp' bits' text' names'.length list'.length) && V.formedL list) := hP
    refine swp_seq ?_
    refine swp_seq ?_
    refine swp_region ?_
    refine sops_go rfl (st_move (v := .d _) rfl rfl rfl ?_)
    refine sops_go rfl (st_not rfl rfl rfl ?_)
    refine sops_go rfl (st_move (v := .d _) rfl rfl rfl ?_)
    refine' sops_or (d := 67) (p := 70) [68, 69] 3 rfl rfl rfl (fun hb67 => ?a67) (fun hb67 => ?b67) ?_
    case a67 =>
      first | refine sops_yes rfl rfl rfl rfl (so_fieldAddr (v := .p _ _ _) rfl rfl rfl rfl rfl rfl rfl rfl rfl rfl ?_) | refine sops_yes rfl rfl rfl rfl (so_fieldAddr (v := .dp _ _) rfl rfl rfl rfl rfl rfl rfl rfl rfl rfl ?_) | refine sops_yes rfl rfl rfl rfl (so_fieldAddr (v := .pe _ _ _ _ _) rfl rfl rfl rfl rfl rfl rfl rfl rfl rfl ?_)
      refine sops_yes rfl rfl rfl rfl (so_load (v := .d _) rfl rfl rfl rfl rfl rfl rfl rfl ?_)
      refine sops_go rfl (st_pick (v := .d _) rfl rfl rfl rfl ?_)
      refine sops_nil ?_
      exact ⟨rfl, rfl, rfl, rfl, [_, _], rfl, rfl⟩
    case b67 =>
      refine sops_no rfl rfl rfl rfl rfl ?_
      refine sops_no rfl rfl rfl rfl rfl ?_
      refine sops_go rfl (st_pick (v := .d _) rfl rfl rfl rfl ?_)
      refine sops_nil ?_
      exact ⟨rfl, rfl, rfl, rfl, [_, _], rfl, rfl⟩
    refine sops_go rfl (st_move (v := .d _) rfl rfl rfl ?_)
    refine' sops_or (d := 71) (p := 76) [72, 73, 74, 75] 5 rfl rfl rfl (fun hb71 => ?a71) (fun hb71 => ?b71) ?_
    case a71 =>
      first | refine sops_yes rfl rfl rfl rfl (so_fieldAddr (v := .p _ _ _) rfl rfl rfl rfl rfl rfl rfl rfl rfl rfl ?_) | refine sops_yes rfl rfl rfl rfl (so_fieldAddr (v := .dp _ _) rfl rfl rfl rfl rfl rfl rfl rfl rfl rfl ?_) | refine sops_yes rfl rfl rfl rfl (so_fieldAddr (v := .pe _ _ _ _ _) rfl rfl rfl rfl rfl rfl rfl rfl rfl rfl ?_)
      first | refine sops_yes rfl rfl rfl rfl (so_load (v := .d (.agg [_, _, _])) rfl rfl rfl rfl rfl rfl rfl rfl ?_) | refine sops_yes rfl rfl rfl rfl (so_load (v := .agg [_, _, _]) rfl rfl rfl rfl rfl rfl rfl rfl ?_)
      first | refine sops_yes rfl rfl rfl rfl (so_build (v := .d (.agg [_, _, _])) rfl rfl rfl rfl rfl rfl rfl ?_) | refine sops_yes rfl rfl rfl rfl (so_build (v := .agg [_, _, _]) rfl rfl rfl rfl rfl rfl rfl ?_)
      refine sops_yes rfl rfl rfl rfl (so_neT rfl [29] (by kernel_rfl) fitsAll (by kernel_rfl) rfl rfl rfl rfl rfl rfl rfl rfl rfl rfl rfl ?_)
      refine sops_go rfl (st_pick (v := .d _) rfl rfl rfl rfl ?_)
      refine sops_nil ?_
      exact ⟨rfl, rfl, rfl, rfl, [_, _, _, _], rfl, rfl⟩
    case b71 =>
      refine sops_no rfl rfl rfl rfl rfl ?_
      refine sops_no rfl rfl rfl rfl rfl ?_
      refine sops_no rfl rfl rfl rfl rfl ?_
      refine sops_no rfl rfl rfl rfl rfl ?_
      refine sops_go rfl (st_pick (v := .d _) rfl rfl rfl rfl ?_)
      refine sops_nil ?_
      exact ⟨rfl, rfl, rfl, rfl, [_, _, _, _], rfl, rfl⟩
    refine sops_go rfl (st_move (v := .d _) rfl rfl rfl ?_)
    refine' sops_or (d := 77) (p := 81) [78, 79, 80] 4 rfl rfl rfl (fun hb77 => ?a77) (fun hb77 => ?b77) ?_
    case a77 =>
      first | refine sops_yes rfl rfl rfl rfl (so_fieldAddr (v := .p _ _ _) rfl rfl rfl rfl rfl rfl rfl rfl rfl rfl ?_) | refine sops_yes rfl rfl rfl rfl (so_fieldAddr (v := .dp _ _) rfl rfl rfl rfl rfl rfl rfl rfl rfl rfl ?_) | refine sops_yes rfl rfl rfl rfl (so_fieldAddr (v := .pe _ _ _ _ _) rfl rfl rfl rfl rfl rfl rfl rfl rfl rfl ?_)
      refine sops_yes rfl rfl rfl rfl (so_load (v := .d _) rfl rfl rfl rfl rfl rfl rfl rfl ?_)
      refine sops_yes rfl rfl rfl rfl (st_bin rfl rfl rfl rfl rfl ?_)
      refine sops_go rfl (st_pick (v := .d _) rfl rfl rfl rfl ?_)
      refine sops_nil ?_
      exact ⟨rfl, rfl, rfl, rfl, [_, _, _], rfl, rfl⟩
    case b77 =>
      refine sops_no rfl rfl rfl rfl rfl ?_
      refine sops_no rfl rfl rfl rfl rfl ?_
      refine sops_no rfl rfl rfl rfl rfl ?_
      refine sops_go rfl (st_pick (v := .d _) rfl rfl rfl rfl ?_)
      refine sops_nil ?_
      exact ⟨rfl, rfl, rfl, rfl, [_, _, _], rfl, rfl⟩
    refine sops_go rfl (st_move (v := .d _) rfl rfl rfl ?_)
    refine' sops_or (d := 82) (p := 86) [83, 84, 85] 4 rfl rfl rfl (fun hb82 => ?a82) (fun hb82 => ?b82) ?_
    case a82 =>
      first | refine sops_yes rfl rfl rfl rfl (so_fieldAddr (v := .p _ _ _) rfl rfl rfl rfl rfl rfl rfl rfl rfl rfl ?_) | refine sops_yes rfl rfl rfl rfl (so_fieldAddr (v := .dp _ _) rfl rfl rfl rfl rfl rfl rfl rfl rfl rfl ?_) | refine sops_yes rfl rfl rfl rfl (so_fieldAddr (v := .pe _ _ _ _ _) rfl rfl rfl rfl rfl rfl rfl rfl rfl rfl ?_)
      refine sops_yes rfl rfl rfl rfl (so_load (v := .d _) rfl rfl rfl rfl rfl rfl rfl rfl ?_)
      refine sops_yes rfl rfl rfl rfl (st_bin rfl rfl rfl rfl rfl ?_)
      refine sops_go rfl (st_pick (v := .d _) rfl rfl rfl rfl ?_)
      refine sops_nil ?_
      exact ⟨rfl, rfl, rfl, rfl, [_, _, _], rfl, rfl⟩
    case b82 =>
      refine sops_no rfl rfl rfl rfl rfl ?_
      refine sops_no rfl rfl rfl rfl rfl ?_
      refine sops_no rfl rfl rfl rfl rfl ?_
      refine sops_go rfl (st_pick (v := .d _) rfl rfl rfl rfl ?_)
      refine sops_nil ?_
      exact ⟨rfl, rfl, rfl, rfl, [_, _, _], rfl, rfl⟩
    refine sops_go rfl (st_move (v := .d _) rfl rfl rfl ?_)
    refine' sops_or (d := 87) (p := 92) [88, 89, 90, 91] 5 rfl rfl rfl (fun hb87 => ?a87) (fun hb87 => ?b87) ?_
    case a87 =>
      first | refine sops_yes rfl rfl rfl rfl (so_fieldAddr (v := .p _ _ _) rfl rfl rfl rfl rfl rfl rfl rfl rfl rfl ?_) | refine sops_yes rfl rfl rfl rfl (so_fieldAddr (v := .dp _ _) rfl rfl rfl rfl rfl rfl rfl rfl rfl rfl ?_) | refine sops_yes rfl rfl rfl rfl (so_fieldAddr (v := .pe _ _ _ _ _) rfl rfl rfl rfl rfl rfl rfl rfl rfl rfl ?_)
      first | refine sops_yes rfl rfl rfl rfl (so_load (v := .d _) rfl rfl rfl rfl rfl rfl rfl rfl ?_) | refine sops_yes rfl rfl rfl rfl (so_load (v := .own _ _ _ _ _) rfl rfl rfl rfl rfl rfl rfl rfl ?_)
      refine sops_yes rfl rfl rfl rfl (so_lenSl rfl rfl rfl rfl rfl ?_)
      refine sops_yes rfl rfl rfl rfl (st_bin rfl rfl rfl rfl rfl ?_)
      refine sops_go rfl (st_pick (v := .d _) rfl rfl rfl rfl ?_)
      refine sops_nil ?_
      exact ⟨rfl, rfl, rfl, rfl, [_, _, _, _], rfl, rfl⟩
    case b87 =>
      refine sops_no rfl rfl rfl rfl rfl ?_
      refine sops_no rfl rfl rfl rfl rfl ?_
      refine sops_no rfl rfl rfl rfl rfl ?_
      refine sops_no rfl rfl rfl rfl rfl ?_
      refine sops_go rfl (st_pick (v := .d _) rfl rfl rfl rfl ?_)
      refine sops_nil ?_
      exact ⟨rfl, rfl, rfl, rfl, [_, _, _, _], rfl, rfl⟩
    refine sops_go rfl (st_move (v := .d _) rfl rfl rfl ?_)
    refine' sops_or (d := 93) (p := 98) [94, 95, 96, 97] 5 rfl rfl rfl (fun hb93 => ?a93) (fun hb93 => ?b93) ?_
    case a93 =>
      first | refine sops_yes rfl rfl rfl rfl (so_fieldAddr (v := .p _ _ _) rfl rfl rfl rfl rfl rfl rfl rfl rfl rfl ?_) | refine sops_yes rfl rfl rfl rfl (so_fieldAddr (v := .dp _ _) rfl rfl rfl rfl rfl rfl rfl rfl rfl rfl ?_) | refine sops_yes rfl rfl rfl rfl (so_fieldAddr (v := .pe _ _ _ _ _) rfl rfl rfl rfl rfl rfl rfl rfl rfl rfl ?_)
      first | refine sops_yes rfl rfl rfl rfl (so_load (v := .d _) rfl rfl rfl rfl rfl rfl rfl rfl ?_) | refine sops_yes rfl rfl rfl rfl (so_load (v := .own _ _ _ _ _) rfl rfl rfl rfl rfl rfl rfl rfl ?_)
      refine sops_yes rfl rfl rfl rfl (so_lenSl rfl rfl rfl rfl rfl ?_)
      refine sops_yes rfl rfl rfl rfl (st_bin rfl rfl rfl rfl rfl ?_)
      refine sops_go rfl (st_pick (v := .d _) rfl rfl rfl rfl ?_)
      refine sops_nil ?_
      exact ⟨rfl, rfl, rfl, rfl, [_, _, _, _], rfl, rfl⟩
    case b93 =>
      refine sops_no rfl rfl rfl rfl rfl ?_
      refine sops_no rfl rfl rfl rfl rfl ?_
      refine sops_no rfl rfl rfl rfl rfl ?_
      refine sops_no rfl rfl rfl rfl rfl ?_
      refine sops_go rfl (st_pick (v := .d _) rfl rfl rfl rfl ?_)
      refine sops_nil ?_
      exact ⟨rfl, rfl, rfl, rfl, [_, _, _, _], rfl, rfl⟩
    refine sops_nil ?_
    refine swp_cond _ rfl (fun hc98 => ?_) (fun hc98 => ?_)
    · rw [strRows_len, V.rows_len] at hc98
      have hbad : V.bad ok flag' neg' digits' exp' bits' text' names'.length list'.length = true := hc98
      rw [hbad] at hP
      refine swp_seq ?_
      refine swp_region ?_
      refine sops_go rfl (st_assign (v := .d _) rfl rfl rfl ?_)
      refine sops_nil ?_
      refine swp_ret ?_
      with_reducible refine after_ret ?_
      exact fin_b rfl rfl hP
    · rw [strRows_len, V.rows_len] at hc98
      have hbad : V.bad ok flag' neg' digits' exp' bits' text' names'.length list'.length = false := hc98
      rw [hbad, V.formedL_any] at hP
      have hrec : ∀ x ∈ list, Pure env 60 [.d x.d] (.d (.v (.bool (!x.formed)))) := fun x hx => formedV1_pure x (by rw [V.df_d]; exact ih x hx ((V.fitL_iff list).1 hf4 x hx) true)
      refine swp_skip ?_
      refine swp_seq ?_
      refine swp_region ?_
      first | refine sops_go rfl (so_fieldAddr (v := .p _ _ _) rfl rfl rfl rfl rfl rfl rfl rfl rfl rfl ?_) | refine sops_go rfl (so_fieldAddr (v := .dp _ _) rfl rfl rfl rfl rfl rfl rfl rfl rfl rfl ?_) | refine sops_go rfl (so_fieldAddr (v := .pe _ _ _ _ _) rfl rfl rfl rfl rfl rfl rfl rfl rfl rfl ?_)
      first | refine sops_go rfl (so_load (v := .d _) rfl rfl rfl rfl rfl rfl rfl rfl ?_) | refine sops_go rfl (so_load (v := .own _ _ _ _ _) rfl rfl rfl rfl rfl rfl rfl rfl ?_)
      refine sops_go rfl (st_call rfl rfl (containsFuncV_pure s list 60 [] (fun x => !x.formed) hrec rfl) ⟨na_d _, na_free rfl, trivial⟩ rfl ?_)
      refine sops_go rfl (st_not rfl rfl rfl ?_)
      refine sops_go rfl (st_assign (v := .d _) rfl rfl rfl ?_)
      refine sops_nil ?_
      refine swp_ret ?_
      exact fin_b rfl rfl hP
end Go.Proofs.YtdcpnpcmgfmenaaGreatDoor
/-
  Walks: values checked. Conditions: none.
-/
set_option linter.unusedVariables false
set_option maxRecDepth 100000
namespace Go.Proofs.YtdcpnpcmgfmenaaGreatDoor
open Go Go.Proofs.YtdcpnpcmgfmenaaGreatDoor.Lg

def V.long (t : V) : Bool := (!t.short || decide (t.depthW > 16)) || decide (t.sizeW > 4096)
def V.check (t : V) : Int := if t.formed = true then (if t.long = true then 2 else 0) else 40

theorem checkV_pure (t : V) (hf : t.fit) (s : Bool) : Pure env 20 [.d (t.df s)] (.d (.v (.int .i64 t.check))) := by
  have h1 := formedV_pure t hf s
  have h2 := short_pure t s
  have h3 := depthW_pure t s
  have h4 := size_pure t s
  have hL : t.long = ((!t.short || decide (t.depthW > 16)) || decide (t.sizeW > 4096)) := rfl
  have hC : t.check = if t.formed = true then (if t.long = true then 2 else 0) else 40 := rfl
  generalize t.formed = a1 at *
  generalize t.short = a2 at *
  generalize t.depthW = a3 at *
  generalize t.sizeW = a4 at *
  generalize t.check = c at *
  generalize t.long = l at *
  obtain ⟨kind, flag, neg, digits, exp, bits, text, names, list⟩ := t
  refine pure_of_body Tryz.func20 rfl rfl rfl fun B hB => ?_
  refine swp_seq ?_
  refine swp_region ?_
  refine sops_go rfl (so_box (cs := [_, _, _, _, _, _, _, _, _]) rfl rfl rfl ?_)
  refine sops_go rfl (st_assign (v := .d _) rfl rfl rfl ?_)
  refine sops_nil ?_
  refine swp_seq ?_
  refine swp_block ?_
  refine swp_seq ?_
  refine swp_region ?_
  first | refine sops_go rfl (so_load (v := .d (.agg [_, _, _, _, _, _, _, _, _])) rfl rfl rfl rfl rfl rfl rfl rfl ?_) | refine sops_go rfl (so_load (v := .agg [_, _, _, _, _, _, _, _, _]) rfl rfl rfl rfl rfl rfl rfl rfl ?_)
  refine sops_go rfl (st_call rfl rfl (h1) ⟨na_d _, trivial⟩ rfl ?_)
  refine sops_go rfl (st_not rfl rfl rfl ?_)
  refine sops_go rfl (st_assign (v := .d _) rfl rfl rfl ?_)
  refine sops_nil ?_
  refine swp_cond _ rfl (fun hc3 => ?_) (fun hc3 => ?_)
  · refine swp_seq ?_
    refine swp_region ?_
    refine sops_go rfl (st_assign (v := .d _) rfl rfl rfl ?_)
    refine sops_nil ?_
    refine swp_ret ?_
    with_reducible refine inblk_ret ?_
    with_reducible refine after_ret ?_
    exact fin_i rfl rfl (by rw [hC, if_neg (by simpa using hc3)])
  · refine swp_seq ?_
    refine swp_region ?_
    first | refine sops_go rfl (so_load (v := .d (.agg [_, _, _, _, _, _, _, _, _])) rfl rfl rfl rfl rfl rfl rfl rfl ?_) | refine sops_go rfl (so_load (v := .agg [_, _, _, _, _, _, _, _, _]) rfl rfl rfl rfl rfl rfl rfl rfl ?_)
    refine sops_go rfl (st_call rfl rfl (h2) ⟨na_d _, trivial⟩ rfl ?_)
    refine sops_go rfl (st_not rfl rfl rfl ?_)
    refine sops_go rfl (st_move (v := .d _) rfl rfl rfl ?_)
    refine' sops_or (d := 11) (p := 15) [12, 13, 14] 4 rfl rfl rfl (fun hb11 => ?a11) (fun hb11 => ?b11) ?_
    case a11 =>
      first | refine sops_yes rfl rfl rfl rfl (so_load (v := .d (.agg [_, _, _, _, _, _, _, _, _])) rfl rfl rfl rfl rfl rfl rfl rfl ?_) | refine sops_yes rfl rfl rfl rfl (so_load (v := .agg [_, _, _, _, _, _, _, _, _]) rfl rfl rfl rfl rfl rfl rfl rfl ?_)
      refine sops_yes rfl rfl rfl rfl (st_call rfl rfl (h3) ⟨na_d _, trivial⟩ rfl ?_)
      refine sops_yes rfl rfl rfl rfl (st_bin rfl rfl rfl rfl rfl ?_)
      refine sops_go rfl (st_pick (v := .d _) rfl rfl rfl rfl ?_)
      refine sops_nil ?_
      exact ⟨rfl, rfl, rfl, rfl, [_, _, _], rfl, rfl⟩
    case b11 =>
      refine sops_no rfl rfl rfl rfl rfl ?_
      refine sops_no rfl rfl rfl rfl rfl ?_
      refine sops_no rfl rfl rfl rfl rfl ?_
      refine sops_go rfl (st_pick (v := .d _) rfl rfl rfl rfl ?_)
      refine sops_nil ?_
      exact ⟨rfl, rfl, rfl, rfl, [_, _, _], rfl, rfl⟩
    refine sops_go rfl (st_move (v := .d _) rfl rfl rfl ?_)
    refine' sops_or (d := 16) (p := 20) [17, 18, 19] 4 rfl rfl rfl (fun hb16 => ?a16) (fun hb16 => ?b16) ?_
    case a16 =>
      first | refine sops_yes rfl rfl rfl rfl (so_load (v := .d (.agg [_, _, _, _, _, _, _, _, _])) rfl rfl rfl rfl rfl rfl rfl rfl ?_) | refine sops_yes rfl rfl rfl rfl (so_load (v := .agg [_, _, _, _, _, _, _, _, _]) rfl rfl rfl rfl rfl rfl rfl rfl ?_)
      refine sops_yes rfl rfl rfl rfl (st_call rfl rfl (h4) ⟨na_d _, trivial⟩ rfl ?_)
      refine sops_yes rfl rfl rfl rfl (st_bin rfl rfl rfl rfl rfl ?_)
      refine sops_go rfl (st_pick (v := .d _) rfl rfl rfl rfl ?_)
      refine sops_nil ?_
      exact ⟨rfl, rfl, rfl, rfl, [_, _, _], rfl, rfl⟩
    case b16 =>
      refine sops_no rfl rfl rfl rfl rfl ?_
      refine sops_no rfl rfl rfl rfl rfl ?_
      refine sops_no rfl rfl rfl rfl rfl ?_
      refine sops_go rfl (st_pick (v := .d _) rfl rfl rfl rfl ?_)
      refine sops_nil ?_
      exact ⟨rfl, rfl, rfl, rfl, [_, _, _], rfl, rfl⟩
    refine sops_go rfl (st_assign (v := .d _) rfl rfl rfl ?_)
    refine sops_nil ?_
    refine swp_cond _ rfl (fun hc7 => ?_) (fun hc7 => ?_)
    · refine swp_seq ?_
      refine swp_region ?_
      refine sops_go rfl (st_assign (v := .d _) rfl rfl rfl ?_)
      refine sops_nil ?_
      refine swp_ret ?_
      with_reducible refine inblk_ret ?_
      with_reducible refine after_ret ?_
      exact fin_i rfl rfl (by rw [hC, if_pos (by simpa using hc3), if_pos (hL.trans hc7)])
    · refine swp_skip ?_
      refine swp_seq ?_
      refine swp_region ?_
      refine sops_go rfl (st_assign (v := .d _) rfl rfl rfl ?_)
      refine sops_nil ?_
      refine swp_ret ?_
      exact fin_i rfl rfl (by rw [hC, if_pos (by simpa using hc3), if_neg (by rw [hL.trans hc7]; simp)])
end Go.Proofs.YtdcpnpcmgfmenaaGreatDoor
