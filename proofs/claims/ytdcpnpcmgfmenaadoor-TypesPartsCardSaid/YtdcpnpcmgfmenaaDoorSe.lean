/-
  The operations that make, read and write objects. Conditions: none.
-/
import Derived.Test.YtdcpnpcmgfmenaaDoorSd
set_option linter.unusedSimpArgs false
set_option linter.unusedVariables false
namespace Go.Proofs.YtdcpnpcmgfmenaaDoor.Lg
open Go Go.RowKit

theorem run_v {P : Program} {s : Sem Value} {w w' : World} {x : Value} (h : s.run P w = .ok x w') : (do pure (Next.value (← s)) : Sem Next).run P w = .ok (.value x) w' := by
  simp only [Sem.run_bind, h, Result.andThen_ok, Sem.run_pure]
theorem run_u {P : Program} {s : Sem Unit} {w w' : World} (h : s.run P w = .ok () w') : (do s; pure Next.skip : Sem Next).run P w = .ok .skip w' := by
  simp only [Sem.run_bind, h, Result.andThen_ok, Sem.run_pure]
theorem add_mk (b o i : Nat) : (⟨b, o, none⟩ : Addr).add i = ⟨b, o + i, none⟩ := by unfold Addr.add; split <;> simp_all

/-- Rows of one length, laid one behind the other. -/
theorem flat_at {α : Type} {n : Nat} : ∀ {es : List (List α)}, (∀ r ∈ es, r.length = n) → ∀ {i : Nat} {row : List α}, es[i]? = some row → ∀ {j : Nat}, j < n → es.flatten[i * n + j]? = row[j]?
  | [], _, i, row, h, _, _ => by simp at h
  | r :: es, hl, 0, row, h, j, hj => by
    simp at h; subst h
    have := hl r (by simp)
    simp only [List.flatten_cons, Nat.zero_mul, Nat.zero_add]
    rw [List.getElem?_append_left (by omega)]
  | r :: es, hl, i + 1, row, h, j, hj => by
    have h0 := hl r (by simp)
    simp only [List.flatten_cons]
    rw [List.getElem?_append_right (by rw [h0, Nat.add_mul]; omega), h0]
    have : (i + 1) * n + j - n = i * n + j := by rw [Nat.add_mul]; omega
    rw [this]
    exact flat_at (fun r hr => hl r (by simp [hr])) (by simpa using h) hj
theorem flat_length {α : Type} {n : Nat} : ∀ {es : List (List α)}, (∀ r ∈ es, r.length = n) → es.flatten.length = es.length * n
  | [], _ => by simp
  | r :: es, h => by
    rw [List.flatten_cons, List.length_append, h r (by simp), flat_length (fun r hr => h r (by simp [hr])), List.length_cons, Nat.add_mul]; omega

section
variable {E : Env} {B : Base} {Q : Exit → St → Prop} {σ : St} {o : Oper} {K : St → Prop}

/-! ### Boxes -/
theorem st_box {q : Md} [Nw q] {t : TypeId} {x : Operand} (ho : o.op = .box t x) {cs : List AV} (hc : cellsA (ev E σ x) = some cs) (hd : dlt o.dst σ.n = true)
    (hK : K (St.put { σ with h := upd σ.h σ.nx (.cells cs), nx := σ.nx + 1 } o.dst (.p σ.nx 0 0))) : Step q E B o K Q σ := by
  refine step_new _ _ (by simp) (fun B g w a hr => ?_) hd hK
  obtain ⟨h1, h2⟩ := cellsA_ok hc (ev_ok hr x)
  refine ⟨.pointer (some ⟨w.heap.size, 0, none⟩), .cells (a.eval x).cells t, 0, ?_, ?_, ?_⟩
  · simp only [execOp, ho]
    exact run_v (by simp [Instr.box, newVar, newRow, newObj, Sem.run, Sem.bind])
  · refine ⟨by simp [G.at, upd], by simp [G.at, upd], (a.eval x).cells, t, by simp only [G.at, upd, if_true]; exact heap_alloc_new w _, h1, fun i c y hi hy => ?_⟩
    exact (h2 i c y hi hy).mono (gle_at g _ _ _ _) (Nat.le_succ _) (fun b hb => heap_alloc_lt w _ (hr.hr.Jlt b hb))
  · exact .p _ _ _ _ rfl (by omega) (by simp [G.at, upd]) (fun _ => by simp [G.at, upd])

def zcells : Value → List AV
  | .agg cs => cs.toList.map fun x => .d (.v x)
  | v => [.d (.v v)]
theorem zcells_ok (z : Value) (w : World) (g : G) (nx : Nat) : z.cells.size = (zcells z).length ∧ ∀ (i : Nat) c y, (zcells z)[i]? = some c → z.cells[i]? = some y → VR w g nx c y := by
  have single : ∀ z : Value, z.cells = #[z] → z.cells.size = [AV.d (.v z)].length ∧ ∀ (i : Nat) c y, [AV.d (.v z)][i]? = some c → z.cells[i]? = some y → VR w g nx c y := by
    intro z hz
    rw [hz]
    refine ⟨rfl, fun i c y h1 h2 => ?_⟩
    cases i with
    | zero => simp at h1 h2; subst h1; subst h2; exact .d _ _ (.v _)
    | succ i => simp at h1
  cases z with
  | agg cs =>
    refine ⟨by simp [zcells, Value.cells], fun i c y h1 h2 => ?_⟩
    simp only [zcells, List.getElem?_map, Option.map_eq_some_iff] at h1
    obtain ⟨x, hx, rfl⟩ := h1
    simp only [Value.cells] at h2
    rw [Array.getElem?_toList, h2] at hx
    cases hx
    exact .d _ _ (.v _)
  | _ => exact single _ rfl

theorem st_alloc {q : Md} [Nw q] {t : TypeId} (ho : o.op = .alloc t) {z : Value} (hz : (E.P.info? t).bind (·.zero) = some z) (hd : dlt o.dst σ.n = true)
    (hK : K (St.put { σ with h := upd σ.h σ.nx (.cells (zcells z)), nx := σ.nx + 1 } o.dst (.p σ.nx 0 0))) : Step q E B o K Q σ := by
  refine step_new _ _ (by simp) (fun B g w a hr => ?_) hd hK
  obtain ⟨i, hi, hiz⟩ := Option.bind_eq_some_iff.1 hz
  refine ⟨.pointer (some ⟨w.heap.size, 0, none⟩), .cells z.cells t, 0, ?_, ?_, ?_⟩
  · simp only [execOp, ho]
    exact run_v (by simp [Instr.alloc, zeroValue, typeInfo, program, hi, hiz, newVar, newRow, newObj, Sem.run, Sem.bind, pure, bind])
  · obtain ⟨h1, h2⟩ := zcells_ok z (w.alloc (.cells z.cells t)) (g.at σ.nx w.heap.size 0 false) (σ.nx + 1)
    exact ⟨by simp [G.at, upd], by simp [G.at, upd], z.cells, t, by simp only [G.at, upd, if_true]; exact heap_alloc_new w _, h1, h2⟩
  · exact .p _ _ _ _ rfl (by omega) (by simp [G.at, upd]) (fun _ => by simp [G.at, upd])

/-! ### Places within -/
def AV.shift (v : AV) (n : Nat) : Option AV :=
  match v with
  | .dp cs off => some (.dp cs (off + n))
  | .p l k off => some (.p l k (off + n))
  | .pe l k sz i j => some (.pe l k sz i (j + n))
  | _ => none

/-- The version that stands. -/
def ver : AO → Option Nat
  | .dead => none
  | .cells _ => some 0
  | .arr k _ _ _ => some k
  | .map _ => some 0

theorem ver_ok {w : World} {g : G} {nx l : Nat} {o : AO} {k : Nat} (h : OR w g nx l o) (hk : ver o = some k) : g.κ l = k := by
  cases o with
  | dead => cases hk
  | cells cs => cases hk; exact h.1
  | arr k e sz es => cases hk; exact h.1
  | map es => cases hk; exact h.1

/-- Does the place stand now? -/
def AV.live (v : AV) (h : Nat → AO) : Bool :=
  match v with
  | .dp _ _ => true
  | .p l k _ => ver (h l) == some k
  | .pe l k _ _ _ => ver (h l) == some k
  | _ => false

theorem live_addr {g : G} {w : World} {a : Act} (hr : Rel E B g σ w a) {v : AV} {x : Value} (hv : v.live σ.h = true) (h : VR w g σ.nx v x) : ∃ b o, x = .pointer (some ⟨b, o, none⟩) := by
  cases h with
  | dp cs off b o f _ _ _ => exact ⟨b, o + off, rfl⟩
  | p l k off x h0 h1 h2 h3 => simp only [AV.live, beq_iff_eq] at hv; exact ⟨_, _, h3 (ver_ok (hr.hr.hp l h1) hv)⟩
  | pe l k sz i j x h0 h1 h2 h3 => simp only [AV.live, beq_iff_eq] at hv; exact ⟨_, _, h3 (ver_ok (hr.hr.hp l h1) hv)⟩
  | _ => cases hv

theorem shift_ok {g : G} {w : World} {a : Act} (hr : Rel E B g σ w a) {v v' : AV} {n b p : Nat} (hv : v.live σ.h = true) (hs : v.shift n = some v') (h : VR w g σ.nx v (.pointer (some ⟨b, p, none⟩))) :
    VR w g σ.nx v' (.pointer (some ⟨b, p + n, none⟩)) := by
  cases v with
  | dp cs off =>
    cases hs
    cases h with
    | dp _ _ _ o f h1 h2 h3 => rw [Nat.add_assoc]; exact .dp cs _ b o f h1 h2 h3
  | p l k off =>
    cases hs
    simp only [AV.live, beq_iff_eq] at hv
    cases h with
    | p _ _ _ _ h0 h1 h2 h3 =>
      have := h3 (ver_ok (hr.hr.hp l h1) hv)
      injection this with e; injection e with e; injection e with e1 e2 _
      exact .p _ _ _ _ rfl h1 h2 (fun _ => by rw [e1, e2])
  | pe l k sz i j =>
    cases hs
    simp only [AV.live, beq_iff_eq] at hv
    cases h with
    | pe _ _ _ _ _ _ h0 h1 h2 h3 =>
      have := h3 (ver_ok (hr.hr.hp l h1) hv)
      injection this with e; injection e with e; injection e with e1 e2 _
      exact .pe _ _ _ _ _ _ rfl h1 h2 (fun _ => by rw [e1, e2, Nat.add_assoc])
  | _ => cases hs

theorem st_fieldAddr {q : Md} [Qt q] {t : TypeId} {x : Operand} {i : Nat} (ho : o.op = .fieldAddr t x i) {fs : Array Field} (ht : E.P.underlying t = some (.struct fs)) {f : Field} (hf : fs[i]? = some f)
    (hn : (E.P.cellsOf f.type == 0) = false) {v : AV} (hv : (ev E σ x).live σ.h = true) (hs : (ev E σ x).shift f.offset = some v) (hd : dlt o.dst σ.n = true) (hK : K (σ.put o.dst v)) : Step q E B o K Q σ := by
  refine step_val v (fun B g w a hr => ?_) hd hK
  have hx := ev_ok hr x
  obtain ⟨b, p, hx'⟩ := live_addr hr hv hx
  rw [hx'] at hx
  refine ⟨.pointer (some ⟨b, p + f.offset, none⟩), ?_, shift_ok hr hv hs hx⟩
  simp only [execOp, ho]
  refine run_v ?_
  have hsz : (sizeOf f.type).run E.P w = .ok (E.P.cellsOf f.type) w := by
    unfold Program.cellsOf at hn ⊢
    cases hi : E.P.info? f.type with
    | none => rw [hi] at hn; cases hn
    | some i => simp [sizeOf, typeInfo, program, hi, Sem.run, Sem.bind, pure, bind]
  have hn' : E.P.cellsOf f.type ≠ 0 := by simpa using hn
  simp only [Instr.fieldAt, Sem.run_bind, run_underlying ht, Result.andThen_ok, hf, hx', Instr.sureAddr, Sem.run_pure, fieldPlace, hsz, hn', if_false, add_mk]


/-! ### Reading -/
/-- The cells behind a place: known ones. -/
def at_ (h : Nat → AO) : AV → Option (List AV)
  | .dp cs off => some ((cs.drop off).map .d)
  | .p l k off => match h l with
    | .cells cs => if k = 0 then some (cs.drop off) else none
    | _ => none
  | .pe l k sz i j => match h l with
    | .arr k' _ sz' es => if k = k' ∧ sz = sz' then (es[i]?).map (·.drop j) else none
    | _ => none
  | _ => none

def aggT (P : Program) (t : TypeId) : Option Bool :=
  match P.underlying t with
  | some (.struct _) | some (.array _ _) => some true
  | some _ => some false
  | none => none

def allD : List AV → Option (List D)
  | [] => some []
  | .d x :: r => (allD r).map (x :: ·)
  | _ => none
def mkAgg (cs : List AV) : AV :=
  match allD cs with
  | some ds => .d (.agg ds)
  | none => .agg cs

theorem allD_map : ∀ {cs : List AV} {ds : List D}, allD cs = some ds → cs = ds.map .d
  | [], _, h => by cases h; rfl
  | .d x :: r, _, h => by
    simp only [allD, Option.map_eq_some_iff] at h
    obtain ⟨ds, h, rfl⟩ := h
    rw [allD_map h]; rfl
  | .any :: _, _, h | .agg _ :: _, _, h | .tup _ :: _, _, h | .dp _ _ :: _, _, h | .p _ _ _ :: _, _, h | .pe _ _ _ _ _ :: _, _, h | .own _ _ _ _ _ :: _, _, h | .map _ :: _, _, h | .fn _ _ :: _, _, h => by cases h

theorem vr_mkAgg {w : World} {g : G} {nx : Nat} {cs : List AV} {xs : Array Value} (hs : xs.size = cs.length) (h : ∀ (i : Nat) c x, cs[i]? = some c → xs[i]? = some x → VR w g nx c x) : VR w g nx (mkAgg cs) (.agg xs) := by
  unfold mkAgg
  split
  · rename_i ds hds
    have hm := allD_map hds
    subst hm
    refine .d _ _ (.agg _ _ (by simpa using hs) fun i c x hi hx => ?_)
    exact vr_data (h i (.d c) x (by simp [hi]) hx)
  · exact .agg _ _ hs h

/-- What lies behind a place, in the world. -/
theorem at_ok {g : G} {w : World} {a : Act} (hr : Rel E B g σ w a) {v : AV} {x : Value} {cs : List AV} (hc : at_ σ.h v = some cs) (h : VR w g σ.nx v x) :
    ∃ (b o : Nat) (f : Nat → Value), x = .pointer (some ⟨b, o, none⟩) ∧ (∀ (i : Nat) c, cs[i]? = some c → w.cell? ⟨b, o + i, none⟩ = some (f i) ∧ VR w g σ.nx c (f i)) := by
  cases v with
  | dp ds off =>
    cases hc
    cases h with
    | dp _ _ b o f h1 h2 h3 =>
      refine ⟨b, o + off, fun i => f (off + i), rfl, fun i c hi => ?_⟩
      simp only [List.getElem?_map, List.getElem?_drop, Option.map_eq_some_iff] at hi
      obtain ⟨y, hy, rfl⟩ := hi
      exact ⟨by rw [Nat.add_assoc]; exact h2 _ _ hy, .d _ _ (h3 _ _ hy)⟩
  | p l k off =>
    simp only [at_] at hc
    cases ho : σ.h l with
    | cells cells =>
      rw [ho] at hc
      simp only at hc
      split at hc
      · rename_i hk; subst hk
        obtain rfl : cells.drop off = cs := by injection hc
        cases h with
        | p _ _ _ _ h0 h1 h2 h3 =>
          have hor := hr.hr.hp l h1
          rw [ho] at hor
          obtain ⟨g1, g2, xs, t, g3, g4, g5⟩ := hor
          refine ⟨g.ρ l, off, fun i => xs.getD (off + i) undef, h3 g1, fun i c hi => ?_⟩
          rw [List.getElem?_drop] at hi
          have hlt : off + i < xs.size := by rw [g4]; exact (List.getElem?_eq_some_iff.1 hi).1
          have hx : xs[off + i]? = some (xs.getD (off + i) undef) := by simp [hlt]
          exact ⟨by simp [World.cell?, g3, hlt], g5 _ _ _ hi hx⟩
      · cases hc
    | _ => rw [ho] at hc; cases hc
  | pe l k sz i j =>
    simp only [at_] at hc
    cases ho : σ.h l with
    | arr k' e sz' es =>
      rw [ho] at hc
      simp only at hc
      split at hc
      · rename_i hk
        obtain ⟨rfl, rfl⟩ := hk
        simp only [Option.map_eq_some_iff] at hc
        obtain ⟨row, hrow, rfl⟩ := hc
        cases h with
        | pe _ _ _ _ _ _ h0 h1 h2 h3 =>
          have hor := hr.hr.hp l h1
          rw [ho] at hor
          obtain ⟨g1, g2, g3, g4, xs, g5, g6⟩ := hor
          have hv : g.vt l = false := by
            cases hv : g.vt l with
            | false => rfl
            | true => obtain ⟨rfl, _⟩ := g4 hv; simp at hrow
          obtain ⟨a1, a2, a3, cur, a4, a5, a6⟩ := owns_block hv g5
          have hi : i < es.length := (List.getElem?_eq_some_iff.1 hrow).1
          have hrl : row.length = sz := g3 row (List.mem_of_getElem? hrow)
          refine ⟨g.ρ l, i * sz + j, fun m => xs.getD (i * sz + j + m) undef, h3 g1, fun m c hm => ?_⟩
          rw [List.getElem?_drop] at hm
          have hjm : j + m < sz := by rw [← hrl]; exact (List.getElem?_eq_some_iff.1 hm).1
          have hle : i * sz + sz ≤ es.length * sz := by
            have := Nat.mul_le_mul_right sz (show i + 1 ≤ es.length from hi)
            rwa [Nat.add_mul, Nat.one_mul] at this
          have hlt : i * sz + j + m < xs.length := by rw [a1]; omega
          have hfl : es.flatten[i * sz + j + m]? = some c := by
            have := flat_at g3 hrow (show j + m < sz from hjm)
            rw [Nat.add_assoc, this]; exact hm
          have hx : xs[i * sz + j + m]? = some (xs.getD (i * sz + j + m) undef) := by simp [List.getD, hlt]
          refine ⟨?_, g6 _ _ _ hfl hx⟩
          have hc : cur[i * sz + j + m]? = some (xs.getD (i * sz + j + m) undef) := by
            rw [← hx, ← a6, List.getElem?_take_of_lt (by rw [← a1]; exact hlt), Array.getElem?_toList]
          simp only [World.cell?, a4, Option.isSome_none, Bool.false_eq_true, if_false]
          exact hc
      · cases hc
    | _ => rw [ho] at hc; cases hc
  | _ => cases hc

theorem run_isAgg {P : Program} {t : TypeId} {b : Bool} (h : aggT P t = some b) (w : World) : (isAgg t).run P w = .ok b w := by
  unfold aggT at h
  unfold isAgg
  cases ht : P.underlying t with
  | none => rw [ht] at h; cases h
  | some d =>
    rw [ht] at h
    simp only [Sem.run_bind, run_underlying ht, Result.andThen_ok]
    cases d <;> simp at h <;> subst h <;> rfl

theorem run_sizeOf {P : Program} {t : TypeId} {n : Nat} (h : (P.info? t).map (·.size) = some n) (w : World) : (sizeOf t).run P w = .ok n w := by
  obtain ⟨i, hi, rfl⟩ := Option.map_eq_some_iff.1 h
  simp [sizeOf, typeInfo, program, hi, Sem.run, Sem.bind, pure, bind]

theorem st_load {q : Md} [Qt q] {t : TypeId} {x : Operand} (ho : o.op = .load t x) {cs : List AV} (hc : at_ σ.h (ev E σ x) = some cs) {s : Nat} (hs : (E.P.info? t).map (·.size) = some s) {b : Bool} (hb : aggT E.P t = some b)
    (hl : decide (s ≤ cs.length) = true) (h1 : b = true ∨ decide (0 < s) = true) (hd : dlt o.dst σ.n = true) (hK : K (σ.put o.dst (if b = true then mkAgg (cs.take s) else cs.headD .any))) : Step q E B o K Q σ := by
  refine step_val _ (fun B g w a hr => ?_) hd hK
  obtain ⟨b', p, f, hx, hf⟩ := at_ok hr hc (ev_ok hr x)
  have hl' : s ≤ cs.length := by simpa using hl
  cases b with
  | true =>
    refine ⟨.agg ((List.range s).map f).toArray, ?_, ?_⟩
    · simp only [execOp, ho]
      refine run_v ?_
      have hcells : (loadCells ⟨b', p, none⟩ s).run E.P w = .ok ((List.range s).map f).toArray w := run_loadCells w _ s f fun j hj => by
        rw [add_mk]
        exact (hf j cs[j] (List.getElem?_eq_getElem (by omega))).1
      simp only [Instr.loadAt, hx, Instr.sureAddr, Sem.run_bind, Sem.run_pure, Result.andThen_ok, loadVar, run_isAgg hb, if_true, run_sizeOf hs, hcells]
    · simp only [if_true]
      refine vr_mkAgg (by simp; omega) fun i c y hi hy => ?_
      by_cases his : i < s
      · rw [List.getElem?_take_of_lt his] at hi
        have : y = f i := by simp [his] at hy; exact hy.symm
        rw [this]; exact (hf i c hi).2
      · simp [List.getElem?_take, his] at hi
  | false =>
    have hs0 : 0 < s := by rcases h1 with h | h; cases h; simpa using h
    cases cs with
    | nil => simp at hl'; omega
    | cons c0 cs =>
      obtain ⟨h1, h2⟩ := hf 0 c0 rfl
      refine ⟨f 0, ?_, by simpa using h2⟩
      simp only [execOp, ho]
      refine run_v ?_
      simp only [Nat.add_zero] at h1
      simp only [Instr.loadAt, hx, Instr.sureAddr, Sem.run_bind, Sem.run_pure, Result.andThen_ok, loadVar, run_isAgg hb, Bool.false_eq_true, if_false, run_load, h1]
end
end Go.Proofs.YtdcpnpcmgfmenaaDoor.Lg
