/-
  The operations once more, with the table of types. Conditions: none.
-/
import Derived.Test.YtdcpnpcmgfmenaaDoorSh
set_option linter.unusedSimpArgs false
set_option linter.unusedVariables false
namespace Go.Proofs.YtdcpnpcmgfmenaaDoor.Lg
open Go Go.RowKit

theorem Env.und (E : Env) {t : Nat} {i : TI} (h : E.ti t = some i) : E.P.underlying t = some i.desc := (E.ok t i h).1
theorem Env.sz (E : Env) {t : Nat} {i : TI} (h : E.ti t = some i) : (E.P.info? t).map (·.size) = some i.size := by
  obtain ⟨_, f, h1, h2, _⟩ := E.ok t i h
  simp [h1, h2]
theorem Env.cel (E : Env) {t : Nat} {i : TI} (h : E.ti t = some i) : E.P.cellsOf t = i.size := by
  obtain ⟨_, f, h1, h2, _⟩ := E.ok t i h
  simp [Program.cellsOf, h1, h2]
theorem Env.zer (E : Env) {t : Nat} {i : TI} (h : E.ti t = some i) : (E.P.info? t).bind (·.zero) = some i.zero := by
  obtain ⟨_, f, h1, _, _, h2⟩ := E.ok t i h
  simp [h1, h2]
def TI.agg (i : TI) : Bool := match i.desc with | .struct _ | .array _ _ => true | _ => false
theorem Env.agg (E : Env) {t : Nat} {i : TI} (h : E.ti t = some i) : aggT E.P t = some i.agg := by
  unfold aggT TI.agg
  rw [E.und h]
  cases i.desc <;> rfl

section
variable {E : Env} {B : Base} {Q : Exit → St → Prop} {σ : St} {o : Oper} {K : St → Prop}

theorem so_alloc {q : Md} [Nw q] {cs : List AV} {t : TypeId} (ho : o.op = .alloc t) {i : TI} (hi : E.ti t = some i) (hz : zcells i.zero = cs) (hd : dlt o.dst σ.n = true)
    (hK : K (St.put { σ with h := upd σ.h σ.nx (.cells cs), nx := σ.nx + 1 } o.dst (.p σ.nx 0 0))) : Step q E B o K Q σ := st_alloc ho (E.zer hi) hd (by rw [hz]; exact hK)
theorem so_box {q : Md} [Nw q] {cs : List AV} {t : TypeId} {x : Operand} (ho : o.op = .box t x) (hc : cellsA (ev E σ x) = some cs) (hd : dlt o.dst σ.n = true)
    (hK : K (St.put { σ with h := upd σ.h σ.nx (.cells cs), nx := σ.nx + 1 } o.dst (.p σ.nx 0 0))) : Step q E B o K Q σ := st_box ho hc hd hK
theorem so_fieldAddr {q : Md} [Qt q] {v : AV} {t : TypeId} {x : Operand} {n : Nat} (ho : o.op = .fieldAddr t x n) {i : TI} (hi : E.ti t = some i) {fs : Array Field} (ht : i.desc = .struct fs) {f : Field} (hf : fs[n]? = some f)
    {j : TI} (hj : E.ti f.type = some j) (hn : (j.size == 0) = false) {u : AV} (hu : ev E σ x = u) (hv : u.live σ.h = true) (hs : u.shift f.offset = some v) (hd : dlt o.dst σ.n = true) (hK : K (σ.put o.dst v)) : Step q E B o K Q σ := by
  subst hu
  exact st_fieldAddr ho (by rw [E.und hi, ht]) hf (by rw [E.cel hj]; exact hn) hv hs hd hK
theorem so_load {q : Md} [Qt q] {v : AV} {t : TypeId} {x : Operand} (ho : o.op = .load t x) {i : TI} (hi : E.ti t = some i) {u : AV} (hu : ev E σ x = u) {cs : List AV} (hc : at_ σ.h u = some cs)
    (hl : decide (i.size ≤ cs.length) = true) (h1 : decide (0 < i.size) = true) (hd : dlt o.dst σ.n = true) (hv : (bif i.agg then mkAgg (cs.take i.size) else cs.headD .any) = v) (hK : K (σ.put o.dst v)) : Step q E B o K Q σ := by
  subst hu
  refine st_load ho hc (E.sz hi) (E.agg hi) hl (.inr h1) hd ?_
  rw [← hv] at hK
  cases h : i.agg <;> simpa [h] using hK
theorem so_store {t : TypeId} {x y : Operand} (ho : o.op = .store t x y) {l off : Nat} (hx : ev E σ x = .p l 0 off) {cs : List AV} (hl : σ.h l = .cells cs) {ys : List AV} (hy : cellsA (ev E σ y) = some ys)
    {i : TI} (hi : E.ti t = some i) (hsz : i.size = ys.length) (hof : decide (off + ys.length ≤ cs.length) = true) (hok : ys.all cellOk = true) (hd : dlt o.dst σ.n = true) {zs : List AV} (hz : splice cs off ys = zs)
    (hK : K (St.put { σ with h := upd σ.h l (.cells zs) } o.dst .any)) : Step .all E B o K Q σ := by
  subst hz
  refine st_store (h' := upd σ.h l (.cells (splice cs off ys))) ho hy ?_ (by rw [E.sz hi, hsz]) hok hd hK
  rw [hx]
  simp only [stored, hl]
  rw [if_pos ⟨trivial, by simpa using hof⟩]
theorem so_storeE {t : TypeId} {x y : Operand} (ho : o.op = .store t x y) {l k sz m j : Nat} (hx : ev E σ x = .pe l k sz m j) {e : Nat} {es : List (List AV)} (hl : σ.h l = .arr k e sz es) {ys : List AV} (hy : cellsA (ev E σ y) = some ys)
    {i : TI} (hi : E.ti t = some i) (hsz : i.size = ys.length) (hok : ys.all cellOk = true) (hd : dlt o.dst σ.n = true) (hm : m < es.length) (hj : j + ys.length ≤ sz)
    (hK : K (St.put { σ with h := upd σ.h l (.arr k e sz (es.set m (splice (es.getD m []) j ys))) } o.dst .any)) : Step .all E B o K Q σ := by
  refine st_store (h' := upd σ.h l (.arr k e sz (es.set m (splice (es.getD m []) j ys)))) ho hy ?_ (by rw [E.sz hi, hsz]) hok hd hK
  rw [hx]
  have : es[m]? = some (es.getD m []) := by simp [List.getD, hm]
  simp only [stored, hl, this]
  rw [if_pos ⟨trivial, trivial, hj⟩]
theorem so_indexSl {q : Md} [Qt q] {row : List D} {t : TypeId} {x ix : Operand} (ho : o.op = .indexAddr t x ix) {i : TI} (hi : E.ti t = some i) {e : TypeId} (ht : i.desc = .slice e) {j : TI} (hj : E.ti e = some j)
    {s : Bool} {es : List (List D)} (hx : ev E σ x = .d (.sl s es)) {k : IntKind} {n : Int} (hn : ev E σ ix = .d (.v (.int k n)))
    (hd : dlt o.dst σ.n = true) (hall : ∀ r ∈ es, r.length = j.size) (h0 : 0 ≤ n) (h1 : n < es.length) (hr : es.getD n.toNat [] = row) (hK : K (σ.put o.dst (.dp row 0))) : Step q E B o K Q σ :=
  st_indexSl ho (by rw [E.und hi, ht]) hx hn (E.sz hj) hall h0 h1 hd (by rw [hr]; exact hK)
theorem so_indexOwn {q : Md} [Qt q] {t : TypeId} {x ix : Operand} (ho : o.op = .indexAddr t x ix) {i : TI} (hi : E.ti t = some i) {e : TypeId} (ht : i.desc = .slice e) {j : TI} (hj : E.ti e = some j)
    {l kv sz off m : Nat} (hx : ev E σ x = .own l kv sz off m) {k : IntKind} {n : Int} (hn : ev E σ ix = .d (.v (.int k n))) (hsz : j.size = sz) {e' : TypeId} {es : List (List AV)} (hl : σ.h l = .arr kv e' sz es)
    (hd : dlt o.dst σ.n = true) (h0 : 0 ≤ n) (h1 : n < m) (h2 : off + m ≤ es.length) (hK : K (σ.put o.dst (.pe l kv sz (off + n.toNat) 0))) : Step q E B o K Q σ :=
  st_indexOwn ho (by rw [E.und hi, ht]) hx hn (by rw [E.sz hj, hsz]) hl h0 h1 h2 hd hK
theorem so_indexArr {q : Md} [Qt q] {t : TypeId} {x ix : Operand} (ho : o.op = .indexAddr t x ix) {i : TI} (hi : E.ti t = some i) {len : Nat} {e : TypeId} (ht : i.desc = .array len e) {j : TI} (hj : E.ti e = some j)
    (hlv : (ev E σ x).live σ.h = true) {k : IntKind} {n : Int} (hn : ev E σ ix = .d (.v (.int k n))) {v : AV} (hs : (ev E σ x).shift (n.toNat * j.size) = some v) (hd : dlt o.dst σ.n = true) (h0 : 0 ≤ n) (h1 : n < len)
    (hK : K (σ.put o.dst v)) : Step q E B o K Q σ :=
  st_indexArr ho (by rw [E.und hi, ht]) hlv hn (E.sz hj) h0 h1 hs hd hK
theorem so_indexStr {q : Md} [Qt q] {t : TypeId} {x ix : Operand} (ho : o.op = .index t x ix) {i : TI} (hi : E.ti t = some i) (ht : i.desc = .string) {s : ByteArray} (hx : ev E σ x = .d (.v (.string s)))
    {k : IntKind} {n : Int} (hn : ev E σ ix = .d (.v (.int k n))) (hd : dlt o.dst σ.n = true) (h0 : 0 ≤ n) (h1 : n < s.size) (hK : K (σ.put o.dst (.d (.v (.int .u8 (byteAt s n.toNat)))))) : Step q E B o K Q σ :=
  st_indexStr ho (by rw [E.und hi, ht]) hx hn h0 h1 hd hK
theorem so_lenStr {q : Md} [Qt q] {x : Operand} {t : TypeId} (ho : o.op = .call { callee := .builtin .len, args := #[x], argTypes := #[t] }) {i : TI} (hi : E.ti t = some i) (ht : i.desc = .string) {s : ByteArray} (hx : ev E σ x = .d (.v (.string s)))
    (hd : dlt o.dst σ.n = true) (hK : K (σ.put o.dst (.d (.v (.int .i64 s.size))))) : Step q E B o K Q σ := st_lenStr ho (by rw [E.und hi, ht]) hx hd hK
theorem so_lenSl {q : Md} [Qt q] {x : Operand} {t : TypeId} (ho : o.op = .call { callee := .builtin .len, args := #[x], argTypes := #[t] }) {i : TI} (hi : E.ti t = some i) {e : TypeId} (ht : i.desc = .slice e) {n : Nat} (hn : lenA σ.h (ev E σ x) = some n)
    (hd : dlt o.dst σ.n = true) (hK : K (σ.put o.dst (.d (.v (.int .i64 n))))) : Step q E B o K Q σ := st_lenSl ho (by rw [E.und hi, ht]) hn hd hK
/-- The length of data: no longer than a slice may be. -/
theorem so_lenD {x : Operand} {t : TypeId} (ho : o.op = .call { callee := .builtin .len, args := #[x], argTypes := #[t] }) {i : TI} (hi : E.ti t = some i) {e : TypeId} (ht : i.desc = .slice e) {s : Bool} {es : List (List D)} (hx : ev E σ x = .d (.sl s es))
    (hd : dlt o.dst σ.n = true) (hK : es.length ≤ 9223372036854775807 → K (σ.put o.dst (.d (.v (.int .i64 es.length))))) : Step .all E B o K Q σ := by
  intro g w a hr next hn
  have hb : es.length ≤ 9223372036854775807 := by
    have hx' := ev_ok hr x
    rw [hx] at hx'
    have hd' := vr_data hx'
    generalize a.eval x = ax at hd'
    cases hd' with
    | nil => simp
    | sl _ _ _ _ _ _ _ _ h _ _ => exact h.1
  have hs : Step .all E B o K Q σ := st_lenSl ho (by rw [E.und hi, ht]) (by rw [hx]; rfl) hd (hK hb)
  exact hs g w a hr next hn
theorem so_lenMap {q : Md} [Qt q] {x : Operand} {t : TypeId} (ho : o.op = .call { callee := .builtin .len, args := #[x], argTypes := #[t] }) {i : TI} (hi : E.ti t = some i) {kt et : TypeId} (ht : i.desc = .map kt et) {l : Nat} (hx : ev E σ x = .map l)
    {es : List (Value × AV)} (hl : σ.h l = .map es) (hd : dlt o.dst σ.n = true) (hK : K (σ.put o.dst (.d (.v (.int .i64 es.length))))) : Step q E B o K Q σ := st_lenMap ho (by rw [E.und hi, ht]) hx hl hd hK
theorem so_lenMapD {q : Md} [Qt q] {x : Operand} {t : TypeId} (ho : o.op = .call { callee := .builtin .len, args := #[x], argTypes := #[t] }) {i : TI} (hi : E.ti t = some i) {kt et : TypeId} (ht : i.desc = .map kt et) {es : List (Value × Value)} (hx : ev E σ x = .d (.map es))
    (hd : dlt o.dst σ.n = true) (hK : K (σ.put o.dst (.d (.v (.int .i64 es.length))))) : Step q E B o K Q σ := st_lenMapD ho (by rw [E.und hi, ht]) hx hd hK
theorem so_convInt {q : Md} [Qt q] {s t : TypeId} {x : Operand} (ho : o.op = .convert s t x) {i j : TI} (hi : E.ti s = some i) (hj : E.ti t = some j) {k : IntKind} (ht : j.desc = .int k) {k' : IntKind} {n : Int} (hx : ev E σ x = .d (.v (.int k' n)))
    (hd : dlt o.dst σ.n = true) (hK : K (σ.put o.dst (.d (.v (.int k (k.wrap n)))))) : Step q E B o K Q σ := st_convInt ho (by rw [E.und hi]; rfl) (by rw [E.und hj, ht]) hx hd hK
theorem so_convStr {q : Md} [Qt q] {s t : TypeId} {x : Operand} (ho : o.op = .convert s t x) {i j : TI} (hi : E.ti s = some i) (hj : E.ti t = some j) (hs : i.desc = .string) (ht : j.desc = .string) {b : ByteArray} (hx : ev E σ x = .d (.v (.string b)))
    (hd : dlt o.dst σ.n = true) (hK : K (σ.put o.dst (.d (.v (.string b))))) : Step q E B o K Q σ := st_convStr ho (by rw [E.und hi, hs]) (by rw [E.und hj, ht]) hx hd hK

/-! ### max, min -/
theorem so_max {q : Md} [Qt q] {x y : Operand} {ts : Array TypeId} (ho : o.op = .call { callee := .builtin .max, args := #[x, y], argTypes := ts }) {k k' : IntKind} {a b : Int} (hx : ev E σ x = .d (.v (.int k a))) (hy : ev E σ y = .d (.v (.int k' b)))
    (hk : k = k') (hd : dlt o.dst σ.n = true) (hK : K (σ.put o.dst (.d (.v (.int k (max a b)))))) : Step q E B o K Q σ := by
  subst hk
  refine step_val _ (fun B g w ac hr => ?_) hd hK
  have hx' := ev_ok hr x
  rw [hx] at hx'
  have hy' := ev_ok hr y
  rw [hy] at hy'
  refine ⟨_, ?_, .d _ _ (.v _)⟩
  rw [exec_builtin ho]
  simp only [builtin]
  refine run_v ?_
  have hm : (#[x, y].map ac.eval) = #[.int k a, .int k b] := by simp [vr_int hx', vr_int hy']
  rw [hm]
  simp [Builtin.max_, Builtin.max2]
  split <;> omega
theorem so_min {q : Md} [Qt q] {x y : Operand} {ts : Array TypeId} (ho : o.op = .call { callee := .builtin .min, args := #[x, y], argTypes := ts }) {k k' : IntKind} {a b : Int} (hx : ev E σ x = .d (.v (.int k a))) (hy : ev E σ y = .d (.v (.int k' b)))
    (hk : k = k') (hd : dlt o.dst σ.n = true) (hK : K (σ.put o.dst (.d (.v (.int k (min a b)))))) : Step q E B o K Q σ := by
  subst hk
  refine step_val _ (fun B g w ac hr => ?_) hd hK
  have hx' := ev_ok hr x
  rw [hx] at hx'
  have hy' := ev_ok hr y
  rw [hy] at hy'
  refine ⟨_, ?_, .d _ _ (.v _)⟩
  rw [exec_builtin ho]
  simp only [builtin]
  refine run_v ?_
  have hm : (#[x, y].map ac.eval) = #[.int k a, .int k b] := by simp [vr_int hx', vr_int hy']
  rw [hm]
  simp [Builtin.min_, Builtin.min2]
  split <;> omega
end
end Go.Proofs.YtdcpnpcmgfmenaaDoor.Lg
