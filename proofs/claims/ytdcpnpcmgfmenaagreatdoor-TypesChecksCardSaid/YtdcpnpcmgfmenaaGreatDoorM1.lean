/-
  Texts of the proof, part 1: the logic, walks of functions, plain laws. Conditions: none.
-/
import Derived.Orders
import Derived.Below
import Derived.WalkKit
import Derived.Laws.StructEq
import Derived.Laws.Cells
import Derived.WalkLawsBesides
import Derived.Laws.CopyRow
import Derived.Laws.Tables
import Derived.Shelf.Abstract
import Derived.IntWalk
import Derived.StillTail
import Derived.Laws.AppendOwn
import Derived.Laws.OwnMore
import Derived.Laws.Slices
import Derived.Laws.Strings2
import Derived.Laws.Pointers
import Derived.Laws.Small
import Derived.Laws.IdiomStrings
set_option linter.unusedVariables false
set_option linter.unusedSimpArgs false
/-
  A program logic of our own over the kit's 'Code.wp' and 'Calls': abstract values and states, what they say of a world, and that this lasts. Conditions: none.
-/
namespace Go.Proofs.YtdcpnpcmgfmenaaGreatDoor.Lg
open Go

/-- Data: no place of its own in memory counts. 'sl s es': a slice that reads as the rows es; s: it may be handed on. -/
inductive D where
  | v (x : Value)
  | agg (cs : List D)
  | sl (s : Bool) (es : List (List D))
  | map (es : List (Value × Value))

/-- What a temporary is known to hold. -/
inductive AV where
  | any
  | d (x : D)
  | agg (cs : List AV)
  | tup (cs : List AV)
  | dp (cs : List D) (off : Nat)
  | p (l k off : Nat)
  | pe (l k sz i j : Nat)
  | own (l k sz off n : Nat)
  | map (l : Nat)
  | fn (f : Nat) (caps : List AV)

/-- What an object of the call's own is known to hold. -/
inductive AO where
  | dead
  | cells (cs : List AV)
  | arr (k e sz : Nat) (es : List (List AV))
  | map (es : List (Value × AV))

/-- Where the objects lie; which blocks last for good (I), which last as long as the call (J). -/
structure G where
  ρ : Nat → Nat
  κ : Nat → Nat
  cap : Nat → Nat
  vt : Nat → Bool
  I : Nat → Prop
  J : Nat → Prop

structure St where
  t : Nat → AV
  n : Nat
  h : Nat → AO
  nx : Nat

inductive DR (w : World) (I J : Nat → Prop) : D → Value → Prop
  | v (x : Value) : DR w I J (.v x) x
  | agg (cs : List D) (xs : Array Value) : xs.size = cs.length → (∀ (i : Nat) c x, cs[i]? = some c → xs[i]? = some x → DR w I J c x) → DR w I J (.agg cs) (.agg xs)
  | nil (s : Bool) (a : Option Addr) (c : Nat) : DR w I J (.sl s []) (.slice a 0 c)
  | sl (s : Bool) (es : List (List D)) (b off c : Nat) (f : Nat → Value) : (s = true → I b) → J b → es.length ≤ maxLen ∧ es.length ≤ c →
      (∀ (i : Nat) c, es.flatten[i]? = some c → w.cell? ⟨b, off + i, none⟩ = some (f i)) →
      (∀ (i : Nat) c, es.flatten[i]? = some c → DR w I J c (f i)) → DR w I J (.sl s es) (.slice (some ⟨b, off, none⟩) es.length c)
  | map (es : List (Value × Value)) (b : Nat) (ms : Array MapEntry) (clock : Nat) : I b → J b → w.heap[b]? = some (.map ms clock) → ms.size = es.length →
      (∀ (i : Nat) (e : Value × Value) (m : MapEntry), es[i]? = some e → ms[i]? = some m → m.key = e.1 ∧ m.val = e.2) → DR w I J (.map es) (.map (some b))

/-- The slice that is all of a growing row. -/
def handle (g : G) (l n : Nat) : Value := .slice (if g.vt l then none else some ⟨g.ρ l, 0, none⟩) n (g.cap l)

def OwnV (g : G) (l sz off n : Nat) (x : Value) : Prop :=
  if off = 0 then x = handle g l n
  else ∃ a c, x = .slice a n c ∧ n ≤ c ∧ (0 < n → a = some ⟨g.ρ l, off * sz, none⟩)

inductive VR (w : World) (g : G) (nx : Nat) : AV → Value → Prop
  | any (x : Value) : VR w g nx .any x
  | d (c : D) (x : Value) : DR w g.I g.J c x → VR w g nx (.d c) x
  | agg (cs : List AV) (xs : Array Value) : xs.size = cs.length → (∀ (i : Nat) c x, cs[i]? = some c → xs[i]? = some x → VR w g nx c x) → VR w g nx (.agg cs) (.agg xs)
  | tup (cs : List AV) (xs : Array Value) : xs.size = cs.length → (∀ (i : Nat) c x, cs[i]? = some c → xs[i]? = some x → VR w g nx c x) → VR w g nx (.tup cs) (.tuple xs)
  | dp (cs : List D) (off b o : Nat) (f : Nat → Value) : g.J b → (∀ (i : Nat) c, cs[i]? = some c → w.cell? ⟨b, o + i, none⟩ = some (f i)) →
      (∀ (i : Nat) c, cs[i]? = some c → DR w g.I g.J c (f i)) → VR w g nx (.dp cs off) (.pointer (some ⟨b, o + off, none⟩))
  | p (l k off : Nat) (x : Value) : x.oneCell' = true → l < nx → k ≤ g.κ l → (g.κ l = k → x = .pointer (some ⟨g.ρ l, off, none⟩)) → VR w g nx (.p l k off) x
  | pe (l k sz i j : Nat) (x : Value) : x.oneCell' = true → l < nx → k ≤ g.κ l → (g.κ l = k → x = .pointer (some ⟨g.ρ l, i * sz + j, none⟩)) → VR w g nx (.pe l k sz i j) x
  | own (l k sz off n : Nat) (x : Value) : x.oneCell' = true → l < nx → k ≤ g.κ l → (g.κ l = k → OwnV g l sz off n x) → VR w g nx (.own l k sz off n) x
  | map (l : Nat) (x : Value) : x.oneCell' = true → l < nx → (g.κ l = 0 → x = .map (some (g.ρ l))) → VR w g nx (.map l) x
  | fn (f : Nat) (caps : List AV) (xs : Array Value) : xs.size = caps.length → (∀ (i : Nat) c x, caps[i]? = some c → xs[i]? = some x → VR w g nx c x) →
      VR w g nx (.fn f caps) (.func (.func f) #[] xs)

def OR (w : World) (g : G) (nx l : Nat) : AO → Prop
  | .dead => True
  | .cells cs => g.κ l = 0 ∧ g.vt l = false ∧ ∃ xs t, w.heap[g.ρ l]? = some (.cells xs t (0, 0)) ∧ xs.size = cs.length ∧
      ∀ (i : Nat) c x, cs[i]? = some c → xs[i]? = some x → VR w g nx c x
  | .arr k e sz es => g.κ l = k ∧ es.length ≤ maxLen ∧ (∀ r ∈ es, r.length = sz) ∧ (g.vt l = true → es = [] ∧ g.cap l = 0) ∧ ∃ xs, w.ownsRow 0 e sz (handle g l es.length) es.length xs ∧
      ∀ (i : Nat) c x, es.flatten[i]? = some c → xs[i]? = some x → VR w g nx c x
  | .map es => g.κ l = 0 ∧ g.vt l = false ∧ ∃ ms clock, w.heap[g.ρ l]? = some (.map ms clock) ∧ ms.size = es.length ∧
      ∀ (i : Nat) (e : Value × AV) (m : MapEntry), es[i]? = some e → ms[i]? = some m → m.key = e.1 ∧ VR w g nx e.2 m.val

theorem DR.mono {w w' : World} {I J I' J' : Nat → Prop} (hI : ∀ b, I b → I' b) (hJ : ∀ b, J b → J' b) (hw : ∀ b, J b → w'.heap[b]? = w.heap[b]?) {c : D} {x : Value} (h : DR w I J c x) : DR w' I' J' c x := by
  induction h with
  | v x => exact .v x
  | agg cs xs hs _ ih => exact .agg cs xs hs ih
  | nil s a c => exact .nil s a c
  | sl s es b off c f h1 h2 h3 h4 _ ih => exact .sl s es b off c f (fun e => hI _ (h1 e)) (hJ _ h2) h3 (fun i c hc => by rw [World.cell?_of_block (w := w) (hw b h2)]; exact h4 i c hc) ih
  | map es b ms clock h1 h2 h3 h4 h5 => exact .map es b ms clock (hI _ h1) (hJ _ h2) (by rw [hw b h2]; exact h3) h4 h5

/-- The ghosts go on. -/
structure GLe (g : G) (nx : Nat) (g' : G) : Prop where
  I : ∀ b, g.I b → g'.I b
  J : ∀ b, g.J b → g'.J b
  κ : ∀ l, l < nx → g.κ l ≤ g'.κ l
  same : ∀ l, l < nx → g'.κ l = g.κ l → g'.ρ l = g.ρ l ∧ g'.cap l = g.cap l ∧ g'.vt l = g.vt l

theorem GLe.refl (g : G) (nx : Nat) : GLe g nx g := ⟨fun _ h => h, fun _ h => h, fun _ _ => Nat.le_refl _, fun _ _ _ => ⟨rfl, rfl, rfl⟩⟩
theorem GLe.trans {g g' g'' : G} {nx nx' : Nat} (h : GLe g nx g') (hn : nx ≤ nx') (h' : GLe g' nx' g'') : GLe g nx g'' :=
  ⟨fun b hb => h'.I b (h.I b hb), fun b hb => h'.J b (h.J b hb), fun l hl => Nat.le_trans (h.κ l hl) (h'.κ l (by omega)), fun l hl e => by
    have a := h.κ l hl; have b := h'.κ l (by omega)
    obtain ⟨a1, a2, a3⟩ := h.same l hl (by omega)
    obtain ⟨b1, b2, b3⟩ := h'.same l (by omega) (by omega)
    exact ⟨b1.trans a1, b2.trans a2, b3.trans a3⟩⟩

theorem VR.mono {w w' : World} {g g' : G} {nx nx' : Nat} (hg : GLe g nx g') (hn : nx ≤ nx') (hw : ∀ b, g.J b → w'.heap[b]? = w.heap[b]?) {c : AV} {x : Value} (h : VR w g nx c x) : VR w' g' nx' c x := by
  induction h with
  | any x => exact .any x
  | d c x h => exact .d c x (h.mono hg.I hg.J hw)
  | agg cs xs hs _ ih => exact .agg cs xs hs ih
  | tup cs xs hs _ ih => exact .tup cs xs hs ih
  | dp cs off b o f h1 h2 h3 => exact .dp cs off b o f (hg.J _ h1) (fun i c hc => by rw [World.cell?_of_block (w := w) (hw b h1)]; exact h2 i c hc) (fun i c hc => (h3 i c hc).mono hg.I hg.J hw)
  | p l k off x h0 h1 h2 h3 => exact .p l k off x h0 (by omega) (Nat.le_trans h2 (hg.κ l h1)) (fun e => by
      have a := hg.κ l h1
      have b : g'.κ l = g.κ l := by omega
      rw [h3 (by omega), (hg.same l h1 b).1])
  | pe l k sz i j x h0 h1 h2 h3 => exact .pe l k sz i j x h0 (by omega) (Nat.le_trans h2 (hg.κ l h1)) (fun e => by
      have a := hg.κ l h1
      have b : g'.κ l = g.κ l := by omega
      rw [h3 (by omega), (hg.same l h1 b).1])
  | own l k sz off n x h0 h1 h2 h3 => exact .own l k sz off n x h0 (by omega) (Nat.le_trans h2 (hg.κ l h1)) (fun e => by
      have a := hg.κ l h1
      have b : g'.κ l = g.κ l := by omega
      obtain ⟨e1, e2, e3⟩ := hg.same l h1 b
      have := h3 (by omega)
      unfold OwnV handle at this ⊢
      rw [e1, e2, e3]; exact this)
  | map l x h0 h1 h2 => exact .map l x h0 (by omega) (fun e => by
      have a := hg.κ l h1
      rw [h2 (by omega), (hg.same l h1 (by omega)).1])
  | fn f caps xs hs _ ih => exact .fn f caps xs hs ih

/-- Which blocks are the call's own. -/
def Owned (g : G) (nx : Nat) (h : Nat → AO) (b : Nat) : Prop := ∃ l, l < nx ∧ h l ≠ .dead ∧ g.vt l = false ∧ g.ρ l = b

/-- What is asked of a type. -/
structure TI where
  desc : TypeDesc
  size : Nat
  bytes : Nat
  zero : Value

/-- The seat's program, what package-level variables hold, and a table of types. -/
structure Env where
  P : Program
  GL : Nat → Option (List D)
  ti : Nat → Option TI
  ok : ∀ t i, ti t = some i → P.underlying t = some i.desc ∧ ∃ f, P.info? t = some f ∧ f.size = i.size ∧ f.bytes = i.bytes ∧ f.zero = some i.zero
  mixed : P.follows .mixedOrders = true

structure HRel (E : Env) (w : World) (g : G) (nx : Nat) (h : Nat → AO) : Prop where
  hp : ∀ l, l < nx → OR w g nx l (h l)
  hd : ∀ l, nx ≤ l → h l = .dead
  inj : ∀ l l', l < nx → l' < nx → h l ≠ .dead → h l' ≠ .dead → g.vt l = false → g.vt l' = false → g.ρ l = g.ρ l' → l = l'
  Jlt : ∀ b, g.J b → b < w.heap.size
  IJ : ∀ b, g.I b → g.J b
  dis : ∀ b, g.J b → ¬ Owned g nx h b
  gl : ∀ i cs, E.GL i = some cs → g.J i ∧ ∃ f : Nat → Value, (∀ (j : Nat) c, cs[j]? = some c → w.cell? ⟨i, j, none⟩ = some (f j)) ∧ ∀ (j : Nat) c, cs[j]? = some c → DR w g.I g.J c (f j)

/-- From where a call began: what stood there, and what was its own. -/
structure Base where
  w : World
  g : G
  nx : Nat
  h : Nat → AO

structure Ext (B : Base) (w : World) (g : G) (nx : Nat) (h : Nat → AO) : Prop where
  os : w.os = B.w.os
  tape : w.tape = B.w.tape
  output : w.output = B.w.output
  size : B.w.heap.size ≤ w.heap.size
  block : ∀ b, b < B.w.heap.size → ¬ Owned B.g B.nx B.h b → w.heap[b]? = B.w.heap[b]?
  gle : GLe B.g B.nx g
  nle : B.nx ≤ nx
  inew : ∀ b, g.I b → B.g.I b ∨ Owned B.g B.nx B.h b ∨ B.w.heap.size ≤ b
  own : ∀ b, Owned g nx h b → Owned B.g B.nx B.h b ∨ B.w.heap.size ≤ b

structure Rel (E : Env) (B : Base) (g : G) (σ : St) (w : World) (a : Act) : Prop where
  size : a.tmps.size = σ.n
  tm : ∀ i, VR w g σ.nx (σ.t i) (a.tmps.getD i undef)
  hr : HRel E w g σ.nx σ.h
  ext : Ext B w g σ.nx σ.h
  df : a.defers = []

/-- A row that is not virtual lies in its block. -/
theorem owns_block {w : World} {g : G} {l e sz n : Nat} {xs : List Value} (hv : g.vt l = false) (h : w.ownsRow 0 e sz (handle g l n) n xs) :
    xs.length = n * sz ∧ n ≤ g.cap l ∧ g.cap l ≤ maxLen ∧ ∃ cur, w.heap[g.ρ l]? = some (.cells cur e (0, 0)) ∧ cur.size = g.cap l * sz ∧ cur.toList.take (n * sz) = xs := by
  obtain ⟨h1, h2⟩ := h
  simp only [handle, hv, Bool.false_eq_true, if_false] at h2
  rcases h2 with ⟨h2, _⟩ | ⟨b, cap, cur, h2, _, h3, h4, h5, h6, h7⟩
  · cases h2
  · injection h2 with e1 e2 e3
    injection e1 with e1
    injection e1 with e1 _ _
    subst e1; subst e3
    exact ⟨h1, h4, h5, cur, h3, h6, h7⟩

theorem Owned.lt {E : Env} {w : World} {g : G} {nx : Nat} {h : Nat → AO} (hr : HRel E w g nx h) {b : Nat} (ho : Owned g nx h b) : b < w.heap.size := by
  obtain ⟨l, hl, hd, hv, rfl⟩ := ho
  have := hr.hp l hl
  cases e : h l with
  | dead => exact absurd e hd
  | cells cs => rw [e] at this; obtain ⟨_, _, xs, t, hh, _⟩ := this; exact (Array.getElem?_eq_some_iff.1 hh).1
  | arr k e sz es =>
    rw [e] at this
    obtain ⟨_, _, _, _, xs, ho, _⟩ := this
    obtain ⟨_, _, _, cur, hh, _⟩ := owns_block hv ho
    exact (Array.getElem?_eq_some_iff.1 hh).1
  | map es => rw [e] at this; obtain ⟨_, _, ms, c, hh, _⟩ := this; exact (Array.getElem?_eq_some_iff.1 hh).1

/-- An object's word lasts as long as its own block and the lasting blocks do. -/
theorem OR.mono {w w' : World} {g g' : G} {nx nx' : Nat} (hg : GLe g nx g') (hn : nx ≤ nx') (hw : ∀ b, g.J b → w'.heap[b]? = w.heap[b]?) {l : Nat} (hl : l < nx) (hs : g'.κ l = g.κ l)
    {o : AO} (hb : o ≠ .dead → g.vt l = false → w'.heap[g.ρ l]? = w.heap[g.ρ l]?) (h : OR w g nx l o) : OR w' g' nx' l o := by
  obtain ⟨e1, e2, e3⟩ := hg.same l hl hs
  cases o with
  | dead => trivial
  | cells cs =>
    obtain ⟨h1, h2, xs, t, h3, h4, h6⟩ := h
    exact ⟨hs.trans h1, e3.trans h2, xs, t, by rw [e1, hb (by simp) h2]; exact h3, h4, fun i c x hc hx => (h6 i c x hc hx).mono hg hn hw⟩
  | arr k e sz es =>
    obtain ⟨h1, h0, h2, h3, xs, h4, h5⟩ := h
    refine ⟨hs.trans h1, h0, h2, by rw [e3, e2]; exact h3, xs, ?_, fun i c x hc hx => (h5 i c x hc hx).mono hg hn hw⟩
    have hh : handle g' l es.length = handle g l es.length := by unfold handle; rw [e1, e2, e3]
    rw [hh]
    cases hv : g.vt l with
    | true =>
      obtain ⟨rfl, hc⟩ := h3 hv
      refine ⟨h4.1, .inl ⟨by simp [handle, hv, hc], rfl⟩⟩
    | false =>
      obtain ⟨a1, a2, a3, cur, a4, a5, a6⟩ := owns_block hv h4
      exact ⟨a1, .inr ⟨g.ρ l, g.cap l, cur, by simp [handle, hv], Nat.zero_le _, by rw [hb (by simp) hv]; exact a4, a2, a3, a5, a6⟩⟩
  | map es =>
    obtain ⟨h1, h2, ms, clock, h3, h4, h5⟩ := h
    exact ⟨hs.trans h1, e3.trans h2, ms, clock, by rw [e1, hb (by simp) h2]; exact h3, h4, fun i e m he hm => ⟨(h5 i e m he hm).1, (h5 i e m he hm).2.mono hg hn hw⟩⟩

def upd {α : Type} (f : Nat → α) (i : Nat) (x : α) : Nat → α := fun j => if j = i then x else f j
theorem upd_same {α : Type} (f : Nat → α) (i : Nat) (x : α) : upd f i x i = x := by simp [upd]
theorem upd_ne {α : Type} (f : Nat → α) (i : Nat) (x : α) {j : Nat} (h : j ≠ i) : upd f i x j = f j := by simp [upd, h]

end Go.Proofs.YtdcpnpcmgfmenaaGreatDoor.Lg
/-
  The steps of code over abstract states. Conditions: none.
-/
namespace Go.Proofs.YtdcpnpcmgfmenaaGreatDoor.Lg
open Go Go.RowKit

def constAV : Value → AV
  | .agg cs => .d (.agg (cs.toList.map .v))
  | v => .d (.v v)

def ev (E : Env) (σ : St) : Operand → AV
  | .tmp t => σ.t t
  | .const v => constAV v
  | .global g => match E.GL g with
    | some cs => .dp cs 0
    | none => .any
  | .func f => .fn f []

def St.put (σ : St) (dst : Option Nat) (v : AV) : St :=
  match dst with
  | some d => { σ with t := upd σ.t d v }
  | none => σ

def dlt (dst : Option Nat) (n : Nat) : Bool :=
  match dst with
  | some d => decide (d < n)
  | none => true

theorem vr_const (w : World) (g : G) (nx : Nat) (v : Value) : VR w g nx (constAV v) v := by
  unfold constAV
  split
  · rename_i cs
    refine .d _ _ (.agg _ _ (by simp) fun i c x hc hx => ?_)
    simp only [List.getElem?_map, Option.map_eq_some_iff] at hc
    obtain ⟨y, hy, rfl⟩ := hc
    rw [Array.getElem?_toList] at hy
    rw [hy] at hx
    cases hx
    exact .v _
  · exact .d _ _ (.v _)

theorem ev_ok {E : Env} {B : Base} {g : G} {σ : St} {w : World} {a : Act} (h : Rel E B g σ w a) (x : Operand) : VR w g σ.nx (ev E σ x) (a.eval x) := by
  cases x with
  | tmp t => exact h.tm t
  | const v => exact vr_const w g _ v
  | global i =>
    simp only [ev, Act.eval]
    split
    · rename_i cs hcs
      obtain ⟨hj, f, h1, h2⟩ := h.hr.gl i cs hcs
      exact .dp cs 0 i 0 f hj (fun j c hc => by simpa using h1 j c hc) h2
    · exact .any _
  | func f => exact .fn f [] #[] rfl (fun i c x hc => by simp at hc)

theorem rel_put {E : Env} {B : Base} {g : G} {σ : St} {w : World} {a : Act} (h : Rel E B g σ w a) {dst : Option Nat} {v : AV} {x : Value} (hd : dlt dst σ.n = true) (hv : VR w g σ.nx v x) :
    Rel E B g (σ.put dst v) w (a.put dst x) := by
  cases dst with
  | none => exact h
  | some d =>
    have hd' : d < σ.n := by simpa [dlt] using hd
    refine ⟨by simp [Act.put, St.put, h.size], fun i => ?_, h.hr, h.ext, h.df⟩
    simp only [St.put, Act.put, upd, Array.getD_eq_getD_getElem?]
    by_cases hi : i = d
    · subst hi
      rw [Array.getElem?_setIfInBounds_self_of_lt (by rw [h.size]; exact hd')]
      simpa using hv
    · rw [Array.getElem?_setIfInBounds_ne (Ne.symm hi)]
      have := h.tm i
      rw [Array.getD_eq_getD_getElem?] at this
      simpa [hi] using this

def G.at (g : G) (l b c : Nat) (v : Bool) : G := { g with ρ := upd g.ρ l b, κ := upd g.κ l 0, cap := upd g.cap l c, vt := upd g.vt l v }

theorem gle_at (g : G) (nx b c : Nat) (v : Bool) : GLe g nx (g.at nx b c v) :=
  ⟨fun _ h => h, fun _ h => h, fun l hl => by simp [G.at, upd, Nat.ne_of_lt hl], fun l hl _ => by simp [G.at, upd, Nat.ne_of_lt hl]⟩

/-- What lasts behind a call: what lasted, and what is new. -/
def resI (I : Nat → Prop) (w w' : World) : Nat → Prop := fun b => I b ∨ (w.heap.size ≤ b ∧ b < w'.heap.size)

section
variable {E : Env} {B : Base} {Q : Exit → St → Prop} {σ : St} {g : G} {w : World} {a : Act}
/-- Temporaries and objects go on behind whatever leaves the lasting blocks and the objects as they are. -/
theorem tm_mono {w' : World} {g' : G} {nx' : Nat} (hr : Rel E B g σ w a) (hg : GLe g σ.nx g') (hn : σ.nx ≤ nx') (hw : ∀ b, g.J b → w'.heap[b]? = w.heap[b]?) :
    ∀ i, VR w' g' nx' (σ.t i) (a.tmps.getD i undef) := fun i => (hr.tm i).mono hg hn hw

theorem gl_mono {w' : World} {g' : G} {nx : Nat} {h : Nat → AO} (hr : HRel E w g nx h) (hI : ∀ b, g.I b → g'.I b) (hJ : ∀ b, g.J b → g'.J b) (hw : ∀ b, g.J b → w'.heap[b]? = w.heap[b]?) :
    ∀ i cs, E.GL i = some cs → g'.J i ∧ ∃ f : Nat → Value, (∀ (j : Nat) c, cs[j]? = some c → w'.cell? ⟨i, j, none⟩ = some (f j)) ∧ ∀ (j : Nat) c, cs[j]? = some c → DR w' g'.I g'.J c (f j) := by
  intro i cs hcs
  obtain ⟨h1, f, h2, h3⟩ := hr.gl i cs hcs
  exact ⟨hJ _ h1, f, fun j c hc => by rw [World.cell?_of_block (w := w) (hw i h1)]; exact h2 j c hc, fun j c hc => (h3 j c hc).mono hI hJ hw⟩

/-- What is told goes on behind a call that turns nothing. -/
theorem rel_below {w' : World} (hr : Rel E B g σ w a) (hb : Below w.heap.size w w') :
    Rel E B { g with I := resI g.I w w', J := fun b => g.J b ∨ resI g.I w w' b } σ w' a := by
  have hJ : ∀ b, g.J b → w'.heap[b]? = w.heap[b]? := fun b h => hb.block b (hr.hr.Jlt b h)
  have hg : GLe g σ.nx { g with I := resI g.I w w', J := fun b => g.J b ∨ resI g.I w w' b } := ⟨fun _ h => .inl h, fun _ h => .inl h, fun _ _ => Nat.le_refl _, fun _ _ _ => ⟨rfl, rfl, rfl⟩⟩
  have hx := hr.ext
  refine ⟨hr.size, tm_mono (σ := σ) hr hg (Nat.le_refl _) hJ, ⟨fun l hl => (hr.hr.hp l hl).mono hg (Nat.le_refl _) hJ hl rfl (fun hd hv => hb.block _ (Owned.lt hr.hr ⟨l, hl, hd, hv, rfl⟩)), hr.hr.hd, hr.hr.inj, ?_, fun b h => .inr h, ?_,
    gl_mono (g' := { g with I := resI g.I w w', J := fun b => g.J b ∨ resI g.I w w' b }) hr.hr (fun _ h => .inl h) (fun _ h => .inl h) hJ⟩, ?_, hr.df⟩
  · rintro b (h | h | h)
    · have := hr.hr.Jlt b h; have := hb.size; omega
    · have := hr.hr.Jlt b (hr.hr.IJ b h); have := hb.size; omega
    · exact h.2
  · rintro b (h | h | h) ho
    · exact hr.hr.dis b h ho
    · exact hr.hr.dis b (hr.hr.IJ b h) ho
    · have := Owned.lt hr.hr ho; omega
  · refine ⟨hb.os.trans hx.os, hb.tape.trans hx.tape, hb.output.trans hx.output, by have := hx.size; have := hb.size; omega, fun b h1 h2 => ?_, hx.gle.trans hx.nle hg, hx.nle, ?_, hx.own⟩
    · rw [hb.block b (by have := hx.size; omega)]; exact hx.block b h1 h2
    · rintro b (h | h)
      · exact hx.inew b h
      · exact .inr (.inr (by have := hx.size; omega))

theorem heap_alloc_lt (w : World) (o : Obj) {k : Nat} (h : k < w.heap.size) : (w.alloc o).heap[k]? = w.heap[k]? := by
  show (w.heap.push o)[k]? = _
  rw [Array.getElem?_push, if_neg (by omega)]
theorem heap_alloc_new (w : World) (o : Obj) : (w.alloc o).heap[w.heap.size]? = some o := by
  show (w.heap.push o)[w.heap.size]? = some o
  simp

theorem rel_alloc (hr : Rel E B g σ w a) (obj : Obj) (o : AO) (ho : o ≠ .dead) (c0 : Nat)
    (hor : OR (w.alloc obj) (g.at σ.nx w.heap.size c0 false) (σ.nx + 1) σ.nx o) :
    Rel E B (g.at σ.nx w.heap.size c0 false) { σ with h := upd σ.h σ.nx o, nx := σ.nx + 1 } (w.alloc obj) a := by
  have hg := gle_at g σ.nx w.heap.size c0 false
  have hw : ∀ b, g.J b → (w.alloc obj).heap[b]? = w.heap[b]? := fun b hb => heap_alloc_lt w obj (hr.hr.Jlt b hb)
  have hold : ∀ b, Owned (g.at σ.nx w.heap.size c0 false) (σ.nx + 1) (upd σ.h σ.nx o) b → Owned g σ.nx σ.h b ∨ b = w.heap.size := by
    rintro b ⟨l, hl, hd, hv, hb⟩
    by_cases e : l = σ.nx
    · subst e; right; simpa [G.at, upd] using hb.symm
    · left
      have hl' : l < σ.nx := by omega
      refine ⟨l, hl', by simpa [upd, e] using hd, by simpa [G.at, upd, e] using hv, by simpa [G.at, upd, e] using hb⟩
  refine ⟨hr.size, tm_mono (σ := σ) hr hg (Nat.le_succ _) hw, ⟨?_, ?_, ?_, ?_, hr.hr.IJ, ?_, gl_mono hr.hr (fun _ h => h) (fun _ h => h) hw⟩, ?_, hr.df⟩
  · intro l hl
    by_cases e : l = σ.nx
    · subst e; simp only [upd, if_true]; exact hor
    · have hl' : l < σ.nx := by simp at hl; omega
      simp only [upd, e, if_false]
      refine (hr.hr.hp l hl').mono hg (Nat.le_succ _) hw hl' (by simp [G.at, upd, e]) (fun hd hv => heap_alloc_lt w obj (Owned.lt hr.hr ⟨l, hl', hd, hv, rfl⟩))
  · intro l hl
    simp at hl
    simp only [upd]; rw [if_neg (by omega)]; exact hr.hr.hd l (by omega)
  · intro l l' hl hl' hd hd' hv hv' he
    simp only at hl hl'
    by_cases e : l = σ.nx
    · by_cases e' : l' = σ.nx
      · rw [e, e']
      · exfalso
        have h1 : l' < σ.nx := by omega
        have := Owned.lt hr.hr ⟨l', h1, by simpa [upd, e'] using hd', by simpa [G.at, upd, e'] using hv', rfl⟩
        simp [G.at, upd, e, e'] at he
        omega
    · by_cases e' : l' = σ.nx
      · exfalso
        have h1 : l < σ.nx := by omega
        have := Owned.lt hr.hr ⟨l, h1, by simpa [upd, e] using hd, by simpa [G.at, upd, e] using hv, rfl⟩
        simp [G.at, upd, e, e'] at he
        omega
      · exact hr.hr.inj l l' (by omega) (by omega) (by simpa [upd, e] using hd) (by simpa [upd, e'] using hd') (by simpa [G.at, upd, e] using hv) (by simpa [G.at, upd, e'] using hv') (by simpa [G.at, upd, e, e'] using he)
  · intro b hb
    have := hr.hr.Jlt b hb
    simp; omega
  · intro b hb ho
    rcases hold b ho with h | h
    · exact hr.hr.dis b hb h
    · have := hr.hr.Jlt b hb; omega
  · have hx := hr.ext
    refine ⟨hx.os, hx.tape, hx.output, by simp; have := hx.size; omega, fun b hb hn => ?_, hx.gle.trans hx.nle hg, by have := hx.nle; simp; omega, hx.inew, fun b hb => ?_⟩
    · rw [heap_alloc_lt w obj (by have := hx.size; omega)]; exact hx.block b hb hn
    · rcases hold b hb with h | h
      · exact hx.own b h
      · right; have := hx.size; omega

/-- The ghosts behind what makes an object (and perhaps more that is data). -/
def G.mk' (g : G) (l b c : Nat) (v : Bool) (w w' : World) : G :=
  { g.at l b c v with I := fun x => g.I x ∨ (w.heap.size ≤ x ∧ x < w'.heap.size ∧ x ≠ b), J := fun x => g.J x ∨ (w.heap.size ≤ x ∧ x < w'.heap.size ∧ x ≠ b) }
theorem gle_mk (g : G) (nx b c : Nat) (v : Bool) (w w' : World) : GLe g nx (g.mk' nx b c v w w') :=
  ⟨fun _ h => .inl h, fun _ h => .inl h, fun l hl => by simp [G.mk', G.at, upd, Nat.ne_of_lt hl], fun l hl _ => by simp [G.mk', G.at, upd, Nat.ne_of_lt hl]⟩

theorem rel_new {w' : World} (hr : Rel E B g σ w a) (hb : Below w.heap.size w w') (b c : Nat) (v : Bool) (hbv : v = true ∨ (w.heap.size ≤ b ∧ b < w'.heap.size)) (o : AO)
    (hor : OR w' (g.mk' σ.nx b c v w w') (σ.nx + 1) σ.nx o) : Rel E B (g.mk' σ.nx b c v w w') { σ with h := upd σ.h σ.nx o, nx := σ.nx + 1 } w' a := by
  have hg := gle_mk g σ.nx b c v w w'
  have hw : ∀ x, g.J x → w'.heap[x]? = w.heap[x]? := fun x hx => hb.block x (hr.hr.Jlt x hx)
  have hsz := hb.size
  have hold : ∀ y, Owned (g.mk' σ.nx b c v w w') (σ.nx + 1) (upd σ.h σ.nx o) y → Owned g σ.nx σ.h y ∨ (y = b ∧ v = false) := by
    rintro y ⟨l, hl, hd, hv, hy⟩
    by_cases e : l = σ.nx
    · subst e; right; simp [G.mk', G.at, upd] at hy hv; exact ⟨hy.symm, hv⟩
    · left
      have hl' : l < σ.nx := by omega
      exact ⟨l, hl', by simpa [upd, e] using hd, by simpa [G.mk', G.at, upd, e] using hv, by simpa [G.mk', G.at, upd, e] using hy⟩
  have hown : ∀ y, Owned g σ.nx σ.h y → y < w.heap.size := fun y h => Owned.lt hr.hr h
  refine ⟨hr.size, tm_mono (σ := σ) hr hg (Nat.le_succ _) hw, ⟨?_, ?_, ?_, ?_, ?_, ?_, gl_mono hr.hr hg.I hg.J hw⟩, ?_, hr.df⟩
  · intro l hl
    by_cases e : l = σ.nx
    · subst e; simp only [upd, if_true]; exact hor
    · have hl' : l < σ.nx := by simp at hl; omega
      simp only [upd, e, if_false]
      exact (hr.hr.hp l hl').mono hg (Nat.le_succ _) hw hl' (by simp [G.mk', G.at, upd, e]) (fun hd hv => hb.block _ (hown _ ⟨l, hl', hd, hv, rfl⟩))
  · intro l hl
    simp at hl
    simp only [upd]; rw [if_neg (by omega)]; exact hr.hr.hd l (by omega)
  · intro l l' hl hl' hd hd' hv hv' he
    simp only at hl hl'
    by_cases e : l = σ.nx
    · by_cases e' : l' = σ.nx
      · rw [e, e']
      · exfalso
        have h1 : l' < σ.nx := by omega
        have := hown _ ⟨l', h1, by simpa [upd, e'] using hd', by simpa [G.mk', G.at, upd, e'] using hv', rfl⟩
        simp [G.mk', G.at, upd, e, e'] at he hv
        rcases hbv with h | h
        · rw [h] at hv; cases hv
        · omega
    · by_cases e' : l' = σ.nx
      · exfalso
        have h1 : l < σ.nx := by omega
        have := hown _ ⟨l, h1, by simpa [upd, e] using hd, by simpa [G.mk', G.at, upd, e] using hv, rfl⟩
        simp [G.mk', G.at, upd, e, e'] at he hv'
        rcases hbv with h | h
        · rw [h] at hv'; cases hv'
        · omega
      · exact hr.hr.inj l l' (by omega) (by omega) (by simpa [upd, e] using hd) (by simpa [upd, e'] using hd') (by simpa [G.mk', G.at, upd, e] using hv) (by simpa [G.mk', G.at, upd, e'] using hv') (by simpa [G.mk', G.at, upd, e, e'] using he)
  · rintro x (h | h)
    · have := hr.hr.Jlt x h; omega
    · exact h.2.1
  · rintro x (h | h)
    · exact .inl (hr.hr.IJ x h)
    · exact .inr h
  · rintro x hx ho
    rcases hold x ho with h | ⟨rfl, hv⟩
    · rcases hx with hx | hx
      · exact hr.hr.dis x hx h
      · have := hown x h; omega
    · rcases hbv with h | h
      · rw [h] at hv; cases hv
      · rcases hx with hx | hx
        · have := hr.hr.Jlt x hx; omega
        · exact hx.2.2 rfl
  · have hx := hr.ext
    refine ⟨hb.os.trans hx.os, hb.tape.trans hx.tape, hb.output.trans hx.output, by have := hx.size; omega, fun x h1 h2 => ?_, hx.gle.trans hx.nle hg, by have := hx.nle; simp; omega, ?_, fun x hx' => ?_⟩
    · rw [hb.block x (by have := hx.size; omega)]; exact hx.block x h1 h2
    · rintro x (h | h)
      · exact hx.inew x h
      · exact .inr (.inr (by have := hx.size; omega))
    · rcases hold x hx' with h | ⟨rfl, hv⟩
      · exact hx.own x h
      · rcases hbv with h | h
        · rw [h] at hv; cases hv
        · right; have := hx.size; omega

end

def QC (E : Env) (B : Base) (Q : Exit → St → Prop) : Exit → Act → World → Prop := fun e a w => ∃ g σ, Rel E B g σ w a ∧ Q e σ

/-- The code, begun in whatever state that σ tells of, ends as Q says. -/
def SWP (E : Env) (B : Base) (c : Code) (Q : Exit → St → Prop) (σ : St) : Prop := ∀ g w a, Rel E B g σ w a → c.wp E.P (QC E B Q) a w

section
variable {E : Env} {B : Base} {Q : Exit → St → Prop} {σ : St}

def after (K : St → Prop) (Q : Exit → St → Prop) : Exit → St → Prop
  | .normal, σ => K σ
  | e, σ => Q e σ

theorem SWP.mono {c : Code} {Q' : Exit → St → Prop} (h : SWP E B c Q σ) (hq : ∀ e σ, Q e σ → Q' e σ) : SWP E B c Q' σ :=
  fun g w a hr => wp_mono (h g w a hr) fun e a w ⟨g', σ', hr', hq'⟩ => ⟨g', σ', hr', hq _ _ hq'⟩

theorem swp_seq {x y : Code} (h : SWP E B x (after (SWP E B y Q) Q) σ) : SWP E B (.seq x y) Q σ := by
  intro g w a hr
  refine wp_seq (wp_mono (h g w a hr) ?_)
  rintro e a' w' ⟨g', σ', hr', hq⟩
  cases e with
  | normal => exact hq g' w' a' hr'
  | exit id => exact ⟨g', σ', hr', hq⟩
  | goto l => exact ⟨g', σ', hr', hq⟩
  | ret => exact ⟨g', σ', hr', hq⟩
  | panic ch => exact ⟨g', σ', hr', hq⟩
  | outgrown => exact ⟨g', σ', hr', hq⟩

theorem swp_skip (h : Q .normal σ) : SWP E B .skip Q σ := fun g _ _ hr => wp_skip ⟨g, σ, hr, h⟩
theorem swp_exit {id : Nat} (h : Q (.exit id) σ) : SWP E B (.exit id) Q σ := fun g _ _ hr => wp_exit ⟨g, σ, hr, h⟩
theorem swp_ret (h : Q .ret σ) : SWP E B .ret Q σ := fun g _ _ hr => wp_ret ⟨g, σ, hr, h⟩
theorem swp_label {l : Nat} (h : Q .normal σ) : SWP E B (.label l) Q σ := fun g _ _ hr => wp_label ⟨g, σ, hr, h⟩

theorem vr_bool {w : World} {g : G} {nx : Nat} {b : Bool} {x : Value} (h : VR w g nx (.d (.v (.bool b))) x) : x = .bool b := by
  cases h with
  | d _ _ h => cases h; rfl
theorem vr_val {w : World} {g : G} {nx : Nat} {v x : Value} (h : VR w g nx (.d (.v v)) x) : x = v := by
  cases h with
  | d _ _ h => cases h; rfl

theorem swp_cond {c : Operand} {x y : Code} (b : Bool) (hb : ev E σ c = .d (.v (.bool b))) (ht : b = true → SWP E B x Q σ) (hf : b = false → SWP E B y Q σ) : SWP E B (.cond c x y) Q σ := by
  intro g w a hr
  have he := ev_ok hr c
  rw [hb] at he
  refine wp_cond_split (vr_bool he) (fun e => ht e g w a hr) (fun e => hf e g w a hr)

def inBlk (id : Nat) (Q : Exit → St → Prop) : Exit → St → Prop
  | .exit id', σ => if id' = id then Q .normal σ else Q (.exit id') σ
  | e, σ => Q e σ

theorem after_exit {K : St → Prop} {id : Nat} (h : Q (.exit id) σ) : after K Q (.exit id) σ := h
theorem after_ret {K : St → Prop} (h : Q .ret σ) : after K Q .ret σ := h
theorem inblk_ret {id : Nat} (h : Q .ret σ) : inBlk id Q .ret σ := h
theorem after_go {K : St → Prop} (h : K σ) : after K Q .normal σ := h
theorem inblk_go {id : Nat} (h : Q .normal σ) : inBlk id Q .normal σ := h
theorem inblk_hit {id : Nat} (h : Q .normal σ) : inBlk id Q (.exit id) σ := by simp only [inBlk, if_true]; exact h
theorem inblk_miss {id id' : Nat} (hne : (id' == id) = false) (h : Q (.exit id') σ) : inBlk id Q (.exit id') σ := by
  have : ¬ id' = id := by simpa using hne
  simp only [inBlk, this, if_false]; exact h

theorem swp_block {id : Nat} {c : Code} (h : SWP E B c (inBlk id Q) σ) : SWP E B (.block id c) Q σ := by
  intro g w a hr
  refine wp_block (wp_mono (h g w a hr) ?_)
  rintro e a' w' ⟨g', σ', hr', hq⟩
  cases e with
  | exit id' =>
    simp only [Exit.inBlock, inBlk] at *
    split
    · rename_i e; rw [if_pos e] at hq; exact ⟨g', σ', hr', hq⟩
    · rename_i e; rw [if_neg e] at hq; exact ⟨g', σ', hr', hq⟩
  | normal => exact ⟨g', σ', hr', hq⟩
  | goto l => exact ⟨g', σ', hr', hq⟩
  | ret => exact ⟨g', σ', hr', hq⟩
  | panic ch => exact ⟨g', σ', hr', hq⟩
  | outgrown => exact ⟨g', σ', hr', hq⟩

theorem wp_loop_n {P : Program} {Q : Exit → Act → World → Prop} {a : Act} {w : World} {c : Code} (I : Nat → Act → World → Prop) (n : Nat) (h0 : I n a w)
    (round : ∀ n a w, I n a w → c.wp P (Exit.then (fun a' w' => ∃ m, m < n ∧ I m a' w') Q) a w) : (Code.loop c).wp P Q a w := by
  intro b k cs
  have key : ∀ n a w, I n a w →
      ∃ e a' w', Q e a' w' ∧ Arrives P (lone (b.at a (.code c :: .inLoop c :: k)) cs w) b k cs e a' w' := by
    intro n
    induction n using Nat.strongRecOn with
    | _ n ih =>
      intro a w hI
      obtain ⟨e, a₁, w₁, hq, harr⟩ := round n a w hI b (.inLoop c :: k) cs
      cases e with
      | normal =>
        obtain ⟨m, hlt, hI₁⟩ := hq
        obtain ⟨e₂, a₂, w₂, hq₂, harr₂⟩ := ih m hlt a₁ w₁ hI₁
        exact ⟨e₂, a₂, w₂, hq₂, .of_steps (Steps.trans harr (.one step_inLoop)) harr₂⟩
      | exit id => exact ⟨_, a₁, w₁, hq, .pass (x := .inLoop c) rfl (fun _ _ => .inl (by simp)) harr⟩
      | goto l => exact ⟨_, a₁, w₁, hq, .pass (x := .inLoop c) rfl (fun _ _ => .inl (by simp)) harr⟩
      | ret => exact ⟨_, a₁, w₁, hq, .pass (x := .inLoop c) rfl (fun _ _ => .inl (by simp)) harr⟩
      | panic ch => exact ⟨_, a₁, w₁, hq, .pass (x := .inLoop c) rfl (fun _ _ => .inl (by simp)) harr⟩
      | outgrown => exact ⟨_, a₁, w₁, hq, .pass (x := .inLoop c) rfl (fun _ _ => .inl (by simp)) harr⟩
  obtain ⟨e, a', w', hq, harr⟩ := key n a w h0
  exact ⟨e, a', w', hq, .of_steps (.one step_loop) harr⟩

/-- A loop: whoever stands at a round's head with n rounds at most before him. -/
theorem swp_loop {c : Code} (I : Nat → St → Prop) (n : Nat) (h0 : I n σ) (round : ∀ n σ, I n σ → SWP E B c (after (fun σ' => ∃ m, m < n ∧ I m σ') Q) σ) : SWP E B (.loop c) Q σ := by
  intro g w a hr
  refine wp_loop_n (fun n a w => ∃ g σ, Rel E B g σ w a ∧ I n σ) n ⟨g, σ, hr, h0⟩ ?_
  rintro n a w ⟨g, σ, hr, hI⟩
  refine wp_mono (round n σ hI g w a hr) ?_
  rintro e a' w' ⟨g', σ', hr', hq⟩
  cases e with
  | normal => obtain ⟨m, hm, hI'⟩ := hq; exact ⟨m, hm, g', σ', hr', hI'⟩
  | exit id => exact ⟨g', σ', hr', hq⟩
  | goto l => exact ⟨g', σ', hr', hq⟩
  | ret => exact ⟨g', σ', hr', hq⟩
  | panic ch => exact ⟨g', σ', hr', hq⟩
  | outgrown => exact ⟨g', σ', hr', hq⟩

/-- An operation's ways: any; one that turns nothing and makes nothing; one that makes an object. -/
inductive Md where
  | all | quiet | new
class Qt (q : Md) : Prop where
  h : q ≠ .new
class Nw (q : Md) : Prop where
  h : q ≠ .quiet
instance : Qt .all := ⟨by simp⟩
instance : Qt .quiet := ⟨by simp⟩
instance : Nw .all := ⟨by simp⟩
instance : Nw .new := ⟨by simp⟩

def G.ext (g : G) (w w' : World) : G := { g with I := resI g.I w w', J := fun b => g.J b ∨ resI g.I w w' b }

def QStep (E : Env) (o : Oper) (σ : St) (v : AV) : Prop :=
  ∀ B g w a, Rel E B g σ w a → ∀ (next : Act → World → Prop) (Q' : Exit → Act → World → Prop), (∀ w' x, Below w.heap.size w w' → VR w' (g.ext w w') σ.nx v x → next (a.put o.dst x) w') → o.wp E.P a w next Q'
def AStep (E : Env) (o : Oper) (σ : St) (v : AV) (ob : AO) : Prop :=
  ∀ B g w a, Rel E B g σ w a → ∀ (next : Act → World → Prop) (Q' : Exit → Act → World → Prop), (∀ w' x b c vt, Below w.heap.size w w' → (vt = true ∨ (w.heap.size ≤ b ∧ b < w'.heap.size)) →
    OR w' (g.mk' σ.nx b c vt w w') (σ.nx + 1) σ.nx ob → VR w' (g.mk' σ.nx b c vt w w') (σ.nx + 1) v x → next (a.put o.dst x) w') → o.wp E.P a w next Q'

theorem below_alloc (w : World) (obj : Obj) : Below w.heap.size w (w.alloc obj) := (Below.refl _ _).alloc (Nat.le_refl _) _
theorem mk_alloc (g : G) (l c : Nat) (w : World) (obj : Obj) : g.mk' l w.heap.size c false w (w.alloc obj) = g.at l w.heap.size c false := by
  unfold G.mk' G.at
  simp only [G.mk.injEq, true_and, and_true]
  refine ⟨funext fun x => ?_, funext fun x => ?_⟩ <;> (simp only [eq_iff_iff]; constructor)
  · rintro (h | h)
    · exact h
    · simp at h; omega
  · exact .inl
  · rintro (h | h)
    · exact h
    · simp at h; omega
  · exact .inl
/-- An operation that does but make an object. -/
theorem astep_of {E : Env} {o : Oper} {σ : St} {v : AV} {ob : AO} (h : ∀ B g w a, Rel E B g σ w a → ∃ x obj c0, (execOp a.eval o).run E.P w = .ok (.value x) (w.alloc obj) ∧ OR (w.alloc obj) (g.at σ.nx w.heap.size c0 false) (σ.nx + 1) σ.nx ob ∧ VR (w.alloc obj) (g.at σ.nx w.heap.size c0 false) (σ.nx + 1) v x) :
    AStep E o σ v ob := fun B g w a hr next Q' hn => by
  obtain ⟨x, obj, c0, hx, hor, hv⟩ := h B g w a hr
  unfold Oper.wp
  rw [hx, Oper.upon_value]
  exact hn _ x w.heap.size c0 false (below_alloc w obj) (.inr ⟨Nat.le_refl _, by simp⟩) (by rw [mk_alloc]; exact hor) (by rw [mk_alloc]; exact hv)

/-- One operation. -/
def Step (q : Md) (E : Env) (B : Base) (o : Oper) (K : St → Prop) (Q : Exit → St → Prop) (σ : St) : Prop :=
  match q with
  | .all => ∀ g w a, Rel E B g σ w a → ∀ next : Act → World → Prop, (∀ g' σ' w' a', Rel E B g' σ' w' a' → K σ' → next a' w') → o.wp E.P a w next (QC E B Q)
  | .quiet => ∃ v, QStep E o σ v ∧ dlt o.dst σ.n = true ∧ K (σ.put o.dst v)
  | .new => ∃ v ob, AStep E o σ v ob ∧ ob ≠ .dead ∧ dlt o.dst σ.n = true ∧ K (St.put { σ with h := upd σ.h σ.nx ob, nx := σ.nx + 1 } o.dst v)

/-- A region's operations, from one on. -/
def SOps (E : Env) (B : Base) (ops : Array Oper) (l : List Oper) (Q : Exit → St → Prop) (σ : St) : Prop := ∀ g w a, Rel E B g σ w a → wpList E.P ops (QC E B Q) l a w

theorem sops_nil {ops : Array Oper} (h : Q .normal σ) : SOps E B ops [] Q σ := fun g w a hr => wpList_nil ⟨g, σ, hr, h⟩

/-- What stands where an operation did not run. -/
abbrev un : AV := .d (.v undef)
/-- Does the operation run? -/
def runs (ops : Array Oper) (o : Oper) (σ : St) (b : Bool) : Prop :=
  match o.guard with
  | none => b = true
  | some (j, want) => ∃ d, (ops[j]?).bind (·.dst) = some d ∧ d < σ.n ∧ ((∃ t, σ.t d = .d (.v (.bool t)) ∧ b = (t == want)) ∨ (σ.t d = un ∧ b = false))

theorem runs_ok {ops : Array Oper} {o : Oper} {b : Bool} (h : runs ops o σ b) {g : G} {w : World} {a : Act} (hr : Rel E B g σ w a) : Region.wanted o (yielded ops a.tmps) = b := by
  unfold runs at h
  unfold Region.wanted
  split at h
  · rename_i hg; rw [hg]; exact h.symm
  · rename_i j want hg
    rw [hg]
    obtain ⟨d, h1, h2, ⟨t, h3, rfl⟩ | ⟨h3, rfl⟩⟩ := h
    · have ht := hr.tm d
      rw [h3] at ht
      have hx := vr_bool ht
      rw [Array.getD_eq_getD_getElem?] at hx
      have hlt : d < a.tmps.size := by rw [hr.size]; exact h2
      rw [Array.getElem?_eq_getElem hlt] at hx
      simp only [Option.getD_some] at hx
      simp only [yielded, h1, Option.bind_some, Array.getElem?_eq_getElem hlt, hx]
      cases t <;> cases want <;> rfl
    · have ht := hr.tm d
      rw [h3] at ht
      have hx := vr_val ht
      rw [Array.getD_eq_getD_getElem?] at hx
      have hlt : d < a.tmps.size := by rw [hr.size]; exact h2
      rw [Array.getElem?_eq_getElem hlt] at hx
      simp only [Option.getD_some] at hx
      simp only [yielded, h1, Option.bind_some, Array.getElem?_eq_getElem hlt, hx, undef]
      cases want <;> rfl

theorem sops_cons {ops : Array Oper} {o : Oper} {l : List Oper} (b : Bool) (hb : runs ops o σ b) (ht : b = true → Step .all E B o (SOps E B ops l Q) Q σ)
    (hf : b = false → dlt o.dst σ.n = true ∧ SOps E B ops l Q (σ.put o.dst un)) : SOps E B ops (o :: l) Q σ := by
  intro g w a hr
  have hw := runs_ok hb hr
  unfold wpList
  cases b with
  | true => rw [if_pos hw]; exact .inl (ht rfl g w a hr _ fun g' σ' w' a' hr' hK => hK g' w' a' hr')
  | false =>
    rw [if_neg (by rw [hw]; simp)]
    exact (hf rfl).2 g w _ (rel_put hr (hf rfl).1 (.d _ _ (.v _)))

theorem swp_region {id : Nat} {l : List Oper} (h : SOps E B l.toArray l Q σ) : SWP E B (.region id l.toArray false) Q σ := fun g w a hr => wp_region_lit (h g w a hr)

theorem vr_ext {g : G} {w w' : World} {nx : Nat} {v : AV} {x : Value} (hJ : ∀ b, g.J b → w'.heap[b]? = w.heap[b]?) (h : VR w g nx v x) : VR w' (g.ext w w') nx v x :=
  h.mono (g' := g.ext w w') ⟨fun _ h => Or.inl h, fun _ h => Or.inl h, fun _ _ => Nat.le_refl _, fun _ _ _ => ⟨rfl, rfl, rfl⟩⟩ (Nat.le_refl _) hJ

/-- An operation that turns nothing. -/
theorem step_q {q : Md} [Qt q] {o : Oper} {K : St → Prop} (v : AV) (hq : QStep E o σ v) (hd : dlt o.dst σ.n = true) (hK : K (σ.put o.dst v)) : Step q E B o K Q σ := by
  cases q with
  | all =>
    intro g w a hr next hn
    exact hq B g w a hr next _ fun w' x hb hv => hn (g.ext w w') _ w' _ (rel_put (rel_below hr hb) hd hv) hK
  | quiet => exact ⟨v, hq, hd, hK⟩
  | new => exact absurd rfl (Qt.h (q := Md.new))

/-- An operation that only tells a value. -/
theorem step_val {q : Md} [Qt q] {o : Oper} {K : St → Prop} (v : AV) (hrun : ∀ B g w a, Rel E B g σ w a → ∃ x, (execOp a.eval o).run E.P w = .ok (.value x) w ∧ VR w g σ.nx v x)
    (hd : dlt o.dst σ.n = true) (hK : K (σ.put o.dst v)) : Step q E B o K Q σ := by
  refine step_q v (fun B g w a hr next Q' hn => ?_) hd hK
  obtain ⟨x, hx, hv⟩ := hrun B g w a hr
  unfold Oper.wp
  rw [hx, Oper.upon_value]
  exact hn w x (Below.refl _ _) (vr_ext (fun _ _ => rfl) hv)

/-- An operation that makes an object. -/
theorem step_newW {q : Md} [Nw q] {o : Oper} {K : St → Prop} (v : AV) (ob : AO) (hne : ob ≠ .dead) (ha : AStep E o σ v ob)
    (hd : dlt o.dst σ.n = true) (hK : K (St.put { σ with h := upd σ.h σ.nx ob, nx := σ.nx + 1 } o.dst v)) : Step q E B o K Q σ := by
  cases q with
  | all =>
    intro g w a hr next hn
    exact ha B g w a hr next _ fun w' x b c vt hb hbv hor hv => hn _ _ _ _ (rel_put (rel_new hr hb b c vt hbv ob hor) hd hv) hK
  | quiet => exact absurd rfl (Nw.h (q := Md.quiet))
  | new => exact ⟨v, ob, ha, hne, hd, hK⟩
theorem step_new {q : Md} [Nw q] {o : Oper} {K : St → Prop} (v : AV) (ob : AO) (hne : ob ≠ .dead) (ha : ∀ B g w a, Rel E B g σ w a → ∃ x obj c0, (execOp a.eval o).run E.P w = .ok (.value x) (w.alloc obj) ∧ OR (w.alloc obj) (g.at σ.nx w.heap.size c0 false) (σ.nx + 1) σ.nx ob ∧ VR (w.alloc obj) (g.at σ.nx w.heap.size c0 false) (σ.nx + 1) v x)
    (hd : dlt o.dst σ.n = true) (hK : K (St.put { σ with h := upd σ.h σ.nx ob, nx := σ.nx + 1 } o.dst v)) : Step q E B o K Q σ := step_newW v ob hne (astep_of ha) hd hK

/-- An operation that makes or turns objects of the call's own. -/
theorem step_obj {o : Oper} {K : St → Prop} (v : AV) (h' : Nat → AO) (nx' : Nat)
    (hrun : ∀ g w a, Rel E B g σ w a → ∃ x w' g', (execOp a.eval o).run E.P w = .ok (.value x) w' ∧ Rel E B g' { σ with h := h', nx := nx' } w' a ∧ VR w' g' nx' v x)
    (hd : dlt o.dst σ.n = true) (hK : K (St.put { σ with h := h', nx := nx' } o.dst v)) : Step .all E B o K Q σ := by
  intro g w a hr next hn
  obtain ⟨x, w', g', hx, hr', hv⟩ := hrun g w a hr
  unfold Oper.wp
  rw [hx, Oper.upon_value]
  exact hn g' _ w' _ (rel_put hr' hd hv) hK

theorem step_skip {o : Oper} {K : St → Prop} (h' : Nat → AO) (nx' : Nat)
    (hrun : ∀ g w a, Rel E B g σ w a → ∃ w' g', (execOp a.eval o).run E.P w = .ok .skip w' ∧ Rel E B g' { σ with h := h', nx := nx' } w' a)
    (hd : dlt o.dst σ.n = true) (hK : K (St.put { σ with h := h', nx := nx' } o.dst .any)) : Step .all E B o K Q σ := by
  intro g w a hr next hn
  obtain ⟨w', g', hx, hr'⟩ := hrun g w a hr
  unfold Oper.wp
  rw [hx, Oper.upon_skip]
  exact hn g' _ w' _ (rel_put hr' hd (.any _)) hK
end
end Go.Proofs.YtdcpnpcmgfmenaaGreatDoor.Lg
/-
  Single operations over abstract states. Conditions: none.
-/
set_option linter.unusedSimpArgs false
set_option linter.unusedVariables false
namespace Go.Proofs.YtdcpnpcmgfmenaaGreatDoor.Lg
open Go Go.RowKit

section
variable {E : Env} {B : Base} {Q : Exit → St → Prop} {σ : St} {ops : Array Oper} {l : List Oper}

theorem sops_go {o : Oper} (hg : o.guard = none) (h : Step .all E B o (SOps E B ops l Q) Q σ) : SOps E B ops (o :: l) Q σ :=
  sops_cons true (by unfold runs; rw [hg]) (fun _ => h) (by simp)
theorem sops_yes {o : Oper} {j d : Nat} {want : Bool} (hg : o.guard = some (j, want)) (hd : (ops[j]?).bind (·.dst) = some d) (hn : decide (d < σ.n) = true) (ht : σ.t d = .d (.v (.bool want)))
    (h : Step .all E B o (SOps E B ops l Q) Q σ) : SOps E B ops (o :: l) Q σ :=
  sops_cons true (by unfold runs; rw [hg]; exact ⟨d, hd, by simpa using hn, .inl ⟨want, ht, by simp⟩⟩) (fun _ => h) (by simp)
theorem sops_no {o : Oper} {j d : Nat} {want : Bool} (hg : o.guard = some (j, want)) (hd : (ops[j]?).bind (·.dst) = some d) (hn : decide (d < σ.n) = true) (ht : σ.t d = .d (.v (.bool (!want))))
    (hl : dlt o.dst σ.n = true) (h : SOps E B ops l Q (σ.put o.dst un)) : SOps E B ops (o :: l) Q σ :=
  sops_cons false (by unfold runs; rw [hg]; exact ⟨d, hd, by simpa using hn, .inl ⟨!want, ht, by cases want <;> rfl⟩⟩) (by simp) (fun _ => ⟨hl, h⟩)
theorem sops_un {o : Oper} {j d : Nat} {want : Bool} (hg : o.guard = some (j, want)) (hd : (ops[j]?).bind (·.dst) = some d) (hn : decide (d < σ.n) = true) (ht : σ.t d = un)
    (hl : dlt o.dst σ.n = true) (h : SOps E B ops l Q (σ.put o.dst un)) : SOps E B ops (o :: l) Q σ :=
  sops_cons false (by unfold runs; rw [hg]; exact ⟨d, hd, by simpa using hn, .inr ⟨ht, rfl⟩⟩) (by simp) (fun _ => ⟨hl, h⟩)

variable {o : Oper} {K : St → Prop}

theorem st_move {q : Md} [Qt q] {v : AV} {x : Operand} (ho : o.op = .move x) (hd : dlt o.dst σ.n = true) (hv : ev E σ x = v) (hK : K (σ.put o.dst v)) : Step q E B o K Q σ := by
  subst hv
  exact step_val (ev E σ x) (fun B g w a hr => ⟨_, by simp only [execOp, ho]; rfl, ev_ok hr x⟩) hd hK
theorem st_assign {q : Md} [Qt q] {v : AV} {x : Operand} (ho : o.op = .assign x) (hd : dlt o.dst σ.n = true) (hv : ev E σ x = v) (hK : K (σ.put o.dst v)) : Step q E B o K Q σ := by
  subst hv
  exact step_val (ev E σ x) (fun B g w a hr => ⟨_, by simp only [execOp, ho]; rfl, ev_ok hr x⟩) hd hK
theorem st_pick {q : Md} [Qt q] {v : AV} {c x y : Operand} (ho : o.op = .pick c x y) {t : Bool} (hc : ev E σ c = .d (.v (.bool t))) (hd : dlt o.dst σ.n = true)
    (hv : (bif t then ev E σ x else ev E σ y) = v) (hK : K (σ.put o.dst v)) : Step q E B o K Q σ := by
  subst hv
  exact step_val _ (fun B g w a hr => by
    have he := ev_ok hr c
    rw [hc] at he
    have hb := vr_bool he
    refine ⟨if t = true then a.eval x else a.eval y, by simp only [execOp, ho, hb, asBool, Sem.run_bind, Sem.run_pure, Result.andThen_ok], ?_⟩
    cases t
    · exact ev_ok hr y
    · exact ev_ok hr x) hd hK

/-- The two bounds of data. -/
theorem vr_data {w : World} {g : G} {nx : Nat} {c : D} {x : Value} (h : VR w g nx (.d c) x) : DR w g.I g.J c x := by cases h with | d _ _ h => exact h

/-- A value's cells. -/
def cellsA : AV → Option (List AV)
  | .any => none
  | .d (.agg ds) => some (ds.map .d)
  | .d (.v (.agg _)) => none
  | .d (.v (.tuple _)) => none
  | .d x => some [.d x]
  | .agg cs => some cs
  | .tup _ => none
  | v => some [v]

theorem cellsA_ok {w : World} {g : G} {nx : Nat} {v : AV} {x : Value} {cs : List AV} (hc : cellsA v = some cs) (h : VR w g nx v x) :
    x.cells.size = cs.length ∧ ∀ (i : Nat) c y, cs[i]? = some c → x.cells[i]? = some y → VR w g nx c y := by
  have one : ∀ x : Value, x.oneCell' = true → x.cells = #[x] := fun x h => by cases x <;> first | rfl | cases h
  have single : ∀ (v : AV) (x : Value), VR w g nx v x → x.cells = #[x] → x.cells.size = [v].length ∧ ∀ (i : Nat) c y, [v][i]? = some c → x.cells[i]? = some y → VR w g nx c y := by
    intro v x h hx
    rw [hx]
    refine ⟨rfl, fun i c y h1 h2 => ?_⟩
    cases i with
    | zero => simp at h1 h2; subst h1; subst h2; exact h
    | succ i => simp at h1
  cases h with
  | any x => cases hc
  | d c x h =>
    cases h with
    | v x => cases x <;> simp [cellsA] at hc <;> subst hc <;> exact single _ _ (.d _ _ (.v _)) rfl
    | agg ds xs h1 h2 =>
      simp [cellsA] at hc; subst hc
      refine ⟨by simp [Value.cells, h1], fun i c y hi hy => ?_⟩
      simp only [List.getElem?_map, Option.map_eq_some_iff] at hi
      obtain ⟨z, hz, rfl⟩ := hi
      exact .d _ _ (h2 i z y hz hy)
    | nil s a n => simp [cellsA] at hc; subst hc; exact single _ _ (.d _ _ (.nil s a n)) rfl
    | sl s es b off n f h1 h2 h3 h4 h5 => simp [cellsA] at hc; subst hc; exact single _ _ (.d _ _ (.sl s es b off n f h1 h2 h3 h4 h5)) rfl
    | map es b ms clock h1 h2 h3 h4 h5 => simp [cellsA] at hc; subst hc; exact single _ _ (.d _ _ (.map es b ms clock h1 h2 h3 h4 h5)) rfl
  | agg cs' xs h1 h2 => simp [cellsA] at hc; subst hc; exact ⟨h1, h2⟩
  | tup cs' xs h1 h2 => cases hc
  | dp cs' off b o f h1 h2 h3 => simp [cellsA] at hc; subst hc; exact single _ _ (.dp cs' off b o f h1 h2 h3) rfl
  | p l k off x h0 h1 h2 h3 => simp [cellsA] at hc; subst hc; exact single _ _ (.p l k off x h0 h1 h2 h3) (one x h0)
  | pe l k sz i j x h0 h1 h2 h3 => simp [cellsA] at hc; subst hc; exact single _ _ (.pe l k sz i j x h0 h1 h2 h3) (one x h0)
  | own l k sz off n x h0 h1 h2 h3 => simp [cellsA] at hc; subst hc; exact single _ _ (.own l k sz off n x h0 h1 h2 h3) (one x h0)
  | map l x h0 h1 h2 => simp [cellsA] at hc; subst hc; exact single _ _ (.map l x h0 h1 h2) (one x h0)
  | fn f caps xs h1 h2 => simp [cellsA] at hc; subst hc; exact single _ _ (.fn f caps xs h1 h2) rfl
end
end Go.Proofs.YtdcpnpcmgfmenaaGreatDoor.Lg
/-
  New objects, reading and writing them. Conditions: none.
-/
set_option linter.unusedSimpArgs false
set_option linter.unusedVariables false
namespace Go.Proofs.YtdcpnpcmgfmenaaGreatDoor.Lg
open Go Go.RowKit

section
variable {E : Env} {B : Base} {Q : Exit → St → Prop} {σ : St} {g : G} {w : World} {a : Act}

/-- A nil slice, counted as a growing row of ours. -/
theorem rel_virt (hr : Rel E B g σ w a) (e sz : Nat) :
    Rel E B (g.at σ.nx 0 0 true) { σ with h := upd σ.h σ.nx (.arr 0 e sz []), nx := σ.nx + 1 } w a ∧ VR w (g.at σ.nx 0 0 true) (σ.nx + 1) (.own σ.nx 0 sz 0 0) (.slice none 0 0) := by
  have hg := gle_at g σ.nx 0 0 true
  have hw : ∀ b, g.J b → w.heap[b]? = w.heap[b]? := fun _ _ => rfl
  have hold : ∀ b, Owned (g.at σ.nx 0 0 true) (σ.nx + 1) (upd σ.h σ.nx (.arr 0 e sz [])) b → Owned g σ.nx σ.h b := by
    rintro b ⟨l, hl, hd, hv, hb⟩
    by_cases e : l = σ.nx
    · subst e; simp [G.at, upd] at hv
    · have hl' : l < σ.nx := by omega
      exact ⟨l, hl', by simpa [upd, e] using hd, by simpa [G.at, upd, e] using hv, by simpa [G.at, upd, e] using hb⟩
  refine ⟨⟨hr.size, tm_mono (σ := σ) hr hg (Nat.le_succ _) hw, ⟨?_, ?_, ?_, hr.hr.Jlt, hr.hr.IJ, fun b hb ho => hr.hr.dis b hb (hold b ho), gl_mono hr.hr (fun _ h => h) (fun _ h => h) hw⟩, ?_, hr.df⟩, ?_⟩
  · intro l hl
    by_cases e' : l = σ.nx
    · subst e'; simp only [upd, if_true]
      refine ⟨by simp [G.at, upd], by simp, by simp, fun _ => ⟨rfl, by simp [G.at, upd]⟩, [], ⟨by simp, .inl ⟨by simp [handle, G.at, upd], rfl⟩⟩, by simp⟩
    · have hl' : l < σ.nx := by simp at hl; omega
      simp only [upd, e', if_false]
      exact (hr.hr.hp l hl').mono hg (Nat.le_succ _) hw hl' (by simp [G.at, upd, e']) (fun _ _ => rfl)
  · intro l hl
    simp at hl
    simp only [upd]; rw [if_neg (by omega)]; exact hr.hr.hd l (by omega)
  · intro l l' hl hl' hd hd' hv hv' he
    simp only at hl hl'
    by_cases e1 : l = σ.nx
    · subst e1; simp [G.at, upd] at hv
    · by_cases e2 : l' = σ.nx
      · subst e2; simp [G.at, upd] at hv'
      · exact hr.hr.inj l l' (by omega) (by omega) (by simpa [upd, e1] using hd) (by simpa [upd, e2] using hd') (by simpa [G.at, upd, e1] using hv) (by simpa [G.at, upd, e2] using hv') (by simpa [G.at, upd, e1, e2] using he)
  · have hx := hr.ext
    exact ⟨hx.os, hx.tape, hx.output, hx.size, hx.block, hx.gle.trans hx.nle hg, by have := hx.nle; simp; omega, hx.inew, fun b hb => hx.own b (hold b hb)⟩
  · exact .own _ _ _ _ _ _ rfl (by omega) (by simp [G.at, upd]) (fun _ => by simp [OwnV, handle, G.at, upd])

/-- An object's cells turn; its place stays. -/
theorem rel_turn (hr : Rel E B g σ w a) {l : Nat} (hl : l < σ.nx) (hv : g.vt l = false) (o o' : AO) (ho : σ.h l = o) (hod : o ≠ .dead) (hod' : o' ≠ .dead) {w' : World}
    (hos : w'.os = w.os) (htp : w'.tape = w.tape) (hout : w'.output = w.output) (hsz : w'.heap.size = w.heap.size) (hoth : ∀ b, b ≠ g.ρ l → w'.heap[b]? = w.heap[b]?)
    (hor : OR w' g σ.nx l o') : Rel E B g { σ with h := upd σ.h l o' } w' a := by
  have hown : Owned g σ.nx σ.h (g.ρ l) := ⟨l, hl, by rw [ho]; exact hod, hv, rfl⟩
  have hJ : ∀ b, g.J b → w'.heap[b]? = w.heap[b]? := fun b hb => hoth b (fun e => hr.hr.dis b hb (e ▸ hown))
  have hold : ∀ b, Owned g σ.nx (upd σ.h l o') b → Owned g σ.nx σ.h b := by
    rintro b ⟨k, hk, hd, hvk, hb⟩
    by_cases e : k = l
    · subst e; exact ⟨k, hk, by rw [ho]; exact hod, hvk, hb⟩
    · exact ⟨k, hk, by simpa [upd, e] using hd, hvk, hb⟩
  refine ⟨hr.size, tm_mono (σ := σ) hr (GLe.refl g _) (Nat.le_refl _) hJ, ⟨?_, ?_, ?_, fun b hb => by rw [hsz]; exact hr.hr.Jlt b hb, hr.hr.IJ, fun b hb h => hr.hr.dis b hb (hold b h), gl_mono hr.hr (fun _ h => h) (fun _ h => h) hJ⟩, ?_, hr.df⟩
  · intro k hk
    by_cases e : k = l
    · subst e; simp only [upd, if_true]; exact hor
    · simp only [upd, e, if_false]
      refine (hr.hr.hp k hk).mono (GLe.refl g _) (Nat.le_refl _) hJ hk rfl (fun hd hvk => hoth _ (fun e' => e ?_))
      exact hr.hr.inj k l hk hl hd (by rw [ho]; exact hod) hvk hv e'
  · intro k hk
    simp only [upd]
    rw [if_neg (by simp at hk; omega)]; exact hr.hr.hd k hk
  · intro k k' hk hk' hd hd' hvk hvk' he
    refine hr.hr.inj k k' hk hk' ?_ ?_ hvk hvk' he
    · by_cases e : k = l
      · subst e; rw [ho]; exact hod
      · simpa [upd, e] using hd
    · by_cases e : k' = l
      · subst e; rw [ho]; exact hod
      · simpa [upd, e] using hd'
  · have hx := hr.ext
    refine ⟨hos.trans hx.os, htp.trans hx.tape, hout.trans hx.output, by rw [hsz]; exact hx.size, fun b hb hn => ?_, hx.gle, hx.nle, hx.inew, fun b hb => hx.own b (hold b hb)⟩
    rw [hoth b ?_]
    · exact hx.block b hb hn
    · rintro rfl
      rcases hx.own _ hown with h | h
      · exact hn h
      · omega
end
end Go.Proofs.YtdcpnpcmgfmenaaGreatDoor.Lg
/-
  The operations that make, read and write objects. Conditions: none.
-/
set_option linter.unusedSimpArgs false
set_option linter.unusedVariables false
namespace Go.Proofs.YtdcpnpcmgfmenaaGreatDoor.Lg
open Go Go.RowKit

theorem run_v {P : Program} {s : Sem Value} {w w' : World} {x : Value} (h : s.run P w = .ok x w') : (do pure (Next.value (← s)) : Sem Next).run P w = .ok (.value x) w' := by
  simp only [Sem.run_bind, h, Result.andThen_ok, Sem.run_pure]
theorem run_u {P : Program} {s : Sem Unit} {w w' : World} (h : s.run P w = .ok () w') : (do s; pure Next.skip : Sem Next).run P w = .ok .skip w' := by
  simp only [Sem.run_bind, h, Result.andThen_ok, Sem.run_pure]
theorem add_mk (b o i : Nat) : (⟨b, o, none⟩ : Addr).add i = ⟨b, o + i, none⟩ := by unfold Addr.add; split <;> simp_all

/-- Rows of one length, laid one behind the other. -/
theorem flat_at {α : Type} {n : Nat} : ∀ {es : List (List α)}, (∀ r ∈ es, r.length = n) → ∀ {i : Nat} {row : List α}, es[i]? = some row → ∀ {j : Nat}, j < n → es.flatten[i * n + j]? = row[j]?
  | [], _, i, row, h, _, _ => by simp at h
  | r :: es, hl, 0, row, h, j, hj => by
    simp at h; subst h
    have := hl r (by simp)
    simp only [List.flatten_cons, Nat.zero_mul, Nat.zero_add]
    rw [List.getElem?_append_left (by omega)]
  | r :: es, hl, i + 1, row, h, j, hj => by
    have h0 := hl r (by simp)
    simp only [List.flatten_cons]
    rw [List.getElem?_append_right (by rw [h0, Nat.add_mul]; omega), h0]
    have : (i + 1) * n + j - n = i * n + j := by rw [Nat.add_mul]; omega
    rw [this]
    exact flat_at (fun r hr => hl r (by simp [hr])) (by simpa using h) hj
theorem flat_length {α : Type} {n : Nat} : ∀ {es : List (List α)}, (∀ r ∈ es, r.length = n) → es.flatten.length = es.length * n
  | [], _ => by simp
  | r :: es, h => by
    rw [List.flatten_cons, List.length_append, h r (by simp), flat_length (fun r hr => h r (by simp [hr])), List.length_cons, Nat.add_mul]; omega

section
variable {E : Env} {B : Base} {Q : Exit → St → Prop} {σ : St} {o : Oper} {K : St → Prop}

/-! ### Boxes -/
theorem st_box {q : Md} [Nw q] {t : TypeId} {x : Operand} (ho : o.op = .box t x) {cs : List AV} (hc : cellsA (ev E σ x) = some cs) (hd : dlt o.dst σ.n = true)
    (hK : K (St.put { σ with h := upd σ.h σ.nx (.cells cs), nx := σ.nx + 1 } o.dst (.p σ.nx 0 0))) : Step q E B o K Q σ := by
  refine step_new _ _ (by simp) (fun B g w a hr => ?_) hd hK
  obtain ⟨h1, h2⟩ := cellsA_ok hc (ev_ok hr x)
  refine ⟨.pointer (some ⟨w.heap.size, 0, none⟩), .cells (a.eval x).cells t, 0, ?_, ?_, ?_⟩
  · simp only [execOp, ho]
    exact run_v (by simp [Instr.box, newVar, newRow, newObj, Sem.run, Sem.bind])
  · refine ⟨by simp [G.at, upd], by simp [G.at, upd], (a.eval x).cells, t, by simp only [G.at, upd, if_true]; exact heap_alloc_new w _, h1, fun i c y hi hy => ?_⟩
    exact (h2 i c y hi hy).mono (gle_at g _ _ _ _) (Nat.le_succ _) (fun b hb => heap_alloc_lt w _ (hr.hr.Jlt b hb))
  · exact .p _ _ _ _ rfl (by omega) (by simp [G.at, upd]) (fun _ => by simp [G.at, upd])

def zcells : Value → List AV
  | .agg cs => cs.toList.map fun x => .d (.v x)
  | v => [.d (.v v)]
theorem zcells_ok (z : Value) (w : World) (g : G) (nx : Nat) : z.cells.size = (zcells z).length ∧ ∀ (i : Nat) c y, (zcells z)[i]? = some c → z.cells[i]? = some y → VR w g nx c y := by
  have single : ∀ z : Value, z.cells = #[z] → z.cells.size = [AV.d (.v z)].length ∧ ∀ (i : Nat) c y, [AV.d (.v z)][i]? = some c → z.cells[i]? = some y → VR w g nx c y := by
    intro z hz
    rw [hz]
    refine ⟨rfl, fun i c y h1 h2 => ?_⟩
    cases i with
    | zero => simp at h1 h2; subst h1; subst h2; exact .d _ _ (.v _)
    | succ i => simp at h1
  cases z with
  | agg cs =>
    refine ⟨by simp [zcells, Value.cells], fun i c y h1 h2 => ?_⟩
    simp only [zcells, List.getElem?_map, Option.map_eq_some_iff] at h1
    obtain ⟨x, hx, rfl⟩ := h1
    simp only [Value.cells] at h2
    rw [Array.getElem?_toList, h2] at hx
    cases hx
    exact .d _ _ (.v _)
  | _ => exact single _ rfl

theorem st_alloc {q : Md} [Nw q] {t : TypeId} (ho : o.op = .alloc t) {z : Value} (hz : (E.P.info? t).bind (·.zero) = some z) (hd : dlt o.dst σ.n = true)
    (hK : K (St.put { σ with h := upd σ.h σ.nx (.cells (zcells z)), nx := σ.nx + 1 } o.dst (.p σ.nx 0 0))) : Step q E B o K Q σ := by
  refine step_new _ _ (by simp) (fun B g w a hr => ?_) hd hK
  obtain ⟨i, hi, hiz⟩ := Option.bind_eq_some_iff.1 hz
  refine ⟨.pointer (some ⟨w.heap.size, 0, none⟩), .cells z.cells t, 0, ?_, ?_, ?_⟩
  · simp only [execOp, ho]
    exact run_v (by simp [Instr.alloc, zeroValue, typeInfo, program, hi, hiz, newVar, newRow, newObj, Sem.run, Sem.bind, pure, bind])
  · obtain ⟨h1, h2⟩ := zcells_ok z (w.alloc (.cells z.cells t)) (g.at σ.nx w.heap.size 0 false) (σ.nx + 1)
    exact ⟨by simp [G.at, upd], by simp [G.at, upd], z.cells, t, by simp only [G.at, upd, if_true]; exact heap_alloc_new w _, h1, h2⟩
  · exact .p _ _ _ _ rfl (by omega) (by simp [G.at, upd]) (fun _ => by simp [G.at, upd])

/-! ### Places within -/
def AV.shift (v : AV) (n : Nat) : Option AV :=
  match v with
  | .dp cs off => some (.dp cs (off + n))
  | .p l k off => some (.p l k (off + n))
  | .pe l k sz i j => some (.pe l k sz i (j + n))
  | _ => none

/-- The version that stands. -/
def ver : AO → Option Nat
  | .dead => none
  | .cells _ => some 0
  | .arr k _ _ _ => some k
  | .map _ => some 0

theorem ver_ok {w : World} {g : G} {nx l : Nat} {o : AO} {k : Nat} (h : OR w g nx l o) (hk : ver o = some k) : g.κ l = k := by
  cases o with
  | dead => cases hk
  | cells cs => cases hk; exact h.1
  | arr k e sz es => cases hk; exact h.1
  | map es => cases hk; exact h.1

/-- Does the place stand now? -/
def AV.live (v : AV) (h : Nat → AO) : Bool :=
  match v with
  | .dp _ _ => true
  | .p l k _ => ver (h l) == some k
  | .pe l k _ _ _ => ver (h l) == some k
  | _ => false

theorem live_addr {g : G} {w : World} {a : Act} (hr : Rel E B g σ w a) {v : AV} {x : Value} (hv : v.live σ.h = true) (h : VR w g σ.nx v x) : ∃ b o, x = .pointer (some ⟨b, o, none⟩) := by
  cases h with
  | dp cs off b o f _ _ _ => exact ⟨b, o + off, rfl⟩
  | p l k off x h0 h1 h2 h3 => simp only [AV.live, beq_iff_eq] at hv; exact ⟨_, _, h3 (ver_ok (hr.hr.hp l h1) hv)⟩
  | pe l k sz i j x h0 h1 h2 h3 => simp only [AV.live, beq_iff_eq] at hv; exact ⟨_, _, h3 (ver_ok (hr.hr.hp l h1) hv)⟩
  | _ => cases hv

theorem shift_ok {g : G} {w : World} {a : Act} (hr : Rel E B g σ w a) {v v' : AV} {n b p : Nat} (hv : v.live σ.h = true) (hs : v.shift n = some v') (h : VR w g σ.nx v (.pointer (some ⟨b, p, none⟩))) :
    VR w g σ.nx v' (.pointer (some ⟨b, p + n, none⟩)) := by
  cases v with
  | dp cs off =>
    cases hs
    cases h with
    | dp _ _ _ o f h1 h2 h3 => rw [Nat.add_assoc]; exact .dp cs _ b o f h1 h2 h3
  | p l k off =>
    cases hs
    simp only [AV.live, beq_iff_eq] at hv
    cases h with
    | p _ _ _ _ h0 h1 h2 h3 =>
      have := h3 (ver_ok (hr.hr.hp l h1) hv)
      injection this with e; injection e with e; injection e with e1 e2 _
      exact .p _ _ _ _ rfl h1 h2 (fun _ => by rw [e1, e2])
  | pe l k sz i j =>
    cases hs
    simp only [AV.live, beq_iff_eq] at hv
    cases h with
    | pe _ _ _ _ _ _ h0 h1 h2 h3 =>
      have := h3 (ver_ok (hr.hr.hp l h1) hv)
      injection this with e; injection e with e; injection e with e1 e2 _
      exact .pe _ _ _ _ _ _ rfl h1 h2 (fun _ => by rw [e1, e2, Nat.add_assoc])
  | _ => cases hs

theorem st_fieldAddr {q : Md} [Qt q] {t : TypeId} {x : Operand} {i : Nat} (ho : o.op = .fieldAddr t x i) {fs : Array Field} (ht : E.P.underlying t = some (.struct fs)) {f : Field} (hf : fs[i]? = some f)
    (hn : (E.P.cellsOf f.type == 0) = false) {v : AV} (hv : (ev E σ x).live σ.h = true) (hs : (ev E σ x).shift f.offset = some v) (hd : dlt o.dst σ.n = true) (hK : K (σ.put o.dst v)) : Step q E B o K Q σ := by
  refine step_val v (fun B g w a hr => ?_) hd hK
  have hx := ev_ok hr x
  obtain ⟨b, p, hx'⟩ := live_addr hr hv hx
  rw [hx'] at hx
  refine ⟨.pointer (some ⟨b, p + f.offset, none⟩), ?_, shift_ok hr hv hs hx⟩
  simp only [execOp, ho]
  refine run_v ?_
  have hsz : (sizeOf f.type).run E.P w = .ok (E.P.cellsOf f.type) w := by
    unfold Program.cellsOf at hn ⊢
    cases hi : E.P.info? f.type with
    | none => rw [hi] at hn; cases hn
    | some i => simp [sizeOf, typeInfo, program, hi, Sem.run, Sem.bind, pure, bind]
  have hn' : E.P.cellsOf f.type ≠ 0 := by simpa using hn
  simp only [Instr.fieldAt, Sem.run_bind, run_underlying ht, Result.andThen_ok, hf, hx', Instr.sureAddr, Sem.run_pure, fieldPlace, hsz, hn', if_false, add_mk]


/-! ### Reading -/
/-- The cells behind a place: known ones. -/
def at_ (h : Nat → AO) : AV → Option (List AV)
  | .dp cs off => some ((cs.drop off).map .d)
  | .p l k off => match h l with
    | .cells cs => if k = 0 then some (cs.drop off) else none
    | _ => none
  | .pe l k sz i j => match h l with
    | .arr k' _ sz' es => if k = k' ∧ sz = sz' then (es[i]?).map (·.drop j) else none
    | _ => none
  | _ => none

def aggT (P : Program) (t : TypeId) : Option Bool :=
  match P.underlying t with
  | some (.struct _) | some (.array _ _) => some true
  | some _ => some false
  | none => none

def allD : List AV → Option (List D)
  | [] => some []
  | .d x :: r => (allD r).map (x :: ·)
  | _ => none
def mkAgg (cs : List AV) : AV :=
  match allD cs with
  | some ds => .d (.agg ds)
  | none => .agg cs

theorem allD_map : ∀ {cs : List AV} {ds : List D}, allD cs = some ds → cs = ds.map .d
  | [], _, h => by cases h; rfl
  | .d x :: r, _, h => by
    simp only [allD, Option.map_eq_some_iff] at h
    obtain ⟨ds, h, rfl⟩ := h
    rw [allD_map h]; rfl
  | .any :: _, _, h | .agg _ :: _, _, h | .tup _ :: _, _, h | .dp _ _ :: _, _, h | .p _ _ _ :: _, _, h | .pe _ _ _ _ _ :: _, _, h | .own _ _ _ _ _ :: _, _, h | .map _ :: _, _, h | .fn _ _ :: _, _, h => by cases h

theorem vr_mkAgg {w : World} {g : G} {nx : Nat} {cs : List AV} {xs : Array Value} (hs : xs.size = cs.length) (h : ∀ (i : Nat) c x, cs[i]? = some c → xs[i]? = some x → VR w g nx c x) : VR w g nx (mkAgg cs) (.agg xs) := by
  unfold mkAgg
  split
  · rename_i ds hds
    have hm := allD_map hds
    subst hm
    refine .d _ _ (.agg _ _ (by simpa using hs) fun i c x hi hx => ?_)
    exact vr_data (h i (.d c) x (by simp [hi]) hx)
  · exact .agg _ _ hs h

/-- What lies behind a place, in the world. -/
theorem at_ok {g : G} {w : World} {a : Act} (hr : Rel E B g σ w a) {v : AV} {x : Value} {cs : List AV} (hc : at_ σ.h v = some cs) (h : VR w g σ.nx v x) :
    ∃ (b o : Nat) (f : Nat → Value), x = .pointer (some ⟨b, o, none⟩) ∧ (∀ (i : Nat) c, cs[i]? = some c → w.cell? ⟨b, o + i, none⟩ = some (f i) ∧ VR w g σ.nx c (f i)) := by
  cases v with
  | dp ds off =>
    cases hc
    cases h with
    | dp _ _ b o f h1 h2 h3 =>
      refine ⟨b, o + off, fun i => f (off + i), rfl, fun i c hi => ?_⟩
      simp only [List.getElem?_map, List.getElem?_drop, Option.map_eq_some_iff] at hi
      obtain ⟨y, hy, rfl⟩ := hi
      exact ⟨by rw [Nat.add_assoc]; exact h2 _ _ hy, .d _ _ (h3 _ _ hy)⟩
  | p l k off =>
    simp only [at_] at hc
    cases ho : σ.h l with
    | cells cells =>
      rw [ho] at hc
      simp only at hc
      split at hc
      · rename_i hk; subst hk
        obtain rfl : cells.drop off = cs := by injection hc
        cases h with
        | p _ _ _ _ h0 h1 h2 h3 =>
          have hor := hr.hr.hp l h1
          rw [ho] at hor
          obtain ⟨g1, g2, xs, t, g3, g4, g5⟩ := hor
          refine ⟨g.ρ l, off, fun i => xs.getD (off + i) undef, h3 g1, fun i c hi => ?_⟩
          rw [List.getElem?_drop] at hi
          have hlt : off + i < xs.size := by rw [g4]; exact (List.getElem?_eq_some_iff.1 hi).1
          have hx : xs[off + i]? = some (xs.getD (off + i) undef) := by simp [hlt]
          exact ⟨by simp [World.cell?, g3, hlt], g5 _ _ _ hi hx⟩
      · cases hc
    | _ => rw [ho] at hc; cases hc
  | pe l k sz i j =>
    simp only [at_] at hc
    cases ho : σ.h l with
    | arr k' e sz' es =>
      rw [ho] at hc
      simp only at hc
      split at hc
      · rename_i hk
        obtain ⟨rfl, rfl⟩ := hk
        simp only [Option.map_eq_some_iff] at hc
        obtain ⟨row, hrow, rfl⟩ := hc
        cases h with
        | pe _ _ _ _ _ _ h0 h1 h2 h3 =>
          have hor := hr.hr.hp l h1
          rw [ho] at hor
          obtain ⟨g1, g2, g3, g4, xs, g5, g6⟩ := hor
          have hv : g.vt l = false := by
            cases hv : g.vt l with
            | false => rfl
            | true => obtain ⟨rfl, _⟩ := g4 hv; simp at hrow
          obtain ⟨a1, a2, a3, cur, a4, a5, a6⟩ := owns_block hv g5
          have hi : i < es.length := (List.getElem?_eq_some_iff.1 hrow).1
          have hrl : row.length = sz := g3 row (List.mem_of_getElem? hrow)
          refine ⟨g.ρ l, i * sz + j, fun m => xs.getD (i * sz + j + m) undef, h3 g1, fun m c hm => ?_⟩
          rw [List.getElem?_drop] at hm
          have hjm : j + m < sz := by rw [← hrl]; exact (List.getElem?_eq_some_iff.1 hm).1
          have hle : i * sz + sz ≤ es.length * sz := by
            have := Nat.mul_le_mul_right sz (show i + 1 ≤ es.length from hi)
            rwa [Nat.add_mul, Nat.one_mul] at this
          have hlt : i * sz + j + m < xs.length := by rw [a1]; omega
          have hfl : es.flatten[i * sz + j + m]? = some c := by
            have := flat_at g3 hrow (show j + m < sz from hjm)
            rw [Nat.add_assoc, this]; exact hm
          have hx : xs[i * sz + j + m]? = some (xs.getD (i * sz + j + m) undef) := by simp [List.getD, hlt]
          refine ⟨?_, g6 _ _ _ hfl hx⟩
          have hc : cur[i * sz + j + m]? = some (xs.getD (i * sz + j + m) undef) := by
            rw [← hx, ← a6, List.getElem?_take_of_lt (by rw [← a1]; exact hlt), Array.getElem?_toList]
          simp only [World.cell?, a4, Option.isSome_none, Bool.false_eq_true, if_false]
          exact hc
      · cases hc
    | _ => rw [ho] at hc; cases hc
  | _ => cases hc

theorem run_isAgg {P : Program} {t : TypeId} {b : Bool} (h : aggT P t = some b) (w : World) : (isAgg t).run P w = .ok b w := by
  unfold aggT at h
  unfold isAgg
  cases ht : P.underlying t with
  | none => rw [ht] at h; cases h
  | some d =>
    rw [ht] at h
    simp only [Sem.run_bind, run_underlying ht, Result.andThen_ok]
    cases d <;> simp at h <;> subst h <;> rfl

theorem run_sizeOf {P : Program} {t : TypeId} {n : Nat} (h : (P.info? t).map (·.size) = some n) (w : World) : (sizeOf t).run P w = .ok n w := by
  obtain ⟨i, hi, rfl⟩ := Option.map_eq_some_iff.1 h
  simp [sizeOf, typeInfo, program, hi, Sem.run, Sem.bind, pure, bind]

theorem st_load {q : Md} [Qt q] {t : TypeId} {x : Operand} (ho : o.op = .load t x) {cs : List AV} (hc : at_ σ.h (ev E σ x) = some cs) {s : Nat} (hs : (E.P.info? t).map (·.size) = some s) {b : Bool} (hb : aggT E.P t = some b)
    (hl : decide (s ≤ cs.length) = true) (h1 : b = true ∨ decide (0 < s) = true) (hd : dlt o.dst σ.n = true) (hK : K (σ.put o.dst (if b = true then mkAgg (cs.take s) else cs.headD .any))) : Step q E B o K Q σ := by
  refine step_val _ (fun B g w a hr => ?_) hd hK
  obtain ⟨b', p, f, hx, hf⟩ := at_ok hr hc (ev_ok hr x)
  have hl' : s ≤ cs.length := by simpa using hl
  cases b with
  | true =>
    refine ⟨.agg ((List.range s).map f).toArray, ?_, ?_⟩
    · simp only [execOp, ho]
      refine run_v ?_
      have hcells : (loadCells ⟨b', p, none⟩ s).run E.P w = .ok ((List.range s).map f).toArray w := run_loadCells w _ s f fun j hj => by
        rw [add_mk]
        exact (hf j cs[j] (List.getElem?_eq_getElem (by omega))).1
      simp only [Instr.loadAt, hx, Instr.sureAddr, Sem.run_bind, Sem.run_pure, Result.andThen_ok, loadVar, run_isAgg hb, if_true, run_sizeOf hs, hcells]
    · simp only [if_true]
      refine vr_mkAgg (by simp; omega) fun i c y hi hy => ?_
      by_cases his : i < s
      · rw [List.getElem?_take_of_lt his] at hi
        have : y = f i := by simp [his] at hy; exact hy.symm
        rw [this]; exact (hf i c hi).2
      · simp [List.getElem?_take, his] at hi
  | false =>
    have hs0 : 0 < s := by rcases h1 with h | h; cases h; simpa using h
    cases cs with
    | nil => simp at hl'; omega
    | cons c0 cs =>
      obtain ⟨h1, h2⟩ := hf 0 c0 rfl
      refine ⟨f 0, ?_, by simpa using h2⟩
      simp only [execOp, ho]
      refine run_v ?_
      simp only [Nat.add_zero] at h1
      simp only [Instr.loadAt, hx, Instr.sureAddr, Sem.run_bind, Sem.run_pure, Result.andThen_ok, loadVar, run_isAgg hb, Bool.false_eq_true, if_false, run_load, h1]
end
end Go.Proofs.YtdcpnpcmgfmenaaGreatDoor.Lg
/-
  More operations: stores, elements, lengths, reckoning. Conditions: none.
-/
set_option linter.unusedSimpArgs false
set_option linter.unusedVariables false
namespace Go.Proofs.YtdcpnpcmgfmenaaGreatDoor.Lg
open Go Go.RowKit

/-! ### Lists written within -/
def splice {α : Type} (xs : List α) (i : Nat) (ys : List α) : List α := xs.take i ++ ys ++ xs.drop (i + ys.length)
theorem splice_length {α : Type} (xs ys : List α) (i : Nat) (h : i + ys.length ≤ xs.length) : (splice xs i ys).length = xs.length := by
  simp [splice]; omega
theorem splice_get {α : Type} (xs ys : List α) (i m : Nat) (h : i + ys.length ≤ xs.length) :
    (splice xs i ys)[m]? = if m < i then xs[m]? else if m < i + ys.length then ys[m - i]? else xs[m]? := by
  have h1 : (xs.take i).length = i := by simp; omega
  unfold splice
  split
  · rename_i hm
    rw [List.append_assoc, List.getElem?_append_left (by omega), List.getElem?_take_of_lt hm]
  · rename_i hm
    rw [List.append_assoc, List.getElem?_append_right (by omega), h1]
    split
    · rename_i hm2
      rw [List.getElem?_append_left (by omega)]
    · rename_i hm2
      rw [List.getElem?_append_right (by omega), List.getElem?_drop]
      congr 1; omega
theorem splice_append_left {α : Type} (r q ys : List α) (j : Nat) (h : j + ys.length ≤ r.length) : splice (r ++ q) j ys = splice r j ys ++ q := by
  unfold splice
  rw [List.take_append_of_le_length (by omega), List.drop_append_of_le_length (by omega)]; simp
theorem splice_append_right {α : Type} (r q ys : List α) (k : Nat) : splice (r ++ q) (r.length + k) ys = r ++ splice q k ys := by
  unfold splice
  rw [List.take_append, List.take_of_length_le (by omega), show r.length + k - r.length = k by omega, Nat.add_assoc, List.drop_append, List.drop_of_length_le (by omega), show r.length + (k + ys.length) - r.length = k + ys.length by omega]
  simp
theorem flat_set {α : Type} {n : Nat} : ∀ {es : List (List α)}, (∀ r ∈ es, r.length = n) → ∀ {i : Nat} {row : List α}, es[i]? = some row → ∀ {j : Nat} {ys : List α}, j + ys.length ≤ n →
    (es.set i (splice row j ys)).flatten = splice es.flatten (i * n + j) ys
  | [], _, i, row, h, _, _, _ => by simp at h
  | r :: es, hl, 0, row, h, j, ys, hj => by
    simp at h; subst h
    have := hl r (by simp)
    simp only [List.set_cons_zero, List.flatten_cons, Nat.zero_mul, Nat.zero_add]
    rw [splice_append_left _ _ _ _ (by omega)]
  | r :: es, hl, i + 1, row, h, j, ys, hj => by
    have h0 := hl r (by simp)
    simp only [List.set_cons_succ, List.flatten_cons]
    rw [flat_set (fun r hr => hl r (by simp [hr])) (by simpa using h) hj, show (i + 1) * n + j = r.length + (i * n + j) by rw [h0, Nat.add_mul]; omega, splice_append_right]

section
variable {E : Env} {B : Base} {Q : Exit → St → Prop} {σ : St} {o : Oper} {K : St → Prop}

def cellOk : AV → Bool
  | .any | .agg _ | .tup _ | .d (.agg _) => false
  | .d (.v x) => x.oneCell'
  | _ => true
theorem cellOk_ok {w : World} {g : G} {nx : Nat} {c : AV} {x : Value} (h : VR w g nx c x) (hc : cellOk c = true) : x.oneCell' = true := by
  cases h with
  | any x => cases hc
  | d c x h =>
    cases h with
    | v x => exact hc
    | agg _ _ _ _ => cases hc
    | nil s a n => rfl
    | sl _ _ _ _ _ _ _ _ _ _ _ => rfl
    | map _ _ _ _ _ _ _ _ _ => rfl
  | agg _ _ _ _ => cases hc
  | tup _ _ _ _ => cases hc
  | dp _ _ _ _ _ _ _ _ => rfl
  | p _ _ _ _ h0 _ _ _ => exact h0
  | pe _ _ _ _ _ _ h0 _ _ _ => exact h0
  | own _ _ _ _ _ _ h0 _ _ _ => exact h0
  | map _ _ h0 _ _ => exact h0
  | fn _ _ _ _ _ => rfl

/-- What a store makes of the objects. -/
def stored (h : Nat → AO) (v : AV) (ys : List AV) : Option (Nat → AO) :=
  match v with
  | .p l k off => match h l with
    | .cells cs => if k = 0 ∧ off + ys.length ≤ cs.length then some (upd h l (.cells (splice cs off ys))) else none
    | _ => none
  | .pe l k sz i j => match h l with
    | .arr k' e sz' es => match es[i]? with
      | some row => if k = k' ∧ sz = sz' ∧ j + ys.length ≤ sz then some (upd h l (.arr k' e sz' (es.set i (splice row j ys)))) else none
      | none => none
    | _ => none
  | _ => none

theorem rel_splice {R : AV → Value → Prop} {cs ys : List AV} {xs : List Value} {vs : List Value} {i : Nat} (hi : i + ys.length ≤ cs.length) (hx : cs.length ≤ xs.length) (hv : vs.length = ys.length)
    (h : ∀ (m : Nat) c x, cs[m]? = some c → xs[m]? = some x → R c x) (h' : ∀ (m : Nat) c x, ys[m]? = some c → vs[m]? = some x → R c x) :
    ∀ (m : Nat) c x, (splice cs i ys)[m]? = some c → (splice xs i vs)[m]? = some x → R c x := by
  intro m c x hc hxm
  rw [splice_get _ _ _ _ hi] at hc
  rw [splice_get _ _ _ _ (by omega), hv] at hxm
  split at hc
  · rename_i hm; rw [if_pos hm] at hxm; exact h m c x hc hxm
  · rename_i hm
    rw [if_neg hm] at hxm
    split at hc
    · rename_i hm2; rw [if_pos hm2] at hxm; exact h' _ c x hc hxm
    · rename_i hm2; rw [if_neg hm2] at hxm; exact h m c x hc hxm

theorem st_store {t : TypeId} {x y : Operand} (ho : o.op = .store t x y) {ys : List AV} (hy : cellsA (ev E σ y) = some ys) {h' : Nat → AO} (hs : stored σ.h (ev E σ x) ys = some h')
    (hsz : (E.P.info? t).map (·.size) = some ys.length) (hok : ys.all cellOk = true) (hd : dlt o.dst σ.n = true) (hK : K (St.put { σ with h := h' } o.dst .any)) : Step .all E B o K Q σ := by
  refine step_skip h' σ.nx (fun g w a hr => ?_) hd hK
  obtain ⟨hc1, hc2⟩ := cellsA_ok hy (ev_ok hr y)
  have hx := ev_ok hr x
  have h1 : ∀ v ∈ (a.eval y).cells.toList, v.oneCell' = true := by
    intro v hv
    obtain ⟨i, hi, rfl⟩ := List.mem_iff_getElem.1 hv
    have hi' : i < ys.length := by rw [← hc1]; simpa using hi
    refine cellOk_ok (hc2 i ys[i] _ (List.getElem?_eq_getElem hi') ?_) (List.all_eq_true.1 hok _ (List.getElem_mem _))
    rw [← Array.getElem?_toList]; exact List.getElem?_eq_getElem hi
  have hvl : (a.eval y).cells.toList.length = ys.length := by simpa using hc1
  have run : ∀ (b p : Nat) (cur : Array Value) (ty : TypeId), a.eval x = .pointer (some ⟨b, p, none⟩) → w.heap[b]? = some (.cells cur ty (0, 0)) → p + ys.length ≤ cur.size →
      (execOp a.eval o).run E.P w = .ok .skip (w.setRow b (splice cur.toList p (a.eval y).cells.toList).toArray) := by
    intro b p cur ty hxe hb hp
    simp only [execOp, ho]
    refine run_u ?_
    have := run_storeCells_at E.P b p ty (a.eval y).cells.toList 0 cur w hb (by rw [hvl]; simpa using hp) h1
    simp only [Nat.add_zero] at this
    have hne : ¬ (a.eval y).cells.size ≠ ys.length := by simp [hc1]
    simp only [Instr.storeAt, hxe, Instr.sureAddr, Sem.run_bind, Sem.run_pure, Result.andThen_ok, storeVar, run_sizeOf hsz, hne, if_false, this, splice]
  generalize hv : ev E σ x = v at hs hx
  cases v with
  | p l k off =>
    simp only [stored] at hs
    cases hol : σ.h l with
    | cells cs =>
      rw [hol] at hs
      simp only at hs
      split at hs
      · rename_i hk
        obtain ⟨rfl, hoff⟩ := hk
        obtain rfl : upd σ.h l (.cells (splice cs off ys)) = h' := by injection hs
        cases hx with
        | p _ _ _ _ _ h1' h2 h3 =>
          have hor := hr.hr.hp l h1'
          rw [hol] at hor
          obtain ⟨g1, g2, xs, ty, g3, g4, g5⟩ := hor
          refine ⟨_, g, run _ _ xs ty (h3 g1) g3 (by rw [g4]; exact hoff), ?_⟩
          refine rel_turn hr h1' g2 _ _ hol (by simp) (by simp) rfl rfl rfl (by simp) (fun b hb => setRow_other w _ b _ hb) ?_
          refine ⟨g1, g2, _, ty, setRow_heap w _ xs _ ty _ g3, by simp [splice_length _ _ _ (show off + (a.eval y).cells.toList.length ≤ xs.toList.length by rw [hvl]; simp [g4, hoff]), splice_length _ _ _ hoff, g4], ?_⟩
          have hJ : ∀ b, g.J b → (w.setRow (g.ρ l) (splice xs.toList off (a.eval y).cells.toList).toArray).heap[b]? = w.heap[b]? :=
            fun b hb => setRow_other w _ b _ (fun e => hr.hr.dis b hb ⟨l, h1', by rw [hol]; simp, g2, e.symm⟩)
          intro i c z hc hz
          refine rel_splice (R := VR _ g σ.nx) (xs := xs.toList) hoff (by simp [g4]) hvl ?_ ?_ i c z hc (by simpa using hz)
          · intro m c x hc hx
            exact (g5 m c x hc (by simpa using hx)).mono (GLe.refl g _) (Nat.le_refl _) hJ
          · intro m c x hc hx
            exact (hc2 m c x hc (by simpa using hx)).mono (GLe.refl g _) (Nat.le_refl _) hJ
      · cases hs
    | _ => rw [hol] at hs; cases hs
  | pe l k sz i j =>
    simp only [stored] at hs
    cases hol : σ.h l with
    | arr k' e sz' es =>
      rw [hol] at hs
      simp only at hs
      cases hrow : es[i]? with
      | none => rw [hrow] at hs; cases hs
      | some row =>
      rw [hrow] at hs
      simp only at hs
      split at hs
      · rename_i hk
        obtain ⟨rfl, rfl, hj⟩ := hk
        obtain rfl : upd σ.h l (.arr k e sz (es.set i (splice row j ys))) = h' := by injection hs
        cases hx with
        | pe _ _ _ _ _ _ _ h1' h2 h3 =>
          have hor := hr.hr.hp l h1'
          rw [hol] at hor
          obtain ⟨g1, g2, g3, g4, xs, g5, g6⟩ := hor
          have hvt : g.vt l = false := by
            cases hv : g.vt l with
            | false => rfl
            | true => obtain ⟨rfl, _⟩ := g4 hv; simp at hrow
          obtain ⟨a1, a2, a3, cur, a4, a5, a6⟩ := owns_block hvt g5
          have hi : i < es.length := (List.getElem?_eq_some_iff.1 hrow).1
          have hle : i * sz + sz ≤ es.length * sz := by
            have := Nat.mul_le_mul_right sz (show i + 1 ≤ es.length from hi)
            rwa [Nat.add_mul, Nat.one_mul] at this
          have hcap : es.length * sz ≤ cur.size := by rw [a5]; exact Nat.mul_le_mul_right sz a2
          have hfl := flat_length g3
          refine ⟨_, g, run _ _ cur e (h3 g1) a4 (by omega), ?_⟩
          refine rel_turn hr h1' hvt _ _ hol (by simp) (by simp) rfl rfl rfl (by simp) (fun b hb => setRow_other w _ b _ hb) ?_
          have hJ : ∀ b, g.J b → (w.setRow (g.ρ l) (splice cur.toList (i * sz + j) (a.eval y).cells.toList).toArray).heap[b]? = w.heap[b]? :=
            fun b hb => setRow_other w _ b _ (fun e => hr.hr.dis b hb ⟨l, h1', by rw [hol]; simp, hvt, e.symm⟩)
          have hsl : (splice cur.toList (i * sz + j) (a.eval y).cells.toList).length = cur.size := by rw [splice_length _ _ _ (by rw [hvl]; simp; omega)]; simp
          refine ⟨g1, by simpa using g2, ?_, (fun hv => by rw [hvt] at hv; cases hv), (splice cur.toList (i * sz + j) (a.eval y).cells.toList).take (es.length * sz), ?_, ?_⟩
          · intro r hr'
            rcases List.mem_or_eq_of_mem_set hr' with h | h
            · exact g3 r h
            · subst h
              rw [splice_length _ _ _ (by rw [g3 row (List.mem_of_getElem? hrow)]; exact hj)]
              exact g3 row (List.mem_of_getElem? hrow)
          · simp only [List.length_set]
            refine ⟨by rw [List.length_take, hsl]; omega, .inr ⟨g.ρ l, g.cap l, _, by simp [handle, hvt], Nat.zero_le _, setRow_heap w _ cur _ e _ a4, a2, a3, by simp [hsl, a5], by simp⟩⟩
          · intro m c z hc hz
            rw [flat_set g3 hrow hj] at hc
            have hm : m < es.length * sz := by
              have := (List.getElem?_eq_some_iff.1 hc).1
              rw [splice_length _ _ _ (by rw [hfl]; omega), hfl] at this
              exact this
            rw [List.getElem?_take_of_lt hm] at hz
            refine rel_splice (R := VR _ g σ.nx) (by rw [hfl]; omega) (by rw [hfl]; simpa using hcap) hvl ?_ ?_ m c z hc hz
            · intro m c x hc hx
              have hm : m < es.length * sz := by rw [← hfl]; exact (List.getElem?_eq_some_iff.1 hc).1
              refine (g6 m c x hc ?_).mono (GLe.refl g _) (Nat.le_refl _) hJ
              rw [← a6, List.getElem?_take_of_lt hm]; exact hx
            · intro m c x hc hx
              exact (hc2 m c x hc (by simpa using hx)).mono (GLe.refl g _) (Nat.le_refl _) hJ
      · cases hs
    | _ => rw [hol] at hs; cases hs
  | _ => cases hs

theorem st_nilCheck {q : Md} [Qt q] {x : Operand} (ho : o.op = .nilCheck x) (hv : (ev E σ x).live σ.h = true) (hd : dlt o.dst σ.n = true) (hK : K (σ.put o.dst (ev E σ x))) : Step q E B o K Q σ := by
  refine step_val _ (fun B g w a hr => ?_) hd hK
  have hx := ev_ok hr x
  obtain ⟨b, p, hx'⟩ := live_addr hr hv hx
  exact ⟨a.eval x, by simp only [execOp, ho, hx']; rfl, hx⟩

end
end Go.Proofs.YtdcpnpcmgfmenaaGreatDoor.Lg
/-
  Elements, lengths, cuts, reckoning, maps. Conditions: none.
-/
set_option linter.unusedSimpArgs false
set_option linter.unusedVariables false
namespace Go.Proofs.YtdcpnpcmgfmenaaGreatDoor.Lg
open Go Go.RowKit

section
variable {E : Env} {B : Base} {Q : Exit → St → Prop} {σ : St} {o : Oper} {K : St → Prop}

theorem vr_int {w : World} {g : G} {nx : Nat} {k : IntKind} {n : Int} {x : Value} (h : VR w g nx (.d (.v (.int k n))) x) : x = .int k n := vr_val h
theorem vr_str {w : World} {g : G} {nx : Nat} {s : ByteArray} {x : Value} (h : VR w g nx (.d (.v (.string s))) x) : x = .string s := vr_val h

/-! ### Elements -/
theorem st_indexSl {q : Md} [Qt q] {t : TypeId} {x ix : Operand} (ho : o.op = .indexAddr t x ix) {e : TypeId} (ht : E.P.underlying t = some (.slice e)) {s : Bool} {es : List (List D)} (hx : ev E σ x = .d (.sl s es))
    {k : IntKind} {i : Int} (hi : ev E σ ix = .d (.v (.int k i))) {sz : Nat} (hsz : (E.P.info? e).map (·.size) = some sz) (hall : ∀ r ∈ es, r.length = sz) (h0 : 0 ≤ i) (h1 : i < es.length)
    (hd : dlt o.dst σ.n = true) (hK : K (σ.put o.dst (.dp (es.getD i.toNat []) 0))) : Step q E B o K Q σ := by
  refine step_val _ (fun B g w a hr => ?_) hd hK
  have hx' := ev_ok hr x
  have hi' := ev_ok hr ix
  rw [hx] at hx'
  rw [hi] at hi'
  have hd' := vr_data hx'
  have hlt : i.toNat < es.length := by omega
  generalize hax : a.eval x = ax at hd'
  cases hd' with
  | nil => simp at h1; omega
  | sl _ _ b off c f g1 g2 g3 g4 g5 =>
    refine ⟨.pointer (some ⟨b, off + i.toNat * sz, none⟩), ?_, ?_⟩
    · simp only [execOp, ho]
      refine run_v ?_
      simp only [Instr.indexAt, vr_int hi', asIntOf, Sem.run_bind, Sem.run_pure, Result.andThen_ok, run_underlying ht, hax, h0, h1, and_self, if_true, run_sizeOf hsz, add_mk]
    · have hrow : es[i.toNat]? = some (es.getD i.toNat []) := by simp [List.getD, hlt]
      have hl : (es.getD i.toNat []).length = sz := hall _ (List.mem_of_getElem? hrow)
      have hfl : ∀ (j : Nat) c, (es.getD i.toNat [])[j]? = some c → es.flatten[i.toNat * sz + j]? = some c := fun j c hc => by
        rw [flat_at hall hrow (by rw [← hl]; exact (List.getElem?_eq_some_iff.1 hc).1)]; exact hc
      exact .dp _ 0 b (off + i.toNat * sz) (fun j => f (i.toNat * sz + j)) g2 (fun j c hc => by rw [Nat.add_assoc]; exact g4 _ c (hfl j c hc)) (fun j c hc => g5 _ c (hfl j c hc))

theorem st_indexOwn {q : Md} [Qt q] {t : TypeId} {x ix : Operand} (ho : o.op = .indexAddr t x ix) {e : TypeId} (ht : E.P.underlying t = some (.slice e)) {l kv sz off n : Nat} (hx : ev E σ x = .own l kv sz off n)
    {k : IntKind} {i : Int} (hi : ev E σ ix = .d (.v (.int k i))) (hsz : (E.P.info? e).map (·.size) = some sz) {e' : TypeId} {es : List (List AV)} (hl : σ.h l = .arr kv e' sz es) (h0 : 0 ≤ i) (h1 : i < n) (h2 : off + n ≤ es.length)
    (hd : dlt o.dst σ.n = true) (hK : K (σ.put o.dst (.pe l kv sz (off + i.toNat) 0))) : Step q E B o K Q σ := by
  refine step_val _ (fun B g w a hr => ?_) hd hK
  have hx' := ev_ok hr x
  have hi' := ev_ok hr ix
  rw [hx] at hx'
  rw [hi] at hi'
  generalize hax : a.eval x = ax at hx'
  cases hx' with
  | own _ _ _ _ _ _ g0 g1 g2 g3 =>
    have hor := hr.hr.hp l g1
    rw [hl] at hor
    obtain ⟨f1, f2, f3, f4, xs, f5, f6⟩ := hor
    have hvt : g.vt l = false := by
      cases hv : g.vt l with
      | false => rfl
      | true => obtain ⟨rfl, _⟩ := f4 hv; simp at h2; omega
    have hown := g3 f1
    have : ∃ c, ax = .slice (some ⟨g.ρ l, off * sz, none⟩) n c := by
      unfold OwnV at hown
      split at hown
      · rename_i h; subst h
        exact ⟨g.cap l, by simp [hown, handle, hvt]⟩
      · obtain ⟨a', c, h1', _, h2'⟩ := hown
        exact ⟨c, by rw [h1', h2' (by omega)]⟩
    obtain ⟨c, rfl⟩ := this
    refine ⟨.pointer (some ⟨g.ρ l, (off + i.toNat) * sz + 0, none⟩), ?_, .pe _ _ _ _ _ _ rfl g1 g2 (fun _ => rfl)⟩
    simp only [execOp, ho]
    refine run_v ?_
    simp only [Instr.indexAt, vr_int hi', asIntOf, Sem.run_bind, Sem.run_pure, Result.andThen_ok, run_underlying ht, hax, h0, h1, and_self, if_true, run_sizeOf hsz, add_mk]
    simp [Nat.add_mul]

theorem st_indexArr {q : Md} [Qt q] {t : TypeId} {x ix : Operand} (ho : o.op = .indexAddr t x ix) {len : Nat} {e : TypeId} (ht : E.P.underlying t = some (.array len e)) (hlv : (ev E σ x).live σ.h = true)
    {k : IntKind} {i : Int} (hi : ev E σ ix = .d (.v (.int k i))) {sz : Nat} (hsz : (E.P.info? e).map (·.size) = some sz) (h0 : 0 ≤ i) (h1 : i < len) {v : AV} (hs : (ev E σ x).shift (i.toNat * sz) = some v)
    (hd : dlt o.dst σ.n = true) (hK : K (σ.put o.dst v)) : Step q E B o K Q σ := by
  refine step_val _ (fun B g w a hr => ?_) hd hK
  have hx := ev_ok hr x
  have hi' := ev_ok hr ix
  rw [hi] at hi'
  obtain ⟨b, p, hx'⟩ := live_addr hr hlv hx
  rw [hx'] at hx
  refine ⟨.pointer (some ⟨b, p + i.toNat * sz, none⟩), ?_, shift_ok hr hlv hs hx⟩
  simp only [execOp, ho]
  refine run_v ?_
  simp only [Instr.indexAt, vr_int hi', asIntOf, Sem.run_bind, Sem.run_pure, Result.andThen_ok, run_underlying ht, hx', Instr.sureAddr, h0, h1, and_self, if_true, run_sizeOf hsz, add_mk]

/-- A byte of a text. -/
def byteAt (s : ByteArray) (i : Nat) : Int := ((s.data[i]?).getD 0).toNat

theorem st_indexStr {q : Md} [Qt q] {t : TypeId} {x ix : Operand} (ho : o.op = .index t x ix) (ht : E.P.underlying t = some .string) {s : ByteArray} (hx : ev E σ x = .d (.v (.string s)))
    {k : IntKind} {i : Int} (hi : ev E σ ix = .d (.v (.int k i))) (h0 : 0 ≤ i) (h1 : i < s.size) (hd : dlt o.dst σ.n = true) (hK : K (σ.put o.dst (.d (.v (.int .u8 (byteAt s i.toNat)))))) : Step q E B o K Q σ := by
  refine step_val _ (fun B g w a hr => ?_) hd hK
  have hx' := ev_ok hr x
  have hi' := ev_ok hr ix
  rw [hx] at hx'
  rw [hi] at hi'
  have hlt : i.toNat < s.size := by omega
  refine ⟨_, ?_, .d _ _ (.v _)⟩
  simp only [execOp, ho]
  refine run_v ?_
  have hb : s[i.toNat]? = some (s[i.toNat]'hlt) := by simp [hlt]
  have hb2 : byteAt s i.toNat = ((s[i.toNat]'hlt).toNat : Int) := by
    unfold byteAt
    have : s.data[i.toNat]? = some (s.data[i.toNat]'hlt) := Array.getElem?_eq_getElem hlt
    rw [this]; rfl
  simp only [Instr.index, vr_int hi', vr_str hx', asIntOf, Sem.run_bind, Sem.run_pure, Result.andThen_ok, run_underlying ht, h0, if_true, hb, hb2]

/-! ### Lengths -/
theorem exec_builtin {b : Builtin} {args : Array Operand} {ts : Array TypeId} (ho : o.op = .call { callee := .builtin b, args := args, argTypes := ts }) (ρ : Operand → Value) :
    execOp ρ o = (builtin b ts o.type (args.map fun | .const _ => true | _ => false) (args.map ρ)) := by
  simp only [execOp, ho, resolve, invoke]; rfl

/-- How long a slice is. -/
def lenA (h : Nat → AO) : AV → Option Nat
  | .d (.v (.slice none 0 0)) => some 0
  | .d (.sl _ es) => some es.length
  | .own l k _ _ n => if ver (h l) = some k then some n else none
  | _ => none

theorem lenA_v {h : Nat → AO} {x : Value} {n : Nat} (hn : lenA h (.d (.v x)) = some n) : x = .slice none 0 0 ∧ n = 0 := by
  unfold lenA at hn
  split at hn <;> simp_all

theorem st_lenStr {q : Md} [Qt q] {x : Operand} {t : TypeId} (ho : o.op = .call { callee := .builtin .len, args := #[x], argTypes := #[t] }) (ht : E.P.underlying t = some .string) {s : ByteArray} (hx : ev E σ x = .d (.v (.string s)))
    (hd : dlt o.dst σ.n = true) (hK : K (σ.put o.dst (.d (.v (.int .i64 s.size))))) : Step q E B o K Q σ := by
  refine step_val _ (fun B g w a hr => ?_) hd hK
  have hx' := ev_ok hr x
  rw [hx] at hx'
  refine ⟨.int .i64 s.size, ?_, .d _ _ (.v _)⟩
  rw [exec_builtin ho]
  simp only [builtin]
  refine run_v ?_
  have hm : (#[x].map a.eval) = #[.string s] := by simp [vr_str hx']
  rw [hm]
  exact run_len_string w t _ s ht

theorem st_lenSl {q : Md} [Qt q] {x : Operand} {t : TypeId} (ho : o.op = .call { callee := .builtin .len, args := #[x], argTypes := #[t] }) {e : TypeId} (ht : E.P.underlying t = some (.slice e)) {n : Nat} (hn : lenA σ.h (ev E σ x) = some n)
    (hd : dlt o.dst σ.n = true) (hK : K (σ.put o.dst (.d (.v (.int .i64 n))))) : Step q E B o K Q σ := by
  refine step_val _ (fun B g w a hr => ?_) hd hK
  have hx := ev_ok hr x
  refine ⟨.int .i64 n, ?_, .d _ _ (.v _)⟩
  rw [exec_builtin ho]
  simp only [builtin]
  refine run_v ?_
  have key : ∃ b c, a.eval x = .slice b n c := by
    generalize ev E σ x = v at hn hx
    generalize a.eval x = ax at hx
    cases hx with
    | d c ax h =>
      cases h with
      | v => obtain ⟨rfl, rfl⟩ := lenA_v hn; exact ⟨_, _, rfl⟩
      | nil s b c => simp [lenA] at hn; subst hn; exact ⟨_, _, rfl⟩
      | sl s es b off c f _ _ _ _ _ => simp [lenA] at hn; subst hn; exact ⟨_, _, rfl⟩
      | agg _ _ _ _ => simp [lenA] at hn
      | map _ _ _ _ _ _ _ _ _ => simp [lenA] at hn
    | own l k sz off m ax g0 g1 g2 g3 =>
      simp only [lenA] at hn
      split at hn
      · rename_i hvv
        injection hn with hn; subst hn
        have hown := g3 (ver_ok (hr.hr.hp l g1) hvv)
        unfold OwnV at hown
        split at hown
        · exact ⟨_, _, hown⟩
        · obtain ⟨a', c, h1', _⟩ := hown; exact ⟨_, _, h1'⟩
      · cases hn
    | _ => simp [lenA] at hn
  obtain ⟨b, c, hbc⟩ := key
  have hm : (#[x].map a.eval) = #[.slice b n c] := by simp [hbc]
  rw [hm]
  exact run_len_slice w t _ b n c (by simp [Program.elem, ht])

theorem st_lenMap {q : Md} [Qt q] {x : Operand} {t : TypeId} (ho : o.op = .call { callee := .builtin .len, args := #[x], argTypes := #[t] }) {kt et : TypeId} (ht : E.P.underlying t = some (.map kt et)) {l : Nat} (hx : ev E σ x = .map l)
    {es : List (Value × AV)} (hl : σ.h l = .map es) (hd : dlt o.dst σ.n = true) (hK : K (σ.put o.dst (.d (.v (.int .i64 es.length))))) : Step q E B o K Q σ := by
  refine step_val _ (fun B g w a hr => ?_) hd hK
  have hx' := ev_ok hr x
  rw [hx] at hx'
  refine ⟨.int .i64 es.length, ?_, .d _ _ (.v _)⟩
  rw [exec_builtin ho]
  simp only [builtin]
  refine run_v ?_
  cases hx' with
  | map _ _ g0 g1 g2 =>
    have hor := hr.hr.hp l g1
    rw [hl] at hor
    obtain ⟨f1, f2, ms, clock, f3, f4, f5⟩ := hor
    have hm : (#[x].map a.eval) = #[.map (some (g.ρ l))] := by simp [g2 f1]
    rw [hm, run_len_map (P := E.P) w t o.type (g.ρ l) ms clock (by simp [Program.mapKeyOf, Program.mapElemOf, ht]) f3]
    simp [goInt, f4]

theorem st_lenMapD {q : Md} [Qt q] {x : Operand} {t : TypeId} (ho : o.op = .call { callee := .builtin .len, args := #[x], argTypes := #[t] }) {kt et : TypeId} (ht : E.P.underlying t = some (.map kt et)) {es : List (Value × Value)} (hx : ev E σ x = .d (.map es))
    (hd : dlt o.dst σ.n = true) (hK : K (σ.put o.dst (.d (.v (.int .i64 es.length))))) : Step q E B o K Q σ := by
  refine step_val _ (fun B g w a hr => ?_) hd hK
  have hx' := ev_ok hr x
  rw [hx] at hx'
  have hd' := vr_data hx'
  refine ⟨.int .i64 es.length, ?_, .d _ _ (.v _)⟩
  rw [exec_builtin ho]
  simp only [builtin]
  refine run_v ?_
  generalize hax : a.eval x = ax at hd'
  cases hd' with
  | map _ b ms clock h1 h2 h3 h4 h5 =>
    have hm : (#[x].map a.eval) = #[.map (some b)] := by simp [hax]
    rw [hm, run_len_map (P := E.P) w t o.type b ms clock (by simp [Program.mapKeyOf, Program.mapElemOf, ht]) h3]
    simp [goInt, h4]

theorem st_extract {q : Md} [Qt q] {x : Operand} {i : Nat} (ho : o.op = .extract x i) {cs : List AV} (hx : ev E σ x = .tup cs) {c : AV} (hc : cs[i]? = some c) (hd : dlt o.dst σ.n = true) (hK : K (σ.put o.dst c)) : Step q E B o K Q σ := by
  refine step_val _ (fun B g w a hr => ?_) hd hK
  have hx' := ev_ok hr x
  rw [hx] at hx'
  generalize hax : a.eval x = ax at hx'
  cases hx' with
  | tup _ xs h1 h2 =>
    have hi : i < xs.size := by rw [h1]; exact (List.getElem?_eq_some_iff.1 hc).1
    refine ⟨xs[i], ?_, h2 i c _ hc (Array.getElem?_eq_getElem hi)⟩
    simp only [execOp, ho, hax]
    refine run_v ?_
    simp only [Instr.extract, Array.getElem?_eq_getElem hi, Sem.run_pure]

theorem st_makeFunc {q : Md} [Qt q] {f : FuncId} {caps : Array Operand} (ho : o.op = .makeFunc (.func f) #[] caps) (hd : dlt o.dst σ.n = true) (hK : K (σ.put o.dst (.fn f (caps.toList.map (ev E σ))))) : Step q E B o K Q σ := by
  refine step_val _ (fun B g w a hr => ?_) hd hK
  refine ⟨.func (.func f) #[] (caps.map a.eval), ?_, .fn f _ _ (by simp) fun i c x hc hx => ?_⟩
  · simp only [execOp, ho]
    refine run_v ?_
    simp [Instr.makeFunc]
  · simp only [List.getElem?_map, Option.map_eq_some_iff, Array.getElem?_toList] at hc
    obtain ⟨y, hy, rfl⟩ := hc
    simp only [Array.getElem?_map, hy, Option.map_some, Option.some.injEq] at hx
    subst hx
    exact ev_ok hr y

/-! ### Reckoning -/
/-- An operator on two plain values. -/
def bin (op : BinOp) (x y : Value) : Option Value :=
  match x, y with
  | .int k a, .int k' b =>
    match op with
    | .shl => if 0 ≤ b then some (.int k (k.wrap (a * 2 ^ (min b.toNat k.bits)))) else none
    | .shr => if 0 ≤ b then some (.int k (a.fdiv (2 ^ (min b.toNat k.bits)))) else none
    | op => if k = k' then
        match op with
        | .add => some (.int k (k.wrap (a + b)))
        | .sub => some (.int k (k.wrap (a - b)))
        | .mul => some (.int k (k.wrap (a * b)))
        | .quo => if b = 0 then none else some (.int k (k.wrap (a.tdiv b)))
        | .rem => if b = 0 then none else some (.int k (a.tmod b))
        | .and => some (.int k (k.wrap (BitVec.ofInt k.bits a &&& BitVec.ofInt k.bits b).toNat))
        | .or => some (.int k (k.wrap (BitVec.ofInt k.bits a ||| BitVec.ofInt k.bits b).toNat))
        | .xor => some (.int k (k.wrap (BitVec.ofInt k.bits a ^^^ BitVec.ofInt k.bits b).toNat))
        | .andNot => some (.int k (k.wrap (BitVec.ofInt k.bits a &&& ~~~ BitVec.ofInt k.bits b).toNat))
        | .eql => some (.bool (a == b))
        | .neq => some (.bool (a != b))
        | .lss => some (.bool (decide (a < b)))
        | .leq => some (.bool (decide (a ≤ b)))
        | .gtr => some (.bool (decide (a > b)))
        | .geq => some (.bool (decide (a ≥ b)))
        | _ => none
      else none
  | .string a, .string b =>
    match op with
    | .add => if ((a.size + b.size : Nat) : Int) ≤ 9223372036854775807 then some (.string (a ++ b)) else none
    | .eql => some (.bool (a.toList == b.toList))
    | .neq => some (.bool !(a.toList == b.toList))
    | .lss => some (.bool (Op.bytesLess a.toList b.toList))
    | .leq => some (.bool (Op.bytesLess a.toList b.toList || a.toList == b.toList))
    | .gtr => some (.bool !(Op.bytesLess a.toList b.toList || a.toList == b.toList))
    | .geq => some (.bool !(Op.bytesLess a.toList b.toList))
    | _ => none
  | _, _ => none

theorem run_bin {P : Program} {op : BinOp} {x y r : Value} (h : bin op x y = some r) (t : TypeId) (w : World) : (binOp op t x y).run P w = .ok r w := by
  cases x with
  | int k a =>
    cases y with
    | int k' b =>
      cases op <;> simp only [bin] at h <;> simp only [binOp]
      case shl | shr =>
        split at h
        · rename_i hb
          cases h
          simp [Op.shift, Int.not_lt.2 hb]
        · cases h
      all_goals
        (split at h
         · rename_i hk
           subst hk
           first
             | (cases h; simp [Op.intArith, Op.intBits, Op.intCmp])
             | (split at h
                · cases h
                · rename_i hb; cases h; simp [Op.intDiv, hb])
         · cases h)
    | _ => cases h
  | string a =>
    cases y with
    | string b =>
      cases op <;> simp only [bin] at h <;> simp only [binOp]
      case add =>
        split at h
        · rename_i hb
          cases h
          have : ¬ (((a.size + b.size : Nat) : Int) > IntKind.i64.max) := by
            have : IntKind.i64.max = 9223372036854775807 := by decide
            omega
          simp only [Op.stringOp, this, if_false, Sem.run_pure]
        · cases h
      all_goals first | (cases h; simp [Op.stringOp]) | cases h
    | _ => cases h
  | _ => cases h

theorem eqGuard_plain {P : Program} (op : BinOp) (t : TypeId) (x y : Operand) {a b r : Value} (h : bin op a b = some r) (w : World) : (eqGuard op t x y a b).run P w = .ok () w := by
  unfold eqGuard
  cases a <;> cases b <;> first | (cases h; done) | skip
  all_goals (cases op <;> rfl)

theorem st_bin {q : Md} [Qt q] {op : BinOp} {t u : TypeId} {x y : Operand} (ho : o.op = .binOp op t x y u) {a b r : Value} (hx : ev E σ x = .d (.v a)) (hy : ev E σ y = .d (.v b)) (hr' : bin op a b = some r)
    (hd : dlt o.dst σ.n = true) (hK : K (σ.put o.dst (.d (.v r)))) : Step q E B o K Q σ := by
  refine step_val _ (fun B g w ac hr => ?_) hd hK
  have hx' := ev_ok hr x
  have hy' := ev_ok hr y
  rw [hx] at hx'
  rw [hy] at hy'
  refine ⟨r, ?_, .d _ _ (.v _)⟩
  simp only [execOp, ho, vr_val hx', vr_val hy']
  refine run_v ?_
  simp only [Sem.run_bind, eqGuard_plain op t x y hr', Result.andThen_ok, run_bin hr']

theorem st_not {q : Md} [Qt q] {t : TypeId} {x : Operand} (ho : o.op = .unOp .not t x) {b : Bool} (hx : ev E σ x = .d (.v (.bool b))) (hd : dlt o.dst σ.n = true) (hK : K (σ.put o.dst (.d (.v (.bool (!b)))))) : Step q E B o K Q σ := by
  refine step_val _ (fun B g w ac hr => ?_) hd hK
  have hx' := ev_ok hr x
  rw [hx] at hx'
  refine ⟨_, ?_, .d _ _ (.v _)⟩
  simp only [execOp, ho, vr_bool hx']
  exact run_v (by simp [Op.unary])
theorem st_neg {q : Md} [Qt q] {t : TypeId} {x : Operand} (ho : o.op = .unOp .neg t x) {k : IntKind} {n : Int} (hx : ev E σ x = .d (.v (.int k n))) (hd : dlt o.dst σ.n = true) (hK : K (σ.put o.dst (.d (.v (.int k (k.wrap (0 - n))))))) : Step q E B o K Q σ := by
  refine step_val _ (fun B g w ac hr => ?_) hd hK
  have hx' := ev_ok hr x
  rw [hx] at hx'
  refine ⟨_, ?_, .d _ _ (.v _)⟩
  simp only [execOp, ho, vr_int hx']
  exact run_v (by simp [Op.unary, Op.intArith])
theorem st_convInt {q : Md} [Qt q] {s t : TypeId} {x : Operand} (ho : o.op = .convert s t x) {k : IntKind} (hs : (E.P.underlying s).isSome = true) (ht : E.P.underlying t = some (.int k)) {k' : IntKind} {n : Int} (hx : ev E σ x = .d (.v (.int k' n)))
    (hd : dlt o.dst σ.n = true) (hK : K (σ.put o.dst (.d (.v (.int k (k.wrap n)))))) : Step q E B o K Q σ := by
  refine step_val _ (fun B g w ac hr => ?_) hd hK
  have hx' := ev_ok hr x
  rw [hx] at hx'
  obtain ⟨ds, hs'⟩ := Option.isSome_iff_exists.1 hs
  refine ⟨_, ?_, .d _ _ (.v _)⟩
  simp only [execOp, ho, vr_int hx']
  refine run_v ?_
  simp only [convert, Sem.run_bind, run_underlying hs', run_underlying ht, Result.andThen_ok, Conv.intToInt, Sem.run_pure]
theorem st_convStr {q : Md} [Qt q] {s t : TypeId} {x : Operand} (ho : o.op = .convert s t x) (hs : E.P.underlying s = some .string) (ht : E.P.underlying t = some .string) {b : ByteArray} (hx : ev E σ x = .d (.v (.string b)))
    (hd : dlt o.dst σ.n = true) (hK : K (σ.put o.dst (.d (.v (.string b))))) : Step q E B o K Q σ := by
  refine step_val _ (fun B g w ac hr => ?_) hd hK
  have hx' := ev_ok hr x
  rw [hx] at hx'
  refine ⟨_, ?_, .d _ _ (.v _)⟩
  simp only [execOp, ho, vr_str hx']
  refine run_v ?_
  simp only [convert, Sem.run_bind, run_underlying hs, run_underlying ht, Result.andThen_ok, Sem.run_pure]
end
end Go.Proofs.YtdcpnpcmgfmenaaGreatDoor.Lg
/-
  Calls of functions that turn nothing, and what their bodies owe. Conditions: none.
-/
set_option linter.unusedSimpArgs false
set_option linter.unusedVariables false
namespace Go.Proofs.YtdcpnpcmgfmenaaGreatDoor.Lg
open Go Go.RowKit Go.Shelf

def G.res (g : G) (w w' : World) : G := { g with I := resI g.I w w', J := resI g.I w w' }
/-- How a callee sees what there is: nothing is its own. -/
def G.callee (g : G) (w : World) : G := { g with J := fun b => b < w.heap.size }

/-- The function, called with these, returns that; nothing that was there turns. -/
def Pure (E : Env) (f : FuncId) (args : List AV) (r : AV) : Prop :=
  Enters E.P f ∧ ∀ w g (vs : Array Value), HRel E w g 0 (fun _ => .dead) → vs.size = args.length → (∀ (i : Nat) c x, args[i]? = some c → vs[i]? = some x → VR w g 0 c x) →
    Calls E.P f vs w fun e w' => ∃ v, e = .returned v ∧ VR w' (g.res w w') 0 r v ∧ Below w.heap.size w w'

section
variable {E : Env} {B : Base} {Q : Exit → St → Prop} {σ : St} {o : Oper} {K : St → Prop}

theorem callee_hr {w : World} {g : G} {nx : Nat} {h : Nat → AO} (hr : HRel E w g nx h) : HRel E w (g.callee w) 0 (fun _ => .dead) :=
  ⟨fun _ h => by omega, fun _ _ => rfl, fun _ _ h => by omega, fun _ h => h, fun b hb => hr.Jlt b (hr.IJ b hb), fun b _ ⟨l, hl, _⟩ => by omega,
    gl_mono (g' := g.callee w) hr (fun _ h => h) (fun b hb => hr.Jlt b hb) (fun _ _ => rfl)⟩

/-- An argument, as the callee sees it. -/
def NA (E : Env) (σ : St) (v v' : AV) : Prop := ∀ B g w a, Rel E B g σ w a → ∀ x, VR w g σ.nx v x → VR w (g.callee w) 0 v' x
def NAs (E : Env) (σ : St) : List AV → List AV → Prop
  | [], [] => True
  | v :: vs, v' :: vs' => NA E σ v v' ∧ NAs E σ vs vs'
  | _, _ => False

theorem na_d (x : D) : NA E σ (.d x) (.d x) := fun B g w a hr y h => .d _ _ ((vr_data h).mono (fun _ h => h) (fun b hb => hr.hr.Jlt b hb) (fun _ _ => rfl))
theorem na_any (v : AV) : NA E σ v .any := fun B g w a hr y h => .any _
theorem na_nil : NA E σ (.d (.v (.slice none 0 0))) (.d (.sl true [])) := fun B g w a hr y h => by rw [vr_val h]; exact .d _ _ (.nil _ _ _)
theorem na_dp (cs : List D) (off : Nat) : NA E σ (.dp cs off) (.dp cs off) := fun B g w a hr y h => by
  cases h with
  | dp _ _ b o f h1 h2 h3 => exact .dp _ _ _ _ f (hr.hr.Jlt b h1) h2 (fun i c hc => (h3 i c hc).mono (fun _ h => h) (fun b hb => hr.hr.Jlt b hb) (fun _ _ => rfl))
theorem na_agg {cs : List AV} {ds : List D} (h : NAs E σ cs (ds.map .d)) : NA E σ (.agg cs) (.d (.agg ds)) := fun B g w a hr y hy => by
  have key : ∀ {cs : List AV} {ds : List D}, NAs E σ cs (ds.map .d) → cs.length = ds.length ∧ ∀ (i : Nat) c d, cs[i]? = some c → ds[i]? = some d → NA E σ c (.d d) := by
    intro cs
    induction cs with
    | nil => intro ds h; cases ds <;> simp_all [NAs]
    | cons c cs ih =>
      intro ds h
      cases ds with
      | nil => simp [NAs] at h
      | cons d ds =>
        simp only [List.map_cons, NAs] at h
        obtain ⟨h1, h2⟩ := ih h.2
        refine ⟨by simp [h1], fun i c' d' hc hd => ?_⟩
        cases i with
        | zero => simp at hc hd; subst hc; subst hd; exact h.1
        | succ i => exact h2 i c' d' (by simpa using hc) (by simpa using hd)
  obtain ⟨h1, h2⟩ := key h
  cases hy with
  | agg _ xs g1 g2 =>
    refine .d _ _ (.agg _ _ (by omega) fun i d x hd hx => ?_)
    have hi : i < cs.length := by rw [h1]; exact (List.getElem?_eq_some_iff.1 hd).1
    exact vr_data (h2 i cs[i] d (List.getElem?_eq_getElem hi) hd B g w a hr x (g2 i _ x (List.getElem?_eq_getElem hi) hx))
theorem na_fn {f : Nat} {caps caps' : List AV} (h : NAs E σ caps caps') : NA E σ (.fn f caps) (.fn f caps') := fun B g w a hr y hy => by
  have key : ∀ {cs ds : List AV}, NAs E σ cs ds → cs.length = ds.length ∧ ∀ (i : Nat) c d, cs[i]? = some c → ds[i]? = some d → NA E σ c d := by
    intro cs
    induction cs with
    | nil => intro ds h; cases ds <;> simp_all [NAs]
    | cons c cs ih =>
      intro ds h
      cases ds with
      | nil => simp [NAs] at h
      | cons d ds =>
        simp only [NAs] at h
        obtain ⟨h1, h2⟩ := ih h.2
        refine ⟨by simp [h1], fun i c' d' hc hd => ?_⟩
        cases i with
        | zero => simp at hc hd; subst hc; subst hd; exact h.1
        | succ i => exact h2 i c' d' (by simpa using hc) (by simpa using hd)
  obtain ⟨h1, h2⟩ := key h
  cases hy with
  | fn _ _ xs g1 g2 =>
    refine .fn _ _ _ (by omega) fun i d x hd hx => ?_
    have hi : i < caps.length := by rw [h1]; exact (List.getElem?_eq_some_iff.1 hd).1
    exact h2 i caps[i] d (List.getElem?_eq_getElem hi) hd B g w a hr x (g2 i _ x (List.getElem?_eq_getElem hi) hx)
/-- A pointer to an object of data, handed to one that only reads. -/
theorem na_p {l off : Nat} {ds : List D} (hl : σ.h l = .cells (ds.map .d)) : NA E σ (.p l 0 off) (.dp ds off) := fun B g w a hr y hy => by
  cases hy with
  | p _ _ _ _ h0 h1 h2 h3 =>
    have hor := hr.hr.hp l h1
    rw [hl] at hor
    obtain ⟨f1, f2, xs, t, f3, f4, f5⟩ := hor
    have hlt := (Array.getElem?_eq_some_iff.1 f3).1
    rw [h3 f1]
    have := VR.dp (w := w) (g := g.callee w) (nx := 0) ds off (g.ρ l) 0 (fun i => xs.getD i undef) hlt (fun i c hc => ?_) (fun i c hc => ?_)
    · simpa using this
    · have hi : i < xs.size := by rw [f4]; simp; exact (List.getElem?_eq_some_iff.1 hc).1
      simp [World.cell?, f3, hi]
    · have hi : i < xs.size := by rw [f4]; simp; exact (List.getElem?_eq_some_iff.1 hc).1
      have := vr_data (f5 i (.d c) xs[i] (by simp [hc]) (Array.getElem?_eq_getElem hi))
      have e : xs.getD i undef = xs[i] := by simp [hi]
      show DR w g.I _ c (xs.getD i undef)
      rw [e]; exact this.mono (fun _ h => h) (fun b hb => hr.hr.Jlt b hb) (fun _ _ => rfl)
/-- A growing row, lent to one that only reads. -/
theorem na_own {l k e sz off n : Nat} {rows : List (List D)} (hl : σ.h l = .arr k e sz (rows.map (·.map .d))) (hn : off + n ≤ rows.length) : NA E σ (.own l k sz off n) (.d (.sl false ((rows.drop off).take n))) := fun B g w a hr y hy => by
  cases hy with
  | own _ _ _ _ _ _ h0 h1 h2 h3 =>
    have hor := hr.hr.hp l h1
    rw [hl] at hor
    obtain ⟨f1, f2, f3, f4, xs, f5, f6⟩ := hor
    have hown := h3 f1
    by_cases hn0 : n = 0
    · subst hn0
      have : ∃ b c, y = .slice b 0 c := by
        unfold OwnV at hown
        split at hown
        · exact ⟨_, _, hown⟩
        · obtain ⟨b, c, h, _⟩ := hown; exact ⟨b, c, h⟩
      obtain ⟨b, c, rfl⟩ := this
      rw [List.take_zero]; exact .d _ _ (.nil _ _ _)
    · have hvt : g.vt l = false := by
        cases hv : g.vt l with
        | false => rfl
        | true => obtain ⟨h, _⟩ := f4 hv; simp at h; subst h; simp at hn; omega
      obtain ⟨a1, a2, a3, cur, a4, a5, a6⟩ := owns_block hvt f5
      have hlt := (Array.getElem?_eq_some_iff.1 a4).1
      have : ∃ c, y = .slice (some ⟨g.ρ l, off * sz, none⟩) n c ∧ n ≤ c := by
        unfold OwnV at hown
        split at hown
        · rename_i h; subst h; exact ⟨g.cap l, by simp [hown, handle, hvt], by simp at a2; omega⟩
        · obtain ⟨b, c, h, hnc, h'⟩ := hown; exact ⟨c, by rw [h, h' (by omega)], hnc⟩
      obtain ⟨c, rfl, hnc⟩ := this
      have hrl : ∀ r ∈ rows, r.length = sz := fun r hr' => by simpa using f3 (r.map .d) (List.mem_map_of_mem hr')
      have hlen : ((rows.drop off).take n).length = n := by simp; omega
      have hfl := flat_length hrl
      have hsub : ∀ (i : Nat) c, ((rows.drop off).take n).flatten[i]? = some c → rows.flatten[off * sz + i]? = some c := by
        intro i c hc
        have h4 : rows.flatten = (rows.take off).flatten ++ ((rows.drop off).take n).flatten ++ ((rows.drop off).drop n).flatten := by
          rw [← List.flatten_append, ← List.flatten_append, List.append_assoc, List.take_append_drop, List.take_append_drop]
        have h5 : (rows.take off).flatten.length = off * sz := by
          rw [flat_length (n := sz) (fun r hr' => hrl r (List.mem_of_mem_take hr')), List.length_take, Nat.min_eq_left (by omega)]
        rw [h4, List.append_assoc, List.getElem?_append_right (by omega), h5, show off * sz + i - off * sz = i by omega, List.getElem?_append_left (List.getElem?_eq_some_iff.1 hc).1]
        exact hc
      have get : ∀ (i : Nat) c, rows.flatten[i]? = some c → cur[i]? = some (cur.getD i undef) ∧ DR w g.I g.J c (cur.getD i undef) := by
        intro i c hc
        have hi : i < rows.length * sz := by rw [← hfl]; exact (List.getElem?_eq_some_iff.1 hc).1
        have hi2 : i < cur.size := by
          have : rows.length * sz ≤ cur.size := by rw [a5]; exact Nat.mul_le_mul_right sz (by simpa using a2)
          omega
        have e : cur.getD i undef = cur[i] := by simp [hi2]
        refine ⟨by rw [e]; exact Array.getElem?_eq_getElem hi2, vr_data (f6 i (.d c) _ ?_ ?_)⟩
        · show (rows.map (List.map AV.d)).flatten[i]? = _
          rw [← List.map_flatten, List.getElem?_map, hc]; rfl
        · rw [← a6, List.getElem?_take_of_lt (by simpa using hi), Array.getElem?_toList, e]; exact Array.getElem?_eq_getElem hi2
      have hres := DR.sl (w := w) (I := g.I) (J := fun b => b < w.heap.size) false ((rows.drop off).take n) (g.ρ l) (off * sz) c (fun i => cur.getD (off * sz + i) undef) (by simp) hlt (by rw [hlen]; simp at f2; exact ⟨by omega, hnc⟩)
        (fun i c hc => by
          have := (get _ c (hsub i c hc)).1
          simp only [World.cell?, a4, Option.isSome_none, Bool.false_eq_true, if_false]; exact this)
        (fun i c hc => ((get _ c (hsub i c hc)).2).mono (fun _ h => h) (fun b hb => hr.hr.Jlt b hb) (fun _ _ => rfl))
      rw [hlen] at hres
      exact .d _ _ hres

theorem nas_get : ∀ {cs ds : List AV}, NAs E σ cs ds → cs.length = ds.length ∧ ∀ (i : Nat) c d, cs[i]? = some c → ds[i]? = some d → NA E σ c d := by
  intro cs
  induction cs with
  | nil => intro ds h; cases ds <;> simp_all [NAs]
  | cons c cs ih =>
    intro ds h
    cases ds with
    | nil => simp [NAs] at h
    | cons d ds =>
      simp only [NAs] at h
      obtain ⟨h1, h2⟩ := ih h.2
      refine ⟨by simp [h1], fun i c' d' hc hd => ?_⟩
      cases i with
      | zero => simp at hc hd; subst hc; subst hd; exact h.1
      | succ i => exact h2 i c' d' (by simpa using hc) (by simpa using hd)

/-- A loc-free value means the same whatever objects there are. -/
theorem vr_free {w : World} {g g' : G} {nx : Nat} (hI : ∀ b, g.I b → g'.I b) (hJ : ∀ b, g.J b → g'.J b) {c : AV} {x : Value} (h : VR w g 0 c x) : VR w g' nx c x :=
  h.mono ⟨hI, hJ, fun _ h => by omega, fun _ h => by omega⟩ (Nat.zero_le _) (fun _ _ => rfl)

theorem st_call {q : Md} [Qt q] {fo : Operand} {ar : Array Operand} {ts : Array TypeId} (ho : o.op = .call { callee := .value fo, args := ar, argTypes := ts }) {f : FuncId} {caps : List AV} (hf : ev E σ fo = .fn f caps)
    {args : List AV} {r : AV} (hp : Pure E f args r) (ha : NAs E σ (ar.toList.map (ev E σ) ++ caps) args) (hd : dlt o.dst σ.n = true) (hK : K (σ.put o.dst r)) : Step q E B o K Q σ := by
  refine step_q r (fun B g w a hr next Q' hn => ?_) hd hK
  have hfo := ev_ok hr fo
  rw [hf] at hfo
  generalize hfx : a.eval fo = fx at hfo
  cases hfo with
  | fn _ _ xs h1 h2 =>
    have hexec : (execOp a.eval o).run E.P w = .ok (.enter f (ar.map a.eval ++ xs)) w := by
      simp only [execOp, ho, resolve, hfx, Deferred.ofValue, Sem.run_bind, Sem.run_pure, Result.andThen_ok, invoke, Array.empty_append]
      exact hp.1 _ _
    obtain ⟨hl, hget⟩ := nas_get ha
    have hc := hp.2 w (g.callee w) (ar.map a.eval ++ xs) (callee_hr hr.hr) (by rw [← hl]; simp [h1]) (fun i c x hc hx => by
      have hi : i < (ar.toList.map (ev E σ) ++ caps).length := by rw [hl]; exact (List.getElem?_eq_some_iff.1 hc).1
      refine hget i _ c (List.getElem?_eq_getElem hi) hc B g w a hr x ?_
      by_cases his : i < ar.size
      · have e1 : (ar.toList.map (ev E σ) ++ caps)[i] = ev E σ ar[i] := by
          rw [List.getElem_append_left (by simpa using his)]; simp
        have e2 : x = a.eval ar[i] := by
          rw [Array.getElem?_append_left (by simpa using his)] at hx
          simp [his] at hx; exact hx.symm
        rw [e1, e2]; exact ev_ok hr _
      · have hi2 : i - ar.size < caps.length := by simp at hi; omega
        have e1 : (ar.toList.map (ev E σ) ++ caps)[i]? = caps[i - ar.size]? := by
          rw [List.getElem?_append_right (by simpa using his)]; simp
        rw [Array.getElem?_append_right (by simpa using his)] at hx
        refine h2 (i - ar.size) _ x ?_ (by simpa using hx)
        rw [← e1]; exact List.getElem?_eq_getElem hi)
    unfold Oper.wp
    rw [hexec, Oper.upon_enter]
    refine hc.mono ?_
    rintro e w' ⟨v, rfl, hv, hb⟩
    exact hn w' v hb (vr_free (g := (g.callee w).res w w') (g' := g.ext w w') (fun _ h => h) (fun _ h => .inr h) hv)

/-! ### Bodies -/
def argsT : List AV → Nat → Nat → AV
  | [], _ => fun _ => .any
  | v :: vs, k => upd (argsT vs (k + 1)) k v
def initSt (args : List AV) (n : Nat) : St := { t := argsT args 0, n := n, h := fun _ => .dead, nx := 0 }

theorem argsT_get : ∀ (vs : List AV) (k i : Nat), argsT vs k i = if k ≤ i then vs.getD (i - k) .any else .any
  | [], k, i => by simp [argsT]
  | v :: vs, k, i => by
    simp only [argsT, upd]
    split
    · rename_i h; subst h; simp
    · rename_i h
      rw [argsT_get vs (k + 1) i]
      by_cases h1 : k ≤ i
      · rw [if_pos h1, if_pos (by omega), show i - k = (i - (k + 1)) + 1 by omega]; simp
      · rw [if_neg h1, if_neg (by omega)]

/-- A value that is handed back, as the caller sees it. -/
def RA (E : Env) (σ : St) (v v' : AV) : Prop := ∀ B g w a, B.nx = 0 → Rel E B g σ w a → ∀ x, VR w g σ.nx v x → VR w (B.g.res B.w w) 0 v' x

/-- Data without what was but lent. -/
def Keeps (x : D) : Prop := ∀ (w : World) (I J : Nat → Prop) y, (∀ b, I b → J b) → DR w I J x y → DR w I I x y

theorem keeps_v (x : Value) : Keeps (.v x) := fun w I J y _ h => by cases h; exact .v _
theorem keeps_agg {cs : List D} (h : ∀ c ∈ cs, Keeps c) : Keeps (.agg cs) := fun w I J y hIJ hd => by
  cases hd with
  | agg _ xs h1 h2 => exact .agg _ _ h1 fun i c x hc hx => h c (List.mem_of_getElem? hc) w I J x hIJ (h2 i c x hc hx)
theorem keeps_map (es : List (Value × Value)) : Keeps (.map es) := fun w I J y hIJ hd => by
  cases hd with
  | map _ b ms clock h1 h2 h3 h4 h5 => exact .map es b ms clock h1 h1 h3 h4 h5
theorem keeps_nil (s : Bool) : Keeps (.sl s []) := fun w I J y _ hd => by
  cases hd with
  | nil => exact .nil _ _ _
  | sl _ _ b off c f _ _ _ _ _ => exact .nil _ _ _
theorem keeps_sl {es : List (List D)} (h : ∀ r ∈ es, ∀ c ∈ r, Keeps c) : Keeps (.sl true es) := fun w I J y hIJ hd => by
  cases hd with
  | nil => exact .nil _ _ _
  | sl _ _ b off c f h1 h2 h3 h4 h5 =>
    refine .sl true es b off c f h1 (h1 rfl) h3 h4 fun i c hc => ?_
    obtain ⟨r, hr, hcr⟩ := List.mem_flatten.1 (List.mem_of_getElem? hc)
    exact h r hr c hcr w I J _ hIJ (h5 i c hc)

theorem res_I {g : G} {w : World} {a : Act} (hB : B.nx = 0) (hr : Rel E B g σ w a) {b : Nat} (h : g.I b) : resI B.g.I B.w w b := by
  have hlt := hr.hr.Jlt b (hr.hr.IJ b h)
  rcases hr.ext.inew b h with h | ⟨l, hl, _⟩ | h
  · exact .inl h
  · omega
  · exact .inr ⟨h, hlt⟩

theorem ra_d {x : D} (h : Keeps x) : RA E σ (.d x) (.d x) := fun B g w a hB hr y hy =>
  .d _ _ ((h w g.I g.J y hr.hr.IJ (vr_data hy)).mono (fun b hb => res_I hB hr hb) (fun b hb => res_I hB hr hb) (fun _ _ => rfl))
/-- A map of plain values, handed over. -/
theorem ra_map {l : Nat} {es : List (Value × Value)} (hl : σ.h l = .map (es.map fun p => (p.1, .d (.v p.2)))) : RA E σ (.map l) (.d (.map es)) := fun B g w a hB hr y hy => by
  cases hy with
  | map _ _ g0 g1 g2 =>
    have hor := hr.hr.hp l g1
    rw [hl] at hor
    obtain ⟨f1, f2, ms, clock, f3, f4, f5⟩ := hor
    rw [g2 f1]
    have hb : resI B.g.I B.w w (g.ρ l) := by
      have hlt := (Array.getElem?_eq_some_iff.1 f3).1
      rcases hr.ext.own (g.ρ l) ⟨l, g1, by rw [hl]; simp, f2, rfl⟩ with ⟨l', h, _⟩ | h
      · omega
      · exact .inr ⟨h, hlt⟩
    refine .d _ _ (.map es (g.ρ l) ms clock hb hb f3 (by simpa using f4) fun i e m he hm => ?_)
    obtain ⟨h1, h2⟩ := f5 i (e.1, .d (.v e.2)) m (by simp [he]) hm
    exact ⟨h1, vr_val h2⟩
theorem ra_nil : RA E σ (.d (.v (.slice none 0 0))) (.d (.sl true [])) := fun B g w a hB hr y h => by rw [vr_val h]; exact .d _ _ (.nil _ _ _)

def RAs (E : Env) (σ : St) : List AV → List AV → Prop
  | [], [] => True
  | v :: vs, v' :: vs' => RA E σ v v' ∧ RAs E σ vs vs'
  | _, _ => False
theorem ras_get : ∀ {cs ds : List AV}, RAs E σ cs ds → cs.length = ds.length ∧ ∀ (i : Nat) c d, cs[i]? = some c → ds[i]? = some d → RA E σ c d := by
  intro cs
  induction cs with
  | nil => intro ds h; cases ds <;> simp_all [RAs]
  | cons c cs ih =>
    intro ds h
    cases ds with
    | nil => simp [RAs] at h
    | cons d ds =>
      simp only [RAs] at h
      obtain ⟨h1, h2⟩ := ih h.2
      refine ⟨by simp [h1], fun i c' d' hc hd => ?_⟩
      cases i with
      | zero => simp at hc hd; subst hc; subst hd; exact h.1
      | succ i => exact h2 i c' d' (by simpa using hc) (by simpa using hd)
theorem ra_agg {cs : List AV} {ds : List D} (h : RAs E σ cs (ds.map .d)) : RA E σ (.agg cs) (.d (.agg ds)) := fun B g w a hB hr y hy => by
  obtain ⟨h1, h2⟩ := ras_get h
  cases hy with
  | agg _ xs g1 g2 =>
    refine .d _ _ (.agg _ _ (by simp at h1; omega) fun i d x hd hx => ?_)
    have hi : i < cs.length := by rw [h1]; simp; exact (List.getElem?_eq_some_iff.1 hd).1
    exact vr_data (h2 i cs[i] (.d d) (List.getElem?_eq_getElem hi) (by simp [hd]) B g w a hB hr x (g2 i _ x (List.getElem?_eq_getElem hi) hx))

/-- A result that lies in a cell. -/
def RC (E : Env) (σ : St) (t : Nat) (ty : TypeId) (r : AV) : Prop :=
  ∃ cs s b, at_ σ.h (σ.t t) = some cs ∧ (E.P.info? ty).map (·.size) = some s ∧ aggT E.P ty = some b ∧ s ≤ cs.length ∧ (b = true ∨ 0 < s) ∧ RA E σ (if b = true then mkAgg (cs.take s) else cs.headD .any) r

theorem rc_run {t : Nat} {ty : TypeId} {r : AV} (h : RC E σ t ty r) {g : G} {w : World} {a : Act} (hB : B.nx = 0) (hr : Rel E B g σ w a) :
    ∃ p v, a.tmps.getD t undef = .pointer (some p) ∧ (loadVar ty p).run E.P w = .ok v w ∧ VR w (B.g.res B.w w) 0 r v := by
  obtain ⟨cs, s, b, hc, hs, hb, hl', h1, hra⟩ := h
  obtain ⟨b', p, f, hx, hf⟩ := at_ok hr hc (hr.tm t)
  cases b with
  | true =>
    refine ⟨_, .agg ((List.range s).map f).toArray, hx, ?_, hra B g w a hB hr _ ?_⟩
    · have hcells : (loadCells ⟨b', p, none⟩ s).run E.P w = .ok ((List.range s).map f).toArray w := run_loadCells w _ s f fun j hj => by
        rw [add_mk]
        exact (hf j cs[j] (List.getElem?_eq_getElem (by omega))).1
      simp only [Sem.run_bind, Sem.run_pure, Result.andThen_ok, loadVar, run_isAgg hb, if_true, run_sizeOf hs, hcells]
    · simp only [if_true]
      refine vr_mkAgg (by simp; omega) fun i c y hi hy => ?_
      by_cases his : i < s
      · rw [List.getElem?_take_of_lt his] at hi
        have : y = f i := by simp [his] at hy; exact hy.symm
        rw [this]; exact (hf i c hi).2
      · simp [List.getElem?_take, his] at hi
  | false =>
    have hs0 : 0 < s := by rcases h1 with h | h; cases h; exact h
    cases cs with
    | nil => simp at hl'; omega
    | cons c0 cs =>
      obtain ⟨h1, h2⟩ := hf 0 c0 rfl
      refine ⟨_, f 0, hx, ?_, hra B g w a hB hr _ (by simpa using h2)⟩
      simp only [Nat.add_zero] at h1
      simp only [Sem.run_bind, Sem.run_pure, Result.andThen_ok, loadVar, run_isAgg hb, Bool.false_eq_true, if_false, run_load, h1]

/-- What the function's results are. -/
def ResOk (E : Env) (fn : Func) (σ : St) (r : AV) : Prop :=
  (∃ t, fn.results = #[.tmp t] ∧ RA E σ (σ.t t) r) ∨
  (∃ t u r1 r2, fn.results = #[.tmp t, .tmp u] ∧ r = .tup [r1, r2] ∧ RA E σ (σ.t t) r1 ∧ RA E σ (σ.t u) r2) ∨
  (∃ t u v r1 r2 r3, fn.results = #[.tmp t, .tmp u, .tmp v] ∧ r = .tup [r1, r2, r3] ∧ RA E σ (σ.t t) r1 ∧ RA E σ (σ.t u) r2 ∧ RA E σ (σ.t v) r3) ∨
  (fn.results = #[] ∧ r = .tup []) ∨
  (∃ t ty, fn.results = #[.cell t ty] ∧ RC E σ t ty r) ∨
  (∃ t ty u r1 r2, fn.results = #[.cell t ty, .tmp u] ∧ r = .tup [r1, r2] ∧ RC E σ t ty r1 ∧ RA E σ (σ.t u) r2) ∨
  (∃ t ty u uy r1 r2, fn.results = #[.cell t ty, .cell u uy] ∧ r = .tup [r1, r2] ∧ RC E σ t ty r1 ∧ RC E σ u uy r2)

theorem resOk_run {fn : Func} {r : AV} (h : ResOk E fn σ r) {g : G} {w : World} {a : Act} (hB : B.nx = 0) (hr : Rel E B g σ w a) : ∃ v, (results fn a.tmps).run E.P w = .ok v w ∧ VR w (B.g.res B.w w) 0 r v := by
  rcases h with ⟨t, h1, h2⟩ | ⟨t, u, r1, r2, h1, rfl, h2, h3⟩ | ⟨t, u, v, r1, r2, r3, h1, rfl, h2, h3, h4⟩ | ⟨h1, rfl⟩ | ⟨t, ty, h1, h2⟩ | ⟨t, ty, u, r1, r2, h1, rfl, h2, h3⟩ | ⟨t, ty, u, uy, r1, r2, h1, rfl, h2, h3⟩
  · exact ⟨_, results_tmp h1 _ _ _, h2 B g w a hB hr _ (hr.tm t)⟩
  · refine ⟨_, results_tmp2 h1 _ _ _, .tup _ _ rfl fun i c x hc hx => ?_⟩
    match i with
    | 0 => simp at hc hx; subst hc; subst hx; exact h2 B g w a hB hr _ (by simpa [Array.getD_eq_getD_getElem?] using hr.tm t)
    | 1 => simp at hc hx; subst hc; subst hx; exact h3 B g w a hB hr _ (by simpa [Array.getD_eq_getD_getElem?] using hr.tm u)
    | i + 2 => simp at hc
  · refine ⟨_, results_tmp3 h1 _ _ _, .tup _ _ rfl fun i c x hc hx => ?_⟩
    match i with
    | 0 => simp at hc hx; subst hc; subst hx; exact h2 B g w a hB hr _ (by simpa [Array.getD_eq_getD_getElem?] using hr.tm t)
    | 1 => simp at hc hx; subst hc; subst hx; exact h3 B g w a hB hr _ (by simpa [Array.getD_eq_getD_getElem?] using hr.tm u)
    | 2 => simp at hc hx; subst hc; subst hx; exact h4 B g w a hB hr _ (by simpa [Array.getD_eq_getD_getElem?] using hr.tm v)
    | i + 3 => simp at hc
  · exact ⟨_, results_none h1 _ _ _, .tup _ _ rfl fun i c x hc => by simp at hc⟩
  · obtain ⟨p, v, e1, e2, e3⟩ := rc_run h2 hB hr
    exact ⟨v, by simp [results, h1, ← Array.getD_eq_getD_getElem?, e1, asAddr, e2], e3⟩
  · obtain ⟨p, v, e1, e2, e3⟩ := rc_run h2 hB hr
    refine ⟨.tuple #[v, a.tmps.getD u undef], by simp [results, h1, ← Array.getD_eq_getD_getElem?, e1, asAddr, e2], .tup _ _ rfl fun i c x hc hx => ?_⟩
    match i with
    | 0 => simp at hc hx; subst hc; subst hx; exact e3
    | 1 => simp at hc hx; subst hc; subst hx; exact h3 B g w a hB hr _ (by simpa [Array.getD_eq_getD_getElem?] using hr.tm u)
    | i + 2 => simp at hc
  · obtain ⟨p, v, e1, e2, e3⟩ := rc_run h2 hB hr
    obtain ⟨p', v', e1', e2', e3'⟩ := rc_run h3 hB hr
    refine ⟨.tuple #[v, v'], by simp [results, h1, ← Array.getD_eq_getD_getElem?, e1, asAddr, e2, e1', e2'], .tup _ _ rfl fun i c x hc hx => ?_⟩
    match i with
    | 0 => simp at hc hx; subst hc; subst hx; exact e3
    | 1 => simp at hc hx; subst hc; subst hx; exact e3'
    | i + 2 => simp at hc

def Fin (E : Env) (fn : Func) (r : AV) : Exit → St → Prop := fun e σ => (e = .ret ∨ e = .normal) ∧ ResOk E fn σ r

theorem pure_of_body {f : FuncId} {fn : Func} {c : Code} (hf : E.P.funcs[f]? = some fn) (hname : (fn.name == "runtime.NumGoroutine") = false) (hb : fn.body = some c) {args : List AV} {r : AV} (hn' : decide (args.length ≤ fn.ntmps) = true)
    (h : ∀ B : Base, B.nx = 0 → SWP E B c (Fin E fn r) (initSt args fn.ntmps)) : Pure E f args r := by
  have hn : args.length ≤ fn.ntmps := by simpa using hn'
  refine ⟨enters_of hf hname hb, fun w g vs hr hs hv => ?_⟩
  let B : Base := ⟨w, g, 0, fun _ => .dead⟩
  have hrel : Rel E B g (initSt args fn.ntmps) w { tmps := vs ++ Array.replicate (fn.ntmps - vs.size) undef, defers := [] } := by
    refine ⟨by simp [initSt]; omega, fun i => ?_, hr, ⟨rfl, rfl, rfl, Nat.le_refl _, fun _ _ _ => rfl, GLe.refl _ _, Nat.le_refl _, fun b h => .inl h, fun b h => .inl h⟩, rfl⟩
    simp only [initSt, argsT_get, Nat.zero_le, if_true, Nat.sub_zero]
    by_cases hi : i < args.length
    · have h1 : args.getD i .any = args[i] := by simp [List.getD, hi]
      have h2 : (vs ++ Array.replicate (fn.ntmps - vs.size) undef).getD i undef = vs[i]'(by omega) := by
        rw [Array.getD_eq_getD_getElem?, Array.getElem?_append_left (by omega), Array.getElem?_eq_getElem (by omega)]; rfl
      rw [h1, h2]
      exact hv i _ _ (List.getElem?_eq_getElem hi) (Array.getElem?_eq_getElem (by omega))
    · have : args.getD i .any = .any := by simp [List.getD, List.getElem?_eq_none (Nat.le_of_not_lt hi)]
      rw [this]; exact .any _
  refine calls_of_wp hf hb (wp_mono (h B rfl g w _ hrel) ?_)
  rintro e a' w' ⟨g', σ', hr', he, hres⟩
  obtain ⟨v, hrun, hvr⟩ := resOk_run hres rfl hr'
  have hbel : Below w.heap.size w w' := ⟨hr'.ext.os, hr'.ext.tape, hr'.ext.output, hr'.ext.size, fun k hk => hr'.ext.block k hk (fun ⟨l, hl, _⟩ => Nat.not_lt_zero _ hl)⟩
  rcases he with rfl | rfl
  · exact ⟨hr'.df, v, hrun, v, rfl, hvr, hbel⟩
  · exact ⟨hr'.df, v, hrun, v, rfl, hvr, hbel⟩
end
end Go.Proofs.YtdcpnpcmgfmenaaGreatDoor.Lg
/-
  The operations once more, with the table of types. Conditions: none.
-/
set_option linter.unusedSimpArgs false
set_option linter.unusedVariables false
namespace Go.Proofs.YtdcpnpcmgfmenaaGreatDoor.Lg
open Go Go.RowKit

theorem Env.und (E : Env) {t : Nat} {i : TI} (h : E.ti t = some i) : E.P.underlying t = some i.desc := (E.ok t i h).1
theorem Env.sz (E : Env) {t : Nat} {i : TI} (h : E.ti t = some i) : (E.P.info? t).map (·.size) = some i.size := by
  obtain ⟨_, f, h1, h2, _⟩ := E.ok t i h
  simp [h1, h2]
theorem Env.cel (E : Env) {t : Nat} {i : TI} (h : E.ti t = some i) : E.P.cellsOf t = i.size := by
  obtain ⟨_, f, h1, h2, _⟩ := E.ok t i h
  simp [Program.cellsOf, h1, h2]
theorem Env.zer (E : Env) {t : Nat} {i : TI} (h : E.ti t = some i) : (E.P.info? t).bind (·.zero) = some i.zero := by
  obtain ⟨_, f, h1, _, _, h2⟩ := E.ok t i h
  simp [h1, h2]
def TI.agg (i : TI) : Bool := match i.desc with | .struct _ | .array _ _ => true | _ => false
theorem Env.agg (E : Env) {t : Nat} {i : TI} (h : E.ti t = some i) : aggT E.P t = some i.agg := by
  unfold aggT TI.agg
  rw [E.und h]
  cases i.desc <;> rfl

section
variable {E : Env} {B : Base} {Q : Exit → St → Prop} {σ : St} {o : Oper} {K : St → Prop}

theorem so_alloc {q : Md} [Nw q] {cs : List AV} {t : TypeId} (ho : o.op = .alloc t) {i : TI} (hi : E.ti t = some i) (hz : zcells i.zero = cs) (hd : dlt o.dst σ.n = true)
    (hK : K (St.put { σ with h := upd σ.h σ.nx (.cells cs), nx := σ.nx + 1 } o.dst (.p σ.nx 0 0))) : Step q E B o K Q σ := st_alloc ho (E.zer hi) hd (by rw [hz]; exact hK)
theorem so_box {q : Md} [Nw q] {cs : List AV} {t : TypeId} {x : Operand} (ho : o.op = .box t x) (hc : cellsA (ev E σ x) = some cs) (hd : dlt o.dst σ.n = true)
    (hK : K (St.put { σ with h := upd σ.h σ.nx (.cells cs), nx := σ.nx + 1 } o.dst (.p σ.nx 0 0))) : Step q E B o K Q σ := st_box ho hc hd hK
theorem so_fieldAddr {q : Md} [Qt q] {v : AV} {t : TypeId} {x : Operand} {n : Nat} (ho : o.op = .fieldAddr t x n) {i : TI} (hi : E.ti t = some i) {fs : Array Field} (ht : i.desc = .struct fs) {f : Field} (hf : fs[n]? = some f)
    {j : TI} (hj : E.ti f.type = some j) (hn : (j.size == 0) = false) {u : AV} (hu : ev E σ x = u) (hv : u.live σ.h = true) (hs : u.shift f.offset = some v) (hd : dlt o.dst σ.n = true) (hK : K (σ.put o.dst v)) : Step q E B o K Q σ := by
  subst hu
  exact st_fieldAddr ho (by rw [E.und hi, ht]) hf (by rw [E.cel hj]; exact hn) hv hs hd hK
theorem so_load {q : Md} [Qt q] {v : AV} {t : TypeId} {x : Operand} (ho : o.op = .load t x) {i : TI} (hi : E.ti t = some i) {u : AV} (hu : ev E σ x = u) {cs : List AV} (hc : at_ σ.h u = some cs)
    (hl : decide (i.size ≤ cs.length) = true) (h1 : decide (0 < i.size) = true) (hd : dlt o.dst σ.n = true) (hv : (bif i.agg then mkAgg (cs.take i.size) else cs.headD .any) = v) (hK : K (σ.put o.dst v)) : Step q E B o K Q σ := by
  subst hu
  refine st_load ho hc (E.sz hi) (E.agg hi) hl (.inr h1) hd ?_
  rw [← hv] at hK
  cases h : i.agg <;> simpa [h] using hK
theorem so_store {t : TypeId} {x y : Operand} (ho : o.op = .store t x y) {l off : Nat} (hx : ev E σ x = .p l 0 off) {cs : List AV} (hl : σ.h l = .cells cs) {ys : List AV} (hy : cellsA (ev E σ y) = some ys)
    {i : TI} (hi : E.ti t = some i) (hsz : i.size = ys.length) (hof : decide (off + ys.length ≤ cs.length) = true) (hok : ys.all cellOk = true) (hd : dlt o.dst σ.n = true) {zs : List AV} (hz : splice cs off ys = zs)
    (hK : K (St.put { σ with h := upd σ.h l (.cells zs) } o.dst .any)) : Step .all E B o K Q σ := by
  subst hz
  refine st_store (h' := upd σ.h l (.cells (splice cs off ys))) ho hy ?_ (by rw [E.sz hi, hsz]) hok hd hK
  rw [hx]
  simp only [stored, hl]
  rw [if_pos ⟨trivial, by simpa using hof⟩]
theorem so_storeE {t : TypeId} {x y : Operand} (ho : o.op = .store t x y) {l k sz m j : Nat} (hx : ev E σ x = .pe l k sz m j) {e : Nat} {es : List (List AV)} (hl : σ.h l = .arr k e sz es) {ys : List AV} (hy : cellsA (ev E σ y) = some ys)
    {i : TI} (hi : E.ti t = some i) (hsz : i.size = ys.length) (hok : ys.all cellOk = true) (hd : dlt o.dst σ.n = true) (hm : m < es.length) (hj : j + ys.length ≤ sz)
    (hK : K (St.put { σ with h := upd σ.h l (.arr k e sz (es.set m (splice (es.getD m []) j ys))) } o.dst .any)) : Step .all E B o K Q σ := by
  refine st_store (h' := upd σ.h l (.arr k e sz (es.set m (splice (es.getD m []) j ys)))) ho hy ?_ (by rw [E.sz hi, hsz]) hok hd hK
  rw [hx]
  have : es[m]? = some (es.getD m []) := by simp [List.getD, hm]
  simp only [stored, hl, this]
  rw [if_pos ⟨trivial, trivial, hj⟩]
theorem so_indexSl {q : Md} [Qt q] {row : List D} {t : TypeId} {x ix : Operand} (ho : o.op = .indexAddr t x ix) {i : TI} (hi : E.ti t = some i) {e : TypeId} (ht : i.desc = .slice e) {j : TI} (hj : E.ti e = some j)
    {s : Bool} {es : List (List D)} (hx : ev E σ x = .d (.sl s es)) {k : IntKind} {n : Int} (hn : ev E σ ix = .d (.v (.int k n)))
    (hd : dlt o.dst σ.n = true) (hall : ∀ r ∈ es, r.length = j.size) (h0 : 0 ≤ n) (h1 : n < es.length) (hr : es.getD n.toNat [] = row) (hK : K (σ.put o.dst (.dp row 0))) : Step q E B o K Q σ :=
  st_indexSl ho (by rw [E.und hi, ht]) hx hn (E.sz hj) hall h0 h1 hd (by rw [hr]; exact hK)
theorem so_indexOwn {q : Md} [Qt q] {t : TypeId} {x ix : Operand} (ho : o.op = .indexAddr t x ix) {i : TI} (hi : E.ti t = some i) {e : TypeId} (ht : i.desc = .slice e) {j : TI} (hj : E.ti e = some j)
    {l kv sz off m : Nat} (hx : ev E σ x = .own l kv sz off m) {k : IntKind} {n : Int} (hn : ev E σ ix = .d (.v (.int k n))) (hsz : j.size = sz) {e' : TypeId} {es : List (List AV)} (hl : σ.h l = .arr kv e' sz es)
    (hd : dlt o.dst σ.n = true) (h0 : 0 ≤ n) (h1 : n < m) (h2 : off + m ≤ es.length) (hK : K (σ.put o.dst (.pe l kv sz (off + n.toNat) 0))) : Step q E B o K Q σ :=
  st_indexOwn ho (by rw [E.und hi, ht]) hx hn (by rw [E.sz hj, hsz]) hl h0 h1 h2 hd hK
theorem so_indexArr {q : Md} [Qt q] {t : TypeId} {x ix : Operand} (ho : o.op = .indexAddr t x ix) {i : TI} (hi : E.ti t = some i) {len : Nat} {e : TypeId} (ht : i.desc = .array len e) {j : TI} (hj : E.ti e = some j)
    (hlv : (ev E σ x).live σ.h = true) {k : IntKind} {n : Int} (hn : ev E σ ix = .d (.v (.int k n))) {v : AV} (hs : (ev E σ x).shift (n.toNat * j.size) = some v) (hd : dlt o.dst σ.n = true) (h0 : 0 ≤ n) (h1 : n < len)
    (hK : K (σ.put o.dst v)) : Step q E B o K Q σ :=
  st_indexArr ho (by rw [E.und hi, ht]) hlv hn (E.sz hj) h0 h1 hs hd hK
theorem so_indexStr {q : Md} [Qt q] {t : TypeId} {x ix : Operand} (ho : o.op = .index t x ix) {i : TI} (hi : E.ti t = some i) (ht : i.desc = .string) {s : ByteArray} (hx : ev E σ x = .d (.v (.string s)))
    {k : IntKind} {n : Int} (hn : ev E σ ix = .d (.v (.int k n))) (hd : dlt o.dst σ.n = true) (h0 : 0 ≤ n) (h1 : n < s.size) (hK : K (σ.put o.dst (.d (.v (.int .u8 (byteAt s n.toNat)))))) : Step q E B o K Q σ :=
  st_indexStr ho (by rw [E.und hi, ht]) hx hn h0 h1 hd hK
theorem so_lenStr {q : Md} [Qt q] {x : Operand} {t : TypeId} (ho : o.op = .call { callee := .builtin .len, args := #[x], argTypes := #[t] }) {i : TI} (hi : E.ti t = some i) (ht : i.desc = .string) {s : ByteArray} (hx : ev E σ x = .d (.v (.string s)))
    (hd : dlt o.dst σ.n = true) (hK : K (σ.put o.dst (.d (.v (.int .i64 s.size))))) : Step q E B o K Q σ := st_lenStr ho (by rw [E.und hi, ht]) hx hd hK
theorem so_lenSl {q : Md} [Qt q] {x : Operand} {t : TypeId} (ho : o.op = .call { callee := .builtin .len, args := #[x], argTypes := #[t] }) {i : TI} (hi : E.ti t = some i) {e : TypeId} (ht : i.desc = .slice e) {n : Nat} (hn : lenA σ.h (ev E σ x) = some n)
    (hd : dlt o.dst σ.n = true) (hK : K (σ.put o.dst (.d (.v (.int .i64 n))))) : Step q E B o K Q σ := st_lenSl ho (by rw [E.und hi, ht]) hn hd hK
/-- The length of data: no longer than a slice may be. -/
theorem so_lenD {x : Operand} {t : TypeId} (ho : o.op = .call { callee := .builtin .len, args := #[x], argTypes := #[t] }) {i : TI} (hi : E.ti t = some i) {e : TypeId} (ht : i.desc = .slice e) {s : Bool} {es : List (List D)} (hx : ev E σ x = .d (.sl s es))
    (hd : dlt o.dst σ.n = true) (hK : es.length ≤ 9223372036854775807 → K (σ.put o.dst (.d (.v (.int .i64 es.length))))) : Step .all E B o K Q σ := by
  intro g w a hr next hn
  have hb : es.length ≤ 9223372036854775807 := by
    have hx' := ev_ok hr x
    rw [hx] at hx'
    have hd' := vr_data hx'
    generalize a.eval x = ax at hd'
    cases hd' with
    | nil => simp
    | sl _ _ _ _ _ _ _ _ h _ _ => exact h.1
  have hs : Step .all E B o K Q σ := st_lenSl ho (by rw [E.und hi, ht]) (by rw [hx]; rfl) hd (hK hb)
  exact hs g w a hr next hn
theorem so_lenMap {q : Md} [Qt q] {x : Operand} {t : TypeId} (ho : o.op = .call { callee := .builtin .len, args := #[x], argTypes := #[t] }) {i : TI} (hi : E.ti t = some i) {kt et : TypeId} (ht : i.desc = .map kt et) {l : Nat} (hx : ev E σ x = .map l)
    {es : List (Value × AV)} (hl : σ.h l = .map es) (hd : dlt o.dst σ.n = true) (hK : K (σ.put o.dst (.d (.v (.int .i64 es.length))))) : Step q E B o K Q σ := st_lenMap ho (by rw [E.und hi, ht]) hx hl hd hK
theorem so_lenMapD {q : Md} [Qt q] {x : Operand} {t : TypeId} (ho : o.op = .call { callee := .builtin .len, args := #[x], argTypes := #[t] }) {i : TI} (hi : E.ti t = some i) {kt et : TypeId} (ht : i.desc = .map kt et) {es : List (Value × Value)} (hx : ev E σ x = .d (.map es))
    (hd : dlt o.dst σ.n = true) (hK : K (σ.put o.dst (.d (.v (.int .i64 es.length))))) : Step q E B o K Q σ := st_lenMapD ho (by rw [E.und hi, ht]) hx hd hK
theorem so_convInt {q : Md} [Qt q] {s t : TypeId} {x : Operand} (ho : o.op = .convert s t x) {i j : TI} (hi : E.ti s = some i) (hj : E.ti t = some j) {k : IntKind} (ht : j.desc = .int k) {k' : IntKind} {n : Int} (hx : ev E σ x = .d (.v (.int k' n)))
    (hd : dlt o.dst σ.n = true) (hK : K (σ.put o.dst (.d (.v (.int k (k.wrap n)))))) : Step q E B o K Q σ := st_convInt ho (by rw [E.und hi]; rfl) (by rw [E.und hj, ht]) hx hd hK
theorem so_convStr {q : Md} [Qt q] {s t : TypeId} {x : Operand} (ho : o.op = .convert s t x) {i j : TI} (hi : E.ti s = some i) (hj : E.ti t = some j) (hs : i.desc = .string) (ht : j.desc = .string) {b : ByteArray} (hx : ev E σ x = .d (.v (.string b)))
    (hd : dlt o.dst σ.n = true) (hK : K (σ.put o.dst (.d (.v (.string b))))) : Step q E B o K Q σ := st_convStr ho (by rw [E.und hi, hs]) (by rw [E.und hj, ht]) hx hd hK

/-! ### max, min -/
theorem so_max {q : Md} [Qt q] {x y : Operand} {ts : Array TypeId} (ho : o.op = .call { callee := .builtin .max, args := #[x, y], argTypes := ts }) {k k' : IntKind} {a b : Int} (hx : ev E σ x = .d (.v (.int k a))) (hy : ev E σ y = .d (.v (.int k' b)))
    (hk : k = k') (hd : dlt o.dst σ.n = true) (hK : K (σ.put o.dst (.d (.v (.int k (max a b)))))) : Step q E B o K Q σ := by
  subst hk
  refine step_val _ (fun B g w ac hr => ?_) hd hK
  have hx' := ev_ok hr x
  rw [hx] at hx'
  have hy' := ev_ok hr y
  rw [hy] at hy'
  refine ⟨_, ?_, .d _ _ (.v _)⟩
  rw [exec_builtin ho]
  simp only [builtin]
  refine run_v ?_
  have hm : (#[x, y].map ac.eval) = #[.int k a, .int k b] := by simp [vr_int hx', vr_int hy']
  rw [hm]
  simp [Builtin.max_, Builtin.max2]
  split <;> omega
theorem so_min {q : Md} [Qt q] {x y : Operand} {ts : Array TypeId} (ho : o.op = .call { callee := .builtin .min, args := #[x, y], argTypes := ts }) {k k' : IntKind} {a b : Int} (hx : ev E σ x = .d (.v (.int k a))) (hy : ev E σ y = .d (.v (.int k' b)))
    (hk : k = k') (hd : dlt o.dst σ.n = true) (hK : K (σ.put o.dst (.d (.v (.int k (min a b)))))) : Step q E B o K Q σ := by
  subst hk
  refine step_val _ (fun B g w ac hr => ?_) hd hK
  have hx' := ev_ok hr x
  rw [hx] at hx'
  have hy' := ev_ok hr y
  rw [hy] at hy'
  refine ⟨_, ?_, .d _ _ (.v _)⟩
  rw [exec_builtin ho]
  simp only [builtin]
  refine run_v ?_
  have hm : (#[x, y].map ac.eval) = #[.int k a, .int k b] := by simp [vr_int hx', vr_int hy']
  rw [hm]
  simp [Builtin.min_, Builtin.min2]
  split <;> omega
end
end Go.Proofs.YtdcpnpcmgfmenaaGreatDoor.Lg
/-
  Forgetting: a state that tells less. Conditions: none.
-/
set_option linter.unusedSimpArgs false
set_option linter.unusedVariables false
namespace Go.Proofs.YtdcpnpcmgfmenaaGreatDoor.Lg
open Go Go.RowKit

/-- Whoever is told σ may be told σ'. -/
def Wk (E : Env) (B : Base) (σ σ' : St) : Prop := ∀ g w a, Rel E B g σ w a → ∃ g', Rel E B g' σ' w a

mutual
def AV.bnd (n : Nat) : AV → Bool
  | .any | .d _ | .dp _ _ => true
  | .agg cs | .tup cs => AV.bnds n cs
  | .p l _ _ | .pe l _ _ _ _ | .own l _ _ _ _ | .map l => decide (l < n)
  | .fn _ caps => AV.bnds n caps
def AV.bnds (n : Nat) : List AV → Bool
  | [] => true
  | v :: r => v.bnd n && AV.bnds n r
end
theorem bnds_get {n : Nat} : ∀ {cs : List AV}, AV.bnds n cs = true → ∀ (i : Nat) c, cs[i]? = some c → c.bnd n = true
  | v :: r, h, 0, c, hc => by simp [AV.bnds] at h; simp at hc; subst hc; exact h.1
  | v :: r, h, i + 1, c, hc => by simp [AV.bnds] at h; exact bnds_get h.2 i c (by simpa using hc)

theorem VR.bnd {w : World} {g : G} {nx nx' : Nat} {c : AV} {x : Value} (h : VR w g nx c x) : c.bnd nx' = true → VR w g nx' c x := by
  induction h with
  | any x => exact fun _ => .any x
  | d c x h => exact fun _ => .d c x h
  | agg cs xs h1 _ ih => exact fun hb => .agg cs xs h1 fun i c x hc hx => ih i c x hc hx (bnds_get (by simpa [AV.bnd] using hb) i c hc)
  | tup cs xs h1 _ ih => exact fun hb => .tup cs xs h1 fun i c x hc hx => ih i c x hc hx (bnds_get (by simpa [AV.bnd] using hb) i c hc)
  | dp cs off b o f h1 h2 h3 => exact fun _ => .dp cs off b o f h1 h2 h3
  | p l k off x h0 h1 h2 h3 => exact fun hb => .p l k off x h0 (by simpa [AV.bnd] using hb) h2 h3
  | pe l k sz i j x h0 h1 h2 h3 => exact fun hb => .pe l k sz i j x h0 (by simpa [AV.bnd] using hb) h2 h3
  | own l k sz off n x h0 h1 h2 h3 => exact fun hb => .own l k sz off n x h0 (by simpa [AV.bnd] using hb) h2 h3
  | map l x h0 h1 h2 => exact fun hb => .map l x h0 (by simpa [AV.bnd] using hb) h2
  | fn f caps xs h1 _ ih => exact fun hb => .fn f caps xs h1 fun i c x hc hx => ih i c x hc hx (bnds_get (by simpa [AV.bnd] using hb) i c hc)

/-- A value that tells less; only objects below nx' are named. -/
def Le (nx nx' : Nat) (v v' : AV) : Prop := ∀ w g x, (∀ b, g.I b → g.J b) → VR w g nx v x → VR w g nx' v' x
theorem le_any {nx nx' : Nat} (v : AV) : Le nx nx' v .any := fun _ _ _ _ _ => .any _
theorem le_eq {nx nx' : Nat} {v v' : AV} (h : v = v') (hb : v'.bnd nx' = true) : Le nx nx' v v' := fun _ _ _ _ hv => by subst h; exact hv.bnd hb
theorem le_nil {nx nx' : Nat} : Le nx nx' (.d (.v (.slice none 0 0))) (.d (.sl true [])) := fun _ _ _ _ h => by rw [vr_val h]; exact .d _ _ (.nil _ _ _)
def Les (nx nx' : Nat) : List AV → List AV → Prop
  | [], [] => True
  | v :: vs, v' :: vs' => Le nx nx' v v' ∧ Les nx nx' vs vs'
  | _, _ => False
theorem les_get {nx nx' : Nat} : ∀ {cs ds : List AV}, Les nx nx' cs ds → cs.length = ds.length ∧ ∀ (i : Nat) c d, cs[i]? = some c → ds[i]? = some d → Le nx nx' c d := by
  intro cs
  induction cs with
  | nil => intro ds h; cases ds <;> simp_all [Les]
  | cons c cs ih =>
    intro ds h
    cases ds with
    | nil => simp [Les] at h
    | cons d ds =>
      simp only [Les] at h
      obtain ⟨h1, h2⟩ := ih h.2
      refine ⟨by simp [h1], fun i c' d' hc hd => ?_⟩
      cases i with
      | zero => simp at hc hd; subst hc; subst hd; exact h.1
      | succ i => exact h2 i c' d' (by simpa using hc) (by simpa using hd)
theorem le_agg {nx nx' : Nat} {cs ds : List AV} (h : Les nx nx' cs ds) : Le nx nx' (.agg cs) (.agg ds) := fun w g x hIJ hv => by
  obtain ⟨h1, h2⟩ := les_get h
  cases hv with
  | agg _ xs g1 g2 =>
    refine .agg _ _ (by omega) fun i d x hd hx => ?_
    have hi : i < cs.length := by rw [h1]; exact (List.getElem?_eq_some_iff.1 hd).1
    exact h2 i cs[i] d (List.getElem?_eq_getElem hi) hd w g x hIJ (g2 i _ x (List.getElem?_eq_getElem hi) hx)
theorem le_aggd {nx nx' : Nat} {cs : List AV} {ds : List D} (h : Les nx nx' cs (ds.map .d)) : Le nx nx' (.agg cs) (.d (.agg ds)) := fun w g x hIJ hv => by
  obtain ⟨h1, h2⟩ := les_get h
  cases hv with
  | agg _ xs g1 g2 =>
    refine .d _ _ (.agg _ _ (by simp at h1; omega) fun i d x hd hx => ?_)
    have hi : i < cs.length := by rw [h1]; simp; exact (List.getElem?_eq_some_iff.1 hd).1
    exact vr_data (h2 i cs[i] (.d d) (List.getElem?_eq_getElem hi) (by simp [hd]) w g x hIJ (g2 i _ x (List.getElem?_eq_getElem hi) hx))
theorem le_dagg {nx nx' : Nat} {cs ds : List D} (h : Les nx nx' (cs.map .d) (ds.map .d)) : Le nx nx' (.d (.agg cs)) (.d (.agg ds)) := fun w g x hIJ hv => by
  obtain ⟨h1, h2⟩ := les_get h
  have hd := vr_data hv
  cases hd with
  | agg _ xs g1 g2 =>
    refine .d _ _ (.agg _ _ (by simp at h1; omega) fun i d x hd hx => ?_)
    have hi : i < cs.length := by simp at h1; rw [h1]; exact (List.getElem?_eq_some_iff.1 hd).1
    exact vr_data (h2 i (.d cs[i]) (.d d) (by simp [hi]) (by simp [hd]) w g x hIJ (.d _ _ (g2 i _ x (List.getElem?_eq_getElem hi) hx)))

/-- An object that tells less. -/
inductive OLe (nx nx' : Nat) : AO → AO → Prop
  | dead (o : AO) : OLe nx nx' o .dead
  | cells (cs ds : List AV) : Les nx nx' cs ds → OLe nx nx' (.cells cs) (.cells ds)
  | arr (k e sz : Nat) (es fs : List (List AV)) : es = fs → (∀ r ∈ fs, ∀ c ∈ r, c.bnd nx' = true) → OLe nx nx' (.arr k e sz es) (.arr k e sz fs)
  | map (es fs : List (Value × AV)) : es = fs → (∀ p ∈ fs, p.2.bnd nx' = true) → OLe nx nx' (.map es) (.map fs)

theorem OLe.or {nx nx' : Nat} {o o' : AO} (h : OLe nx nx' o o') {w : World} {g : G} {l : Nat} (hIJ : ∀ b, g.I b → g.J b) (ho : OR w g nx l o) : OR w g nx' l o' := by
  cases h with
  | dead => trivial
  | cells cs ds h =>
    obtain ⟨h1, h2⟩ := les_get h
    obtain ⟨g1, g2, xs, t, g3, g4, g5⟩ := ho
    refine ⟨g1, g2, xs, t, g3, by omega, fun i d x hd hx => ?_⟩
    have hi : i < cs.length := by rw [h1]; exact (List.getElem?_eq_some_iff.1 hd).1
    exact h2 i cs[i] d (List.getElem?_eq_getElem hi) hd w g x hIJ (g5 i _ x (List.getElem?_eq_getElem hi) hx)
  | arr k e sz es fs h hb =>
    subst h
    obtain ⟨g1, g2, g3, g4, xs, g5, g6⟩ := ho
    refine ⟨g1, g2, g3, g4, xs, g5, fun i c x hc hx => (g6 i c x hc hx).bnd ?_⟩
    obtain ⟨r, hr, hcr⟩ := List.mem_flatten.1 (List.mem_of_getElem? hc)
    exact hb r hr c hcr
  | map es fs h hb =>
    subst h
    obtain ⟨g1, g2, ms, clock, g3, g4, g5⟩ := ho
    exact ⟨g1, g2, ms, clock, g3, g4, fun i e m he hm => ⟨(g5 i e m he hm).1, (g5 i e m he hm).2.bnd (hb e (List.mem_of_getElem? he))⟩⟩

def TLe (nx nx' : Nat) (t t' : Nat → AV) : Prop := ∀ i, Le nx nx' (t i) (t' i)
theorem tle_any {nx nx' : Nat} (t : Nat → AV) : TLe nx nx' t (fun _ => .any) := fun _ => le_any _
theorem tle_upd {nx nx' : Nat} {t t' : Nat → AV} {d : Nat} {v : AV} (hv : Le nx nx' (t d) v) (h : TLe nx nx' t t') : TLe nx nx' t (upd t' d v) := fun i => by
  simp only [upd]; split
  · rename_i e; subst e; exact hv
  · exact h i
def HLe (nx nx' : Nat) (h h' : Nat → AO) : Prop := ∀ l, OLe nx nx' (h l) (h' l)
theorem hle_dead {nx nx' : Nat} (h : Nat → AO) : HLe nx nx' h (fun _ => .dead) := fun _ => .dead _
theorem hle_upd {nx nx' : Nat} {h h' : Nat → AO} {l : Nat} {o : AO} (hv : OLe nx nx' (h l) o) (hh : HLe nx nx' h h') : HLe nx nx' h (upd h' l o) := fun i => by
  simp only [upd]; split
  · rename_i e; subst e; exact hv
  · exact hh i

section
variable {E : Env} {B : Base} {Q : Exit → St → Prop} {σ σ' : St}

theorem wk_of (hn : σ'.n = σ.n) (hx : σ'.nx ≤ σ.nx) (hb : B.nx ≤ σ'.nx) (ht : TLe σ.nx σ'.nx σ.t σ'.t) (hh : HLe σ.nx σ'.nx σ.h σ'.h) (hd : ∀ l, σ'.nx ≤ l → σ'.h l = .dead) : Wk E B σ σ' := by
  intro g w a hr
  have hdd : ∀ l, σ'.h l ≠ .dead → σ.h l ≠ .dead := fun l h e => by
    have := hh l
    rw [e] at this
    generalize σ'.h l = o at this h
    cases this
    exact h rfl
  have hown : ∀ b, Owned g σ'.nx σ'.h b → Owned g σ.nx σ.h b := fun b ⟨l, hl, hd, hv, hb⟩ => ⟨l, by omega, hdd l hd, hv, hb⟩
  refine ⟨g, by rw [hr.size, hn], fun i => ht i w g _ hr.hr.IJ (hr.tm i), ⟨fun l hl => (hh l).or hr.hr.IJ (hr.hr.hp l (by omega)), hd,
    fun l l' hl hl' h1 h2 h3 h4 h5 => hr.hr.inj l l' (by omega) (by omega) (hdd l h1) (hdd l' h2) h3 h4 h5, hr.hr.Jlt, hr.hr.IJ, fun b hb ho => hr.hr.dis b hb (hown b ho), hr.hr.gl⟩, ?_, hr.df⟩
  have hx := hr.ext
  exact ⟨hx.os, hx.tape, hx.output, hx.size, hx.block, hx.gle, hb, hx.inew, fun b hb => hx.own b (hown b hb)⟩

theorem wk_refl (σ : St) : Wk E B σ σ := fun g w a h => ⟨g, h⟩
theorem wk_trans {σ'' : St} (h : Wk E B σ σ') (h' : Wk E B σ' σ'') : Wk E B σ σ'' := fun g w a hr => by
  obtain ⟨g', hr'⟩ := h g w a hr
  exact h' g' w a hr'
theorem swp_wk {c : Code} (h : Wk E B σ σ') (hs : SWP E B c Q σ') : SWP E B c Q σ := fun g w a hr => by
  obtain ⟨g', hr'⟩ := h g w a hr
  exact hs g' w a hr'
theorem sops_wk {ops : Array Oper} {l : List Oper} (h : Wk E B σ σ') (hs : SOps E B ops l Q σ') : SOps E B ops l Q σ := fun g w a hr => by
  obtain ⟨g', hr'⟩ := h g w a hr
  exact hs g' w a hr'
/-- A nil slice in a temporary is a growing row of ours from now on. -/
theorem wk_virt (d e sz : Nat) (hd : σ.t d = .d (.v (.slice none 0 0))) :
    Wk E B σ { σ with t := upd σ.t d (.own σ.nx 0 sz 0 0), h := upd σ.h σ.nx (.arr 0 e sz []), nx := σ.nx + 1 } := fun g w a hr => by
  obtain ⟨h1, h2⟩ := rel_virt hr e sz
  refine ⟨_, h1.size, fun i => ?_, h1.hr, h1.ext, h1.df⟩
  simp only [upd]
  split
  · rename_i hi
    subst hi
    have := hr.tm i
    rw [hd] at this
    rw [vr_val this]; exact h2
  · exact h1.tm i

/-- A loop whose head is told by a family of states. -/
theorem swp_loopF {c : Code} {ι : Type} (F : ι → St) (P : ι → Prop) (μ : ι → Nat) (i : ι) (hP : P i) (h0 : Wk E B σ (F i))
    (round : ∀ i, P i → SWP E B c (after (fun σ' => ∃ j, P j ∧ μ j < μ i ∧ Wk E B σ' (F j)) Q) (F i)) : SWP E B (.loop c) Q σ := by
  refine swp_loop (fun n σ => ∃ i, P i ∧ μ i = n ∧ Wk E B σ (F i)) (μ i) ⟨i, hP, rfl, h0⟩ ?_
  rintro n σ ⟨i, hPi, rfl, hw⟩
  refine swp_wk hw ((round i hPi).mono ?_)
  intro e σ' h
  cases e with
  | normal => obtain ⟨j, hj, hm, hw'⟩ := h; exact ⟨μ j, hm, j, hj, rfl, hw'⟩
  | _ => exact h
end

theorem int_eq {k : IntKind} {a b : Int} (h : a = b) : AV.d (.v (.int k a)) = AV.d (.v (.int k b)) := by rw [h]
theorem i64_in {x : Int} (h0 : -9223372036854775808 ≤ x) (h1 : x ≤ 9223372036854775807) : IntKind.i64.wrap x = x := IntWalk.i64_in x (by constructor <;> omega)
end Go.Proofs.YtdcpnpcmgfmenaaGreatDoor.Lg
/-
  Regions that draw: what runs in any order. Conditions: none.
-/
set_option linter.unusedSimpArgs false
set_option linter.unusedVariables false
namespace Go.Proofs.YtdcpnpcmgfmenaaGreatDoor.Lg
open Go Go.RowKit

def has : List Nat → Nat → Bool
  | [], _ => false
  | x :: r, d => bif Nat.beq x d then true else has r d
theorem has_iff : ∀ {l : List Nat} {d : Nat}, has l d = true ↔ d ∈ l
  | [], d => by simp [has]
  | x :: r, d => by
    simp only [has, List.mem_cons]
    by_cases h : x = d
    · subst h; simp
    · have h1 : Nat.beq x d = false := by
        cases hb : Nat.beq x d with
        | false => rfl
        | true => exact absurd (Nat.eq_of_beq_eq_true hb) h
      rw [h1, cond_false, has_iff (l := r)]
      constructor
      · exact .inr
      · rintro (h2 | h2)
        · exact absurd h2.symm h
        · exact h2

/-- What an operation waits for. -/
def waits (o : Oper) : List Nat := (o.after.toList.filter (Region.binds .any)).map (·.on)
def waitDst (ops : Array Oper) (o : Oper) : List Nat := (waits o).filterMap fun j => (ops[j]?).bind (·.dst)
def lev (lv : List Nat) (o : Oper) : Nat := (waits o).foldl (fun m j => max m (lv.getD j 0)) 0
def cut (n : Nat) (h : Nat → AO) : Nat → AO := fun l => bif Nat.blt l n then h l else .dead

/-- What an operation may look at, whatever ran ahead of it. -/
def sight (ops : Array Oper) (wr : List Nat) (σ : St) (lv : List Nat) (td : Nat → AV) (hc : Nat → AO) (o : Oper) : St :=
  { t := fun d => bif has wr d then (bif has (waitDst ops o) d then td d else .any) else σ.t d, n := σ.n, h := cut (σ.nx + lev lv o) hc, nx := σ.nx + lev lv o }

def pput (td : Nat → AV) (dst : Option Nat) (v : AV) : Nat → AV :=
  match dst with
  | some d => upd td d v
  | none => td

/-- An object that nobody in the head looks at: it is told behind the head. -/
def SideOp (E : Env) (dS : Option Nat) (o : Oper) : Prop := o.guard = none ∧ ∃ t z d, o.op = .alloc t ∧ (E.P.info? t).bind (·.zero) = some z ∧ o.dst = some d ∧ dS = some d
def notS : Option Nat → Option Nat → Bool
  | some d, some d' => !(Nat.beq d d')
  | _, _ => true
theorem notS_side {E : Env} {dS : Option Nat} {o : Oper} (h : notS dS o.dst = true) (hs : SideOp E dS o) : False := by
  obtain ⟨_, _, _, d, _, _, h1, h2⟩ := hs
  rw [h1, h2] at h
  simp [notS] at h

def HOps (dS : Option Nat) (E : Env) (B : Base) (Q : Exit → St → Prop) (ops : Array Oper) (wr : List Nat) (σ : St) (K : (Nat → AV) → (Nat → AO) → Nat → Prop) : List Oper → List Nat → (Nat → AV) → (Nat → AO) → Nat → Prop
  | [], _, td, hc, m => K td hc m
  | o :: l, lv, td, hc, m =>
    (notS dS o.dst = true ∧ runs ops o (sight ops wr σ lv td hc o) false ∧ dlt o.dst σ.n = true ∧ HOps dS E B Q ops wr σ K l (lv ++ [lev lv o]) (pput td o.dst un) hc m) ∨
    (notS dS o.dst = true ∧ runs ops o (sight ops wr σ lv td hc o) true ∧ ∃ v, QStep E o (sight ops wr σ lv td hc o) v ∧ dlt o.dst σ.n = true ∧ HOps dS E B Q ops wr σ K l (lv ++ [lev lv o]) (pput td o.dst v) hc m) ∨
    (notS dS o.dst = true ∧ runs ops o (sight ops wr σ lv td hc o) true ∧ lev lv o = m ∧ ∃ v ob, AStep E o (sight ops wr σ lv td hc o) v ob ∧ ob ≠ .dead ∧ dlt o.dst σ.n = true ∧
      HOps dS E B Q ops wr σ K l (lv ++ [m + 1]) (pput td o.dst v) (upd hc (σ.nx + m) ob) (m + 1)) ∨
    (SideOp E dS o ∧ dlt o.dst σ.n = true ∧ HOps dS E B Q ops wr σ K l (lv ++ [lev lv o]) (pput td o.dst .any) hc m)

/-- What is known of an operation of the head, when all is known. -/
structure Fact (dS : Option Nat) (E : Env) (ops : Array Oper) (wr : List Nat) (σ : St) (tdF : Nat → AV) (hcF : Nat → AO) (lvF : List Nat) (mF : Nat) (i : Nat) (o : Oper) : Prop where
  d : dlt o.dst σ.n = true
  lm : lvF.getD i 0 ≤ mF
  way : (notS dS o.dst = true ∧ runs ops o (sight ops wr σ lvF tdF hcF o) false ∧ lvF.getD i 0 = lev lvF o ∧ ∀ d, o.dst = some d → tdF d = un) ∨
    (notS dS o.dst = true ∧ runs ops o (sight ops wr σ lvF tdF hcF o) true ∧ lvF.getD i 0 = lev lvF o ∧ ∃ v, QStep E o (sight ops wr σ lvF tdF hcF o) v ∧ ∀ d, o.dst = some d → tdF d = v) ∨
    (notS dS o.dst = true ∧ runs ops o (sight ops wr σ lvF tdF hcF o) true ∧ lvF.getD i 0 = lev lvF o + 1 ∧ (∀ j, j < i → lvF.getD j 0 ≤ lev lvF o) ∧
      ∃ v, AStep E o (sight ops wr σ lvF tdF hcF o) v (hcF (σ.nx + lev lvF o)) ∧ hcF (σ.nx + lev lvF o) ≠ .dead ∧ ∀ d, o.dst = some d → tdF d = v) ∨
    (SideOp E dS o ∧ lvF.getD i 0 = lev lvF o ∧ ∀ d, o.dst = some d → tdF d = .any)

theorem lev_foldl (f g : Nat → Nat) : ∀ (ws : List Nat) (m : Nat), (∀ j ∈ ws, f j = g j) → ws.foldl (fun m j => max m (f j)) m = ws.foldl (fun m j => max m (g j)) m
  | [], _, _ => rfl
  | w :: ws, m, h => by simp only [List.foldl_cons]; rw [h w (by simp)]; exact lev_foldl f g ws _ (fun j hj => h j (by simp [hj]))
theorem lev_le (f : Nat → Nat) (n : Nat) : ∀ (ws : List Nat) (m : Nat), m ≤ n → (∀ j ∈ ws, f j ≤ n) → ws.foldl (fun m j => max m (f j)) m ≤ n
  | [], _, h, _ => h
  | w :: ws, m, h, hw => by simp only [List.foldl_cons]; exact lev_le f n ws _ (by have := hw w (by simp); omega) (fun j hj => hw j (by simp [hj]))

section
variable {dS : Option Nat} {E : Env} {B : Base} {Q : Exit → St → Prop} {σ : St} {ops : Array Oper} {wr : List Nat}

theorem hops_facts {K : (Nat → AV) → (Nat → AO) → Nat → Prop} (hw : ∀ (i : Nat) (o : Oper), ops[i]? = some o → ∀ j ∈ waits o, j < i)
    (hdis : ∀ (i j : Nat) (o o' : Oper) (d : Nat), i < j → ops[i]? = some o → ops[j]? = some o' → o.dst = some d → o'.dst = some d → False) :
    ∀ (l : List Oper) (i : Nat) (lv : List Nat) (td : Nat → AV) (hc : Nat → AO) (m : Nat), (∀ k, k < l.length → l[k]? = ops[i + k]?) → lv.length = i → (∀ j, lv.getD j 0 ≤ m) → (∀ x, σ.nx + m ≤ x → hc x = .dead) →
    HOps dS E B Q ops wr σ K l lv td hc m → ∃ tdF hcF mF lvF, K tdF hcF mF ∧ m ≤ mF ∧ (∀ x, σ.nx + mF ≤ x → hcF x = .dead) ∧ (∀ α, m ≤ α → α < mF → ∃ k o, k < l.length ∧ ops[i + k]? = some o ∧ lvF.getD (i + k) 0 = lev lvF o + 1 ∧ lev lvF o = α) ∧ (∀ j, j < i → lvF.getD j 0 = lv.getD j 0) ∧
      (∀ d, (∀ k o, k < l.length → ops[i + k]? = some o → o.dst ≠ some d) → tdF d = td d) ∧ (∀ x, x < σ.nx + m → hcF x = hc x) ∧
      (∀ k o, k < l.length → ops[i + k]? = some o → Fact dS E ops wr σ tdF hcF lvF mF (i + k) o)
  | [], i, lv, td, hc, m, _, _, _, hz, h => ⟨td, hc, m, lv, h, Nat.le_refl _, hz, fun α _ _ => by omega, fun _ _ => rfl, fun _ _ => rfl, fun _ _ => rfl, fun k o hk => by simp at hk⟩
  | o :: l, i, lv, td, hc, m, hl, hlv, hm, hz, h => by
    have h0 : ops[i]? = some o := by simpa using (hl 0 (by simp)).symm
    have hl' : ∀ k, k < l.length → l[k]? = ops[i + 1 + k]? := fun k hk => by
      have := hl (k + 1) (by simp; omega)
      rw [show i + 1 + k = i + (k + 1) by omega]; simpa using this
    have hlev : lev lv o ≤ m := lev_le _ _ _ _ (Nat.zero_le _) fun j _ => hm j
    -- what is told of the place and the levels stands to the end
    have keep : ∀ (x : Nat) (tdF : Nat → AV) (hcF : Nat → AO) (mF : Nat) (lvF : List Nat) (td' : Nat → AV) (hc' : Nat → AO), 
        (∀ j, j < i + 1 → lvF.getD j 0 = (lv ++ [x]).getD j 0) → (∀ d, (∀ k o, k < l.length → ops[i + 1 + k]? = some o → o.dst ≠ some d) → tdF d = td' d) → (∀ d, o.dst ≠ some d → td' d = td d) →
        (∀ y, y < σ.nx + m → hcF y = hc' y) → (∀ y, y < σ.nx + m → hc' y = hc y) →
        lev lvF o = lev lv o ∧ sight ops wr σ lvF tdF hcF o = sight ops wr σ lv td hc o ∧ lvF.getD i 0 = x ∧ (∀ j, j < i → lvF.getD j 0 = lv.getD j 0) ∧ (∀ d, o.dst = some d → tdF d = td' d) ∧
          (∀ d, (∀ k o', k < (o :: l).length → ops[i + k]? = some o' → o'.dst ≠ some d) → tdF d = td d) := by
      intro x tdF hcF mF lvF td' hc' h1 h2 h3 h4 h5
      have hold : ∀ j, j < i → lvF.getD j 0 = lv.getD j 0 := fun j hj => by
        rw [h1 j (by omega)]
        simp [List.getD, List.getElem?_append_left (show j < lv.length by omega)]
      have hle : lev lvF o = lev lv o := lev_foldl _ _ _ _ fun j hj => hold j (hw i o h0 j hj)
      have hown : ∀ d, o.dst = some d → tdF d = td' d := fun d hd => h2 d fun k o' hk ho' he => hdis i (i + 1 + k) o o' d (by omega) h0 ho' hd he
      have hout : ∀ d, (∀ k o', k < (o :: l).length → ops[i + k]? = some o' → o'.dst ≠ some d) → tdF d = td d := fun d hd => by
        rw [h2 d (fun k o' hk ho' => hd (k + 1) o' (by simp; omega) (by rw [show i + (k + 1) = i + 1 + k by omega]; exact ho')), h3 d (hd 0 o (by simp) (by simpa using h0))]
      refine ⟨hle, ?_, ?_, hold, hown, hout⟩
      · unfold sight
        rw [hle]
        congr 1
        · funext d
          cases ha : has wr d with
          | false => rfl
          | true =>
            cases hb : has (waitDst ops o) d with
            | false => rfl
            | true =>
              simp only [cond_true]
              obtain ⟨j, hj, hd⟩ := List.mem_filterMap.1 (has_iff.1 hb)
              obtain ⟨oj, hoj, hd⟩ := Option.bind_eq_some_iff.1 hd
              have hji := hw i o h0 j hj
              exact hout d fun k o' hk ho' he => hdis j (i + k) oj o' d (by omega) hoj ho' hd he
        · funext y
          unfold cut
          cases hb : Nat.blt y (σ.nx + lev lv o) with
          | false => rfl
          | true =>
            have : y < σ.nx + lev lv o := Nat.le_of_ble_eq_true hb
            simp only [cond_true]
            rw [h4 y (by omega), h5 y (by omega)]
      · rw [h1 i (by omega)]; simp [List.getD, ← hlv]
    have split : ∀ (tdF : Nat → AV) (hcF : Nat → AO) (mF : Nat) (lvF : List Nat), Fact dS E ops wr σ tdF hcF lvF mF i o → (∀ k o, k < l.length → ops[i + 1 + k]? = some o → Fact dS E ops wr σ tdF hcF lvF mF (i + 1 + k) o) →
        ∀ k o', k < (o :: l).length → ops[i + k]? = some o' → Fact dS E ops wr σ tdF hcF lvF mF (i + k) o' := by
      intro tdF hcF mF lvF f1 f2 k o' hk ho'
      cases k with
      | zero =>
        have : o' = o := by rw [Nat.add_zero, h0] at ho'; exact (Option.some.inj ho').symm
        subst this; exact f1
      | succ k =>
        have := f2 k o' (by simp at hk; omega) (by rw [show i + 1 + k = i + (k + 1) by omega]; exact ho')
        rw [show i + (k + 1) = i + 1 + k by omega]; exact this
    have later : ∀ (lvF : List Nat) (mF : Nat), (∀ α, m ≤ α → α < mF → ∃ k o, k < l.length ∧ ops[i + 1 + k]? = some o ∧ lvF.getD (i + 1 + k) 0 = lev lvF o + 1 ∧ lev lvF o = α) →
        ∀ α, m ≤ α → α < mF → ∃ k o', k < (o :: l).length ∧ ops[i + k]? = some o' ∧ lvF.getD (i + k) 0 = lev lvF o' + 1 ∧ lev lvF o' = α := by
      intro lvF mF h α h1 h2
      obtain ⟨k, o', g1, g2, g3, g4⟩ := h α h1 h2
      exact ⟨k + 1, o', by simp; omega, by rw [show i + (k + 1) = i + 1 + k by omega]; exact g2, by rw [show i + (k + 1) = i + 1 + k by omega]; exact g3, g4⟩
    have pputs : ∀ v d, o.dst ≠ some d → pput td o.dst v d = td d := fun v d hd => by
      cases ho : o.dst with
      | none => rfl
      | some d' => exact upd_ne _ _ _ (fun e => hd (by rw [ho, e]))
    have pputs' : ∀ v d, o.dst = some d → pput td o.dst v d = v := fun v d hd => by simp only [pput, hd, upd_same]
    have lens : ∀ x, (lv ++ [x]).length = i + 1 := fun x => by simp [hlv]
    have bnd : ∀ x m', x ≤ m' → m ≤ m' → ∀ j, (lv ++ [x]).getD j 0 ≤ m' := fun x m' hx hmm j => by
      rcases Nat.lt_trichotomy j lv.length with hj | hj | hj
      · have := hm j; simp [List.getD, List.getElem?_append_left hj] at this ⊢; omega
      · subst hj; simp [List.getD, hx]
      · rw [List.getD, List.getElem?_eq_none (by simp; omega)]; simp
    rcases h with ⟨hns, hr, hd, h⟩ | ⟨hns, hr, v, hq, hd, h⟩ | ⟨hns, hr, hlm, v, ob, ha, hne, hd, h⟩ | ⟨hsd, hd, h⟩
    · obtain ⟨tdF, hcF, mF, lvF, e1, e2, e7, e8, e3, e4, e5, e6⟩ := hops_facts hw hdis l (i + 1) _ _ _ _ hl' (lens _) (bnd _ _ hlev (Nat.le_refl _)) hz h
      obtain ⟨k1, k2, k3, k4, k5, k6⟩ := keep _ tdF hcF mF lvF _ _ e3 e4 (pputs _) e5 (fun _ _ => rfl)
      exact ⟨tdF, hcF, mF, lvF, e1, e2, e7, later _ _ e8, k4, k6, e5, split _ _ _ _ ⟨hd, by omega, .inl ⟨hns, by rw [k2]; exact hr, by rw [k1]; exact k3, fun d hd => by rw [k5 d hd, pputs' _ d hd]⟩⟩ e6⟩
    · obtain ⟨tdF, hcF, mF, lvF, e1, e2, e7, e8, e3, e4, e5, e6⟩ := hops_facts hw hdis l (i + 1) _ _ _ _ hl' (lens _) (bnd _ _ hlev (Nat.le_refl _)) hz h
      obtain ⟨k1, k2, k3, k4, k5, k6⟩ := keep _ tdF hcF mF lvF _ _ e3 e4 (pputs _) e5 (fun _ _ => rfl)
      exact ⟨tdF, hcF, mF, lvF, e1, e2, e7, later _ _ e8, k4, k6, e5, split _ _ _ _ ⟨hd, by omega, .inr (.inl ⟨hns, by rw [k2]; exact hr, by rw [k1]; exact k3, v, by rw [k2]; exact hq, fun d hd => by rw [k5 d hd, pputs' _ d hd]⟩)⟩ e6⟩
    · obtain ⟨tdF, hcF, mF, lvF, e1, e2, e7, e8, e3, e4, e5, e6⟩ := hops_facts hw hdis l (i + 1) _ _ _ _ hl' (lens _) (bnd _ _ (Nat.le_refl _) (by omega)) (fun x hx => by rw [upd_ne _ _ _ (by omega)]; exact hz x (by omega)) h
      obtain ⟨k1, k2, k3, k4, k5, k6⟩ := keep _ tdF hcF mF lvF _ _ e3 e4 (pputs _) (fun y hy => e5 y (by omega)) (fun y hy => upd_ne _ _ _ (by omega))
      have hob : hcF (σ.nx + m) = ob := by rw [e5 _ (by omega), upd_same]
      refine ⟨tdF, hcF, mF, lvF, e1, by omega, e7, fun α h1 h2 => ?_, k4, k6, fun y hy => by rw [e5 y (by omega)]; exact upd_ne _ _ _ (by omega), split _ _ _ _ ⟨hd, by omega, .inr (.inr (.inl ⟨hns, by rw [k2]; exact hr, by rw [k1, hlm]; exact k3, fun j hj => ?_, v, ?_, ?_, fun d hd => by rw [k5 d hd, pputs' _ d hd]⟩))⟩ e6⟩
      · by_cases h3 : α = m
        · exact ⟨0, o, by simp, by simpa using h0, by rw [Nat.add_zero, k1, hlm]; exact k3, by rw [k1, hlm, h3]⟩
        · obtain ⟨k, o', g1, g2, g3, g4⟩ := e8 α (by omega) h2
          exact ⟨k + 1, o', by simp; omega, by rw [show i + (k + 1) = i + 1 + k by omega]; exact g2, by rw [show i + (k + 1) = i + 1 + k by omega]; exact g3, g4⟩
      · rw [k4 j hj, k1, hlm]; exact hm j
      · rw [k1, k2, hlm, hob]; exact ha
      · rw [k1, hlm, hob]; exact hne
    · obtain ⟨tdF, hcF, mF, lvF, e1, e2, e7, e8, e3, e4, e5, e6⟩ := hops_facts hw hdis l (i + 1) _ _ _ _ hl' (lens _) (bnd _ _ hlev (Nat.le_refl _)) hz h
      obtain ⟨k1, k2, k3, k4, k5, k6⟩ := keep _ tdF hcF mF lvF _ _ e3 e4 (pputs _) e5 (fun _ _ => rfl)
      exact ⟨tdF, hcF, mF, lvF, e1, e2, e7, later _ _ e8, k4, k6, e5, split _ _ _ _ ⟨hd, by omega, .inr (.inr (.inr ⟨hsd, by rw [k1]; exact k3, fun d hd => by rw [k5 d hd, pputs' _ d hd]⟩))⟩ e6⟩

/-! ### The head's operations, in whatever order -/
def headDst (ops : Array Oper) (n : Nat) : List Nat := (List.range n).filterMap fun i => (ops[i]?).bind (·.dst)
def doneDst (ops : Array Oper) (n : Nat) (listed : Array Bool) : List Nat := (List.range n).filterMap fun i => bif listed.getD i false then (ops[i]?).bind (·.dst) else none

/-- The state, behind those that are listed. -/
def mid (ops : Array Oper) (n : Nat) (σ : St) (tdF : Nat → AV) (hcF : Nat → AO) (listed : Array Bool) (k : Nat) : St :=
  { t := fun d => bif has (headDst ops n) d then (bif has (doneDst ops n listed) d then tdF d else .any) else σ.t d, n := σ.n, h := cut (σ.nx + k) hcF, nx := σ.nx + k }

theorem GLe.down {g g' : G} {nx nx' : Nat} (h : GLe g nx g') (hn : nx' ≤ nx) : GLe g nx' g' := ⟨h.I, h.J, fun l hl => h.κ l (by omega), fun l hl => h.same l (by omega)⟩
theorem gle_ext (g : G) (nx : Nat) (w w' : World) : GLe g nx (g.ext w w') := ⟨fun _ h => Or.inl h, fun _ h => Or.inl h, fun _ _ => Nat.le_refl _, fun _ _ _ => ⟨rfl, rfl, rfl⟩⟩

theorem cut_if (n : Nat) (h : Nat → AO) (l : Nat) : cut n h l = if l < n then h l else .dead := by
  unfold cut
  cases h1 : Nat.blt l n with
  | false =>
    have : ¬ l < n := fun h => by have := Nat.ble_eq_true_of_le (show l + 1 ≤ n from h); unfold Nat.blt at h1; rw [this] at h1; cases h1
    rw [if_neg this]; rfl
  | true =>
    have : l < n := Nat.le_of_ble_eq_true h1
    rw [if_pos this]; rfl

/-- Where a side object lies. -/
def SideAt (E : Env) (B : Base) (o : Oper) (a : Act) (w : World) (g : G) (nx : Nat) (h : Nat → AO) : Prop :=
  ∃ d b t z, o.op = .alloc t ∧ (E.P.info? t).bind (·.zero) = some z ∧ o.dst = some d ∧ a.tmps.getD d undef = .pointer (some ⟨b, 0, none⟩) ∧ w.heap[b]? = some (.cells z.cells t (0, 0)) ∧ ¬ g.J b ∧ ¬ Owned g nx h b ∧ B.w.heap.size ≤ b

/-- What stands when some of the head have run. -/
structure MInv (dS : Option Nat) (E : Env) (B : Base) (ops : Array Oper) (n : Nat) (σ : St) (tdF : Nat → AV) (hcF : Nat → AO) (lvF : List Nat) (mF : Nat) (listed : Array Bool) (a : Act) (w : World) (g : G) (k : Nat) : Prop where
  kle : k ≤ mF
  made : ∀ i o, i < n → ops[i]? = some o → lvF.getD i 0 = lev lvF o + 1 → (listed.getD i false = true ↔ lev lvF o < k)
  lv : ∀ i, i < n → listed.getD i false = true → lvF.getD i 0 ≤ k
  rel : Rel E B g (mid ops n σ tdF hcF listed k) w a
  told : ∀ d, has (headDst ops n) d = false → VR w g σ.nx (σ.t d) (a.tmps.getD d undef)
  tnew : ∀ i o d, i < n → listed.getD i false = true → ops[i]? = some o → o.dst = some d → VR w g (σ.nx + lvF.getD i 0) (tdF d) (a.tmps.getD d undef)
  hold : ∀ l, l < σ.nx → OR w g σ.nx l (hcF l)
  hnew : ∀ α, α < k → OR w g (σ.nx + α + 1) (σ.nx + α) (hcF (σ.nx + α))
  side : ∀ i o, i < n → listed.getD i false = true → ops[i]? = some o → SideOp E dS o → SideAt E B o a w g (σ.nx + k) (cut (σ.nx + k) hcF)

theorem OR.up {w : World} {g : G} {nx nx' l : Nat} {o : AO} (hl : l < nx) (hn : nx ≤ nx') (h : OR w g nx l o) : OR w g nx' l o :=
  h.mono (GLe.refl g nx) hn (fun _ _ => rfl) hl rfl (fun _ _ => rfl)

/-- A state with fewer places and objects. -/
theorem rel_cut {σ σ' : St} {g : G} {w : World} {a : Act} (hr : Rel E B g σ w a) (hn : σ'.n = σ.n) (hx : σ'.nx ≤ σ.nx) (hb : B.nx ≤ σ'.nx) (hh : ∀ l, l < σ'.nx → σ'.h l = σ.h l) (hd' : ∀ l, σ'.nx ≤ l → σ'.h l = .dead)
    (hbt : ∀ d, VR w g σ'.nx (σ'.t d) (a.tmps.getD d undef)) (hbh : ∀ l, l < σ'.nx → OR w g σ'.nx l (σ.h l)) : Rel E B g σ' w a := by
  have hdd : ∀ l, l < σ'.nx → σ'.h l ≠ .dead → σ.h l ≠ .dead := fun l hl h => by rw [← hh l hl]; exact h
  have hown : ∀ b, Owned g σ'.nx σ'.h b → Owned g σ.nx σ.h b := fun b ⟨l, hl, hd, hv, hb⟩ => ⟨l, by omega, hdd l hl hd, hv, hb⟩
  refine ⟨by rw [hr.size, hn], hbt, ⟨fun l hl => ?_, hd',
    fun l l' hl hl' h1 h2 h3 h4 h5 => hr.hr.inj l l' (by omega) (by omega) (hdd l hl h1) (hdd l' hl' h2) h3 h4 h5, hr.hr.Jlt, hr.hr.IJ, fun b hb ho => hr.hr.dis b hb (hown b ho), hr.hr.gl⟩, ?_, hr.df⟩
  · rw [hh l hl]; exact hbh l hl
  · have hx := hr.ext
    exact ⟨hx.os, hx.tape, hx.output, hx.size, hx.block, hx.gle, hb, hx.inew, fun b hb => hx.own b (hown b hb)⟩

theorem le_foldl (f : Nat → Nat) : ∀ (ws : List Nat) (m : Nat), m ≤ ws.foldl (fun m j => max m (f j)) m ∧ ∀ j ∈ ws, f j ≤ ws.foldl (fun m j => max m (f j)) m
  | [], m => ⟨Nat.le_refl _, fun _ h => by cases h⟩
  | x :: ws, m => by
    simp only [List.foldl_cons]
    obtain ⟨h1, h2⟩ := le_foldl f ws (max m (f x))
    refine ⟨by omega, fun j hj => ?_⟩
    rcases List.mem_cons.1 hj with rfl | hj
    · omega
    · exact h2 j hj

theorem rel_sight {n : Nat} {tdF : Nat → AV} {hcF : Nat → AO} {lvF : List Nat} {mF : Nat} {listed : Array Bool} {a : Act} {w : World} {g : G} {k : Nat} (inv : MInv dS E B ops n σ tdF hcF lvF mF listed a w g k) (hB : B.nx ≤ σ.nx)
    {i : Nat} {o : Oper} (hin : i < n) (hw : ∀ j ∈ waits o, j < i) (hall : ∀ j ∈ waits o, listed.getD j false = true) :
    lev lvF o ≤ k ∧ Rel E B g (sight ops (headDst ops n) σ lvF tdF hcF o) w a := by
  have hlev : lev lvF o ≤ k := lev_le _ _ _ _ (Nat.zero_le _) fun j hj => inv.lv j (by have := hw j hj; omega) (hall j hj)
  refine ⟨hlev, rel_cut inv.rel rfl (by simp [sight, mid]; omega) (by simp [sight]; omega) (fun l hl => ?_) (fun l hl => ?_) (fun d => ?_) (fun l hl => ?_)⟩
  · simp only [sight, mid, cut_if] at hl ⊢
    rw [if_pos hl, if_pos (by omega)]
  · simp only [sight, cut_if] at hl ⊢
    rw [if_neg (by omega)]
  · simp only [sight]
    cases ha : has (headDst ops n) d with
    | false => exact (inv.told d ha).mono (GLe.refl g _) (by omega) (fun _ _ => rfl)
    | true =>
      cases hb : has (waitDst ops o) d with
      | false => exact .any _
      | true =>
        simp only [cond_true]
        obtain ⟨j, hj, hd⟩ := List.mem_filterMap.1 (has_iff.1 hb)
        obtain ⟨oj, hoj, hd⟩ := Option.bind_eq_some_iff.1 hd
        refine (inv.tnew j oj d (by have := hw j hj; omega) (hall j hj) hoj hd).mono (GLe.refl g _) ?_ (fun _ _ => rfl)
        have := (le_foldl (fun j => lvF.getD j 0) (waits o) 0).2 j hj
        unfold lev; omega
  · simp only [sight, mid, cut_if] at hl ⊢
    rw [if_pos (by omega)]
    by_cases h : l < σ.nx
    · exact (inv.hold l h).up h (by omega)
    · have := inv.hnew (l - σ.nx) (by omega)
      rw [show σ.nx + (l - σ.nx) = l by omega] at this
      exact this.up (by omega) (by omega)

theorem done_set {n i : Nat} {o : Oper} {listed : Array Bool} (ho : ops[i]? = some o) (hin : i < n) (hs : i < listed.size) (d : Nat) :
    has (doneDst ops n (listed.setIfInBounds i true)) d = (has (doneDst ops n listed) d || decide (o.dst = some d)) := by
  rw [Bool.eq_iff_iff, has_iff, Bool.or_eq_true, has_iff, decide_eq_true_eq]
  simp only [doneDst, List.mem_filterMap, List.mem_range]
  constructor
  · rintro ⟨j, hj, h⟩
    by_cases e : j = i
    · subst e
      have : (listed.setIfInBounds j true).getD j false = true := by simp [hs]
      rw [this, cond_true, ho] at h; exact .inr h
    · rw [getD_set_ne false (Ne.symm e)] at h; exact .inl ⟨j, hj, h⟩
  · rintro (⟨j, hj, h⟩ | h)
    · cases hl : listed.getD j false with
      | false => rw [hl] at h; cases h
      | true => exact ⟨j, hj, by rw [getD_set_true hl]; rw [hl] at h; exact h⟩
    · refine ⟨i, hin, ?_⟩
      have : (listed.setIfInBounds i true).getD i false = true := by simp [hs]
      rw [this, cond_true, ho]; exact h

theorem set_iff {listed : Array Bool} {i j : Nat} (hs : i < listed.size) : (listed.setIfInBounds i true).getD j false = true ↔ (j = i ∨ listed.getD j false = true) := by
  by_cases e : j = i
  · subst e; simp [hs]
  · rw [getD_set_ne false (Ne.symm e)]; simp [e]

/-- One more of the head has run. -/
theorem minv_step {n : Nat} {tdF : Nat → AV} {hcF : Nat → AO} {lvF : List Nat} {mF : Nat} {listed : Array Bool} {a : Act} {w w' : World} {g g' : G} {k k' : Nat} (inv : MInv dS E B ops n σ tdF hcF lvF mF listed a w g k)
    {i : Nat} {o : Oper} (ho : ops[i]? = some o) (hin : i < n) (hun : listed.getD i true = false) (hs : i < listed.size)
    (hdis : ∀ (i j : Nat) (o o' : Oper) (d : Nat), i ≠ j → ops[i]? = some o → ops[j]? = some o' → i < n → j < n → o.dst = some d → o'.dst = some d → False) {x : Value}
    (hg : GLe g (σ.nx + k) g') (hJ : ∀ b, g.J b → w'.heap[b]? = w.heap[b]?) (hown : ∀ l, l < σ.nx + k → cut (σ.nx + k) hcF l ≠ .dead → g.vt l = false → w'.heap[g.ρ l]? = w.heap[g.ρ l]?) (hκ : ∀ l, l < σ.nx + k → g'.κ l = g.κ l)
    (hkk : k ≤ k') (kle : k' ≤ mF) (made : ∀ i' o', i' < n → ops[i']? = some o' → lvF.getD i' 0 = lev lvF o' + 1 → ((i' = i ∨ listed.getD i' false = true) ↔ lev lvF o' < k')) (hlv : lvF.getD i 0 ≤ k')
    (hnew : ∀ α, k ≤ α → α < k' → OR w' g' (σ.nx + α + 1) (σ.nx + α) (hcF (σ.nx + α)))
    (hrel : Rel E B g' { mid ops n σ tdF hcF listed k' with t := (mid ops n σ tdF hcF listed k).t } w' a)
    (hd : dlt o.dst σ.n = true) (hv : ∀ d, o.dst = some d → VR w' g' (σ.nx + lvF.getD i 0) (tdF d) x)
    (hall : ∀ b, b < w.heap.size → w'.heap[b]? = w.heap[b]?) (hJn : ∀ b, g'.J b → g.J b ∨ w.heap.size ≤ b) (hOn : ∀ b, Owned g' (σ.nx + k') (cut (σ.nx + k') hcF) b → Owned g (σ.nx + k) (cut (σ.nx + k) hcF) b ∨ w.heap.size ≤ b)
    (hsd : SideOp E dS o → SideAt E B o (a.put o.dst x) w' g' (σ.nx + k') (cut (σ.nx + k') hcF)) : MInv dS E B ops n σ tdF hcF lvF mF (listed.setIfInBounds i true) (a.put o.dst x) w' g' k' := by
  have hput : ∀ d, o.dst ≠ some d → (a.put o.dst x).tmps.getD d undef = a.tmps.getD d undef := fun d hd' => by
    cases hod : o.dst with
    | none => rfl
    | some d' =>
      have : d' ≠ d := fun e => hd' (by rw [hod, e])
      simp [Act.put, Array.getD_eq_getD_getElem?, Array.getElem?_setIfInBounds_ne this]
  have hput' : ∀ d, o.dst = some d → (a.put o.dst x).tmps.getD d undef = x := fun d hd' => by
    have hlt : d < a.tmps.size := by rw [hrel.size]; rw [hd'] at hd; simpa [dlt, mid] using hd
    rw [hd']; simp [Act.put, Array.getD_eq_getD_getElem?, hlt]
  have hhd : ∀ d, o.dst = some d → has (headDst ops n) d = true := fun d hd' => has_iff.2 (List.mem_filterMap.2 ⟨i, List.mem_range.2 hin, by rw [ho]; exact hd'⟩)
  refine ⟨kle, fun i' o' hi' ho' hl => by rw [set_iff hs]; exact made i' o' hi' ho' hl, fun j hj hl => ?_, ?_, fun d hd' => ?_, fun j oj d hj hl hoj hd' => ?_, fun l hl => ?_, fun α hα => ?_, fun j oj hj hl hoj hso => ?_⟩
  · rcases (set_iff hs).1 hl with e | e
    · subst e; exact hlv
    · have := inv.lv j hj e; omega
  · refine ⟨?_, fun d => ?_, hrel.hr, hrel.ext, ?_⟩
    · have := hrel.size
      cases hod : o.dst <;> simpa [Act.put, mid, hod] using this
    · simp only [mid]
      cases ha : has (headDst ops n) d with
      | false =>
        have hne : o.dst ≠ some d := fun e => by rw [hhd d e] at ha; cases ha
        have := hrel.tm d
        simp only [mid, ha, cond_false] at this
        rw [hput d hne]; exact this
      | true =>
        rw [done_set ho hin hs]
        by_cases hod : o.dst = some d
        · simp only [hod, decide_true, Bool.or_true, cond_true]
          rw [← hod, hput' d hod]
          exact (hv d hod).mono (GLe.refl g' _) (by omega) (fun _ _ => rfl)
        · have := hrel.tm d
          simp only [mid, ha, cond_true] at this
          rw [hput d hod]
          simpa [hod] using this
    · have := hrel.df
      cases hod : o.dst <;> simpa [Act.put, hod] using this
  · have hne : o.dst ≠ some d := fun e => by rw [hhd d e] at hd'; cases hd'
    rw [hput d hne]
    exact (inv.told d hd').mono (hg.down (by omega)) (Nat.le_refl _) hJ
  · rcases (set_iff hs).1 hl with e | e
    · subst e
      have : oj = o := Option.some.inj (hoj.symm.trans ho)
      subst this
      rw [hput' d hd']; exact hv d hd'
    · have hne : o.dst ≠ some d := fun e' => by
        by_cases hji : j = i
        · subst hji
          rw [getD_both hun] at e; cases e
        · exact hdis j i oj o d hji hoj ho hj hin hd' e'
      rw [hput d hne]
      exact (inv.tnew j oj d hj e hoj hd').mono (hg.down (by have := inv.lv j hj e; omega)) (Nat.le_refl _) hJ
  · refine (inv.hold l hl).mono (hg.down (by omega)) (Nat.le_refl _) hJ hl (hκ l (by omega)) (fun hdd hvt => hown l (by omega) ?_ hvt)
    rw [cut_if, if_pos (by omega)]; exact hdd
  · by_cases h : α < k
    · refine (inv.hnew α h).mono (hg.down (by omega)) (Nat.le_refl _) hJ (by omega) (hκ _ (by omega)) (fun hdd hvt => hown _ (by omega) ?_ hvt)
      rw [cut_if, if_pos (by omega)]; exact hdd
    · exact hnew α (by omega) hα
  · rcases (set_iff hs).1 hl with e | e
    · subst e
      have : oj = o := Option.some.inj (hoj.symm.trans ho)
      subst this; exact hsd hso
    · obtain ⟨d, b, t, z, h1, h2, h3, h4, h5, h6, h7, h8⟩ := inv.side j oj hj e hoj hso
      have hlt : b < w.heap.size := (Array.getElem?_eq_some_iff.1 h5).1
      have hne : o.dst ≠ some d := fun e' => by
        by_cases hji : j = i
        · subst hji
          rw [getD_both hun] at e; cases e
        · exact hdis j i oj o d hji hoj ho hj hin h3 e'
      refine ⟨d, b, t, z, h1, h2, h3, by rw [hput d hne]; exact h4, by rw [hall b hlt]; exact h5, fun h => ?_, fun h => ?_, h8⟩
      · rcases hJn b h with h | h
        · exact h6 h
        · omega
      · rcases hOn b h with h | h
        · exact h7 h
        · omega
end
end Go.Proofs.YtdcpnpcmgfmenaaGreatDoor.Lg
/-
  Regions that draw: the rule. Conditions: none.
-/
set_option linter.unusedSimpArgs false
set_option linter.unusedVariables false
namespace Go.Proofs.YtdcpnpcmgfmenaaGreatDoor.Lg
open Go Go.RowKit

def unl (listed : Array Bool) : Nat → Nat
  | 0 => 0
  | n + 1 => unl listed n + if listed.getD n false = true then 0 else 1
theorem unl_out {listed : Array Bool} {i : Nat} : ∀ {n : Nat}, n ≤ i → unl (listed.setIfInBounds i true) n = unl listed n
  | 0, _ => rfl
  | n + 1, h => by simp only [unl]; rw [unl_out (by omega), getD_set_ne false (by omega)]
theorem unl_set {listed : Array Bool} {i : Nat} (hs : i < listed.size) (hu : listed.getD i false = false) : ∀ {n : Nat}, i < n → unl (listed.setIfInBounds i true) n + 1 = unl listed n
  | n + 1, h => by
    simp only [unl]
    by_cases e : i = n
    · subst e
      have h1 : (listed.setIfInBounds i true).getD i false = true := by simp [hs]
      rw [unl_out (Nat.le_refl _), h1, hu]; simp
    · rw [getD_set_ne false e]
      have := unl_set hs hu (n := n) (by omega)
      omega
theorem unl_zero {listed : Array Bool} : ∀ {n : Nat}, unl listed n = 0 → ∀ i, i < n → listed.getD i false = true
  | n + 1, h, i, hi => by
    simp only [unl] at h
    by_cases e : i = n
    · subst e
      cases hl : listed.getD i false with
      | true => rfl
      | false => rw [hl] at h; simp at h
    · exact unl_zero (n := n) (by omega) i (by omega)
theorem unl_least {listed : Array Bool} : ∀ {n : Nat}, unl listed n ≠ 0 → ∃ i, i < n ∧ listed.getD i false = false ∧ ∀ j, j < i → listed.getD j false = true
  | 0, h => absurd rfl h
  | n + 1, h => by
    by_cases e : unl listed n = 0
    · refine ⟨n, by omega, ?_, unl_zero e⟩
      cases hl : listed.getD n false with
      | false => rfl
      | true => simp only [unl, e, hl] at h; simp at h
    · obtain ⟨i, h1, h2, h3⟩ := unl_least e
      exact ⟨i, by omega, h2, h3⟩

section
variable {dS : Option Nat} {E : Env} {B : Base} {Q : Exit → St → Prop} {σ : St} {ops : Array Oper}

/-- What the head's run is checked for, once. -/
structure Head (ops : Array Oper) (n : Nat) : Prop where
  hw : ∀ (i : Nat) (o : Oper), ops[i]? = some o → ∀ j ∈ waits o, j < i
  hdis : ∀ (i j : Nat) (o o' : Oper) (d : Nat), i < j → ops[i]? = some o → ops[j]? = some o' → o.dst = some d → o'.dst = some d → False
  hn : n ≤ ops.size
  tail : ∀ listed i, HeadInv .any ops n listed → i ∈ Region.ready .any ops listed → unl listed n ≠ 0 → i < n

theorem mem_waits {o : Oper} {j : Nat} : j ∈ waits o ↔ ∃ e ∈ o.after, Region.binds .any e = true ∧ e.on = j := by
  simp only [waits, List.mem_map, List.mem_filter, Array.mem_toList_iff]
  constructor
  · rintro ⟨e, ⟨h1, h2⟩, h3⟩; exact ⟨e, h1, h2, h3⟩
  · rintro ⟨e, h1, h2, h3⟩; exact ⟨e, ⟨h1, h2⟩, h3⟩

/-- The heap grows by what nobody looks at. -/
theorem rel_grow {g : G} {w : World} {a : Act} (hr : Rel E B g σ w a) (obj : Obj) : Rel E B g σ (w.alloc obj) a := by
  have hg := GLe.refl g σ.nx
  have hw : ∀ b, g.J b → (w.alloc obj).heap[b]? = w.heap[b]? := fun b hb => heap_alloc_lt w obj (hr.hr.Jlt b hb)
  refine ⟨hr.size, tm_mono (σ := σ) hr hg (Nat.le_refl _) hw, ⟨fun l hl => (hr.hr.hp l hl).mono hg (Nat.le_refl _) hw hl rfl (fun hd hv => heap_alloc_lt w obj (Owned.lt hr.hr ⟨l, hl, hd, hv, rfl⟩)), hr.hr.hd, hr.hr.inj, fun b hb => by have := hr.hr.Jlt b hb; simp; omega, hr.hr.IJ, hr.hr.dis, gl_mono hr.hr (fun _ h => h) (fun _ h => h) hw⟩, ?_, hr.df⟩
  have hx := hr.ext
  exact ⟨hx.os, hx.tape, hx.output, by simp; have := hx.size; omega, fun b h1 h2 => by rw [heap_alloc_lt w obj (by have := hx.size; omega)]; exact hx.block b h1 h2, hx.gle, hx.nle, hx.inew, hx.own⟩
theorem ext_J {g : G} {w w' : World} (hIJ : ∀ b, g.I b → g.J b) : ∀ b, (g.ext w w').J b → g.J b ∨ w.heap.size ≤ b := by
  rintro b (h | h | h)
  · exact .inl h
  · exact .inl (hIJ b h)
  · exact .inr h.1
theorem mk_J {g : G} {w w' : World} {l b0 c : Nat} {v : Bool} : ∀ b, (g.mk' l b0 c v w w').J b → g.J b ∨ w.heap.size ≤ b := by
  rintro b (h | h)
  · exact .inl h
  · exact .inr h.1
theorem owned_k {g : G} {n1 n2 : Nat} {h : Nat → AO} (hn : n1 = n2) {b : Nat} (ho : Owned g n1 h b) : Owned g n2 h b := by subst hn; exact ho

theorem head_run {n m : Nat} (hh : Head ops n) {tdF : Nat → AV} {hcF : Nat → AO} {lvF : List Nat} {mF : Nat} {Q' : Exit → Act → World → Prop} (hB : B.nx ≤ σ.nx)
    (hf : ∀ i o, i < n → ops[i]? = some o → Fact dS E ops (headDst ops n) σ tdF hcF lvF mF i o)
    (done : ∀ listed a w g k, HeadInv .any ops n listed → (∀ i, i < n → listed.getD i false = true) → MInv dS E B ops n σ tdF hcF lvF mF listed a w g k → wpAny E.P .any ops Q' m listed a w) :
    ∀ f listed a w g k, unl listed n = f → HeadInv .any ops n listed → MInv dS E B ops n σ tdF hcF lvF mF listed a w g k → wpAny E.P .any ops Q' (f + m) listed a w := by
  intro f
  induction f with
  | zero => intro listed a w g k h0 hi inv; rw [Nat.zero_add]; exact done listed a w g k hi (unl_zero h0) inv
  | succ f ih =>
    intro listed a w g k h0 hi inv
    rw [show f + 1 + m = (f + m) + 1 by omega]
    refine ⟨fun hr => ?_, fun i hir => ?_⟩
    · obtain ⟨i, h1, h2, h3⟩ := unl_least (listed := listed) (n := n) (by omega)
      have hlt : i < ops.size := by have := hh.hn; omega
      have : i ∈ Region.ready .any ops listed := by
        refine mem_ready.2 ⟨getD_in (by rw [hi.size]; exact hlt) h2, ops[i], Array.getElem?_eq_getElem hlt, fun e he hb => h3 _ (hh.hw i _ (Array.getElem?_eq_getElem hlt) _ (mem_waits.2 ⟨e, he, hb, rfl⟩))⟩
      rw [hr] at this; cases this
    · have hin := hh.tail listed i hi hir (by omega)
      obtain ⟨hun, o, ho, hall⟩ := mem_ready.1 hir
      have hs : i < listed.size := by rw [hi.size]; exact (Array.getElem?_eq_some_iff.1 ho).1
      have hall' : ∀ j ∈ waits o, listed.getD j false = true := fun j hj => by
        obtain ⟨e, h1, h2, h3⟩ := mem_waits.1 hj
        rw [← h3]; exact hall e h1 h2
      obtain ⟨hlk, hsr⟩ := rel_sight inv hB hin (hh.hw i o ho) hall'
      have hF := hf i o hin ho
      have hdis' : ∀ (i j : Nat) (o o' : Oper) (d : Nat), i ≠ j → ops[i]? = some o → ops[j]? = some o' → i < n → j < n → o.dst = some d → o'.dst = some d → False := by
        intro i j o o' d hij hi hj hin hjn hd hd'
        rcases Nat.lt_or_ge i j with h | h
        · exact hh.hdis i j o o' d h hi hj hd hd'
        · exact hh.hdis j i o' o d (by omega) hj hi hd' hd
      have next : ∀ a' w' g' k', MInv dS E B ops n σ tdF hcF lvF mF (listed.setIfInBounds i true) a' w' g' k' → wpAny E.P .any ops Q' (f + m) (listed.setIfInBounds i true) a' w' := fun a' w' g' k' inv' =>
        ih _ a' w' g' k' (by have := unl_set hs (getD_both hun) hin; omega) (hi.set hir hin) inv'
      have hJ0 : ∀ b, g.J b → b < w.heap.size := inv.rel.hr.Jlt
      have hOw : ∀ l, l < σ.nx + k → cut (σ.nx + k) hcF l ≠ .dead → g.vt l = false → g.ρ l < w.heap.size := fun l h1 h2 h3 => Owned.lt inv.rel.hr ⟨l, h1, h2, h3, rfl⟩
      unfold wpOp
      simp only [ho]
      rcases hF.way with ⟨hns, hr, hl, hv⟩ | ⟨hns, hr, hl, v, hq, hv⟩ | ⟨hns, hr, hl, hbe, v, ha, hne, hv⟩ | ⟨hsd, hl, hv⟩
      · rw [runs_ok hr hsr]
        simp only [Bool.false_eq_true, if_false]
        refine next _ w g k (minv_step inv ho hin hun hs hdis' (GLe.refl g _) (fun _ _ => rfl) (fun _ _ _ _ => rfl) (fun _ _ => rfl) (Nat.le_refl _) inv.kle (fun i' o' hi' ho' hl' => ?_) (by omega) (fun α _ _ => by omega) inv.rel hF.d (fun d hd => ?_) (fun _ _ => rfl) (fun _ h => .inl h) (fun _ h => .inl h) (fun h => (notS_side hns h).elim))
        · constructor
          · rintro (e | e)
            · subst e
              have : o' = o := Option.some.inj (ho'.symm.trans ho)
              subst this; omega
            · exact (inv.made i' o' hi' ho' hl').1 e
          · exact fun h => .inr ((inv.made i' o' hi' ho' hl').2 h)
        · rw [hv d hd]; exact .d _ _ (.v _)
      · rw [runs_ok hr hsr]
        simp only [if_true]
        refine .inl (hq B g w a hsr _ _ fun w' x hb hvx => ?_)
        refine next _ w' (g.ext w w') k (minv_step inv ho hin hun hs hdis' (gle_ext g _ w w') (fun b hb' => hb.block b (hJ0 b hb')) (fun l h1 h2 h3 => hb.block _ (hOw l h1 h2 h3)) (fun _ _ => rfl) (Nat.le_refl _) inv.kle (fun i' o' hi' ho' hl' => ?_) (by omega) (fun α _ _ => by omega) (rel_below inv.rel hb) hF.d (fun d hd => ?_) hb.block (ext_J inv.rel.hr.IJ) (fun b h => .inl h) (fun h => (notS_side hns h).elim))
        · constructor
          · rintro (e | e)
            · subst e
              have : o' = o := Option.some.inj (ho'.symm.trans ho)
              subst this; omega
            · exact (inv.made i' o' hi' ho' hl').1 e
          · exact fun h => .inr ((inv.made i' o' hi' ho' hl').2 h)
        · rw [hv d hd, hl]; exact hvx
      · rw [runs_ok hr hsr]
        simp only [if_true]
        have hk : k = lev lvF o := by
          have h1 := inv.made i o hin ho hl
          rw [getD_both hun] at h1
          have : ¬ lev lvF o < k := fun h => by have := h1.2 h; cases this
          omega
        left
        refine ha B g w a hsr _ _ fun w' x b c0 vt hb hbv hor hvr => ?_
        simp only [sight, ← hk] at hor hvr
        have hrel := rel_new (σ := mid ops n σ tdF hcF listed k) inv.rel hb b c0 vt hbv (hcF (σ.nx + k)) hor
        have hcut : upd (cut (σ.nx + k) hcF) (σ.nx + k) (hcF (σ.nx + k)) = cut (σ.nx + (k + 1)) hcF := by
          funext l
          simp only [upd, cut_if]
          split
          · rename_i e; subst e; rw [if_pos (by omega)]
          · rename_i e
            by_cases h : l < σ.nx + k
            · rw [if_pos h, if_pos (by omega)]
            · rw [if_neg h, if_neg (by omega)]
        have hmid : { mid ops n σ tdF hcF listed (k + 1) with t := (mid ops n σ tdF hcF listed k).t } = { mid ops n σ tdF hcF listed k with h := upd (mid ops n σ tdF hcF listed k).h (mid ops n σ tdF hcF listed k).nx (hcF (σ.nx + k)), nx := (mid ops n σ tdF hcF listed k).nx + 1 } := by
          simp only [mid, hcut, Nat.add_assoc]
        have hkm := hF.lm
        refine next _ _ (g.mk' (σ.nx + k) b c0 vt w w') (k + 1) (minv_step inv ho hin hun hs hdis' (gle_mk g (σ.nx + k) _ _ _ _ _) (fun b hb' => hb.block b (hJ0 b hb')) (fun l h1 h2 h3 => hb.block _ (hOw l h1 h2 h3)) (fun l hl => by simp [G.mk', G.at, upd, Nat.ne_of_lt hl]) (by omega) (by omega)
          (fun i' o' hi' ho' hl' => ?_) (by omega) (fun α h1 h2 => ?_) (by rw [hmid]; exact hrel) hF.d (fun d hd => ?_) hb.block mk_J (fun y h => ?_) (fun h => (notS_side hns h).elim))
        · by_cases e : i' = i
          · subst e
            have : o' = o := Option.some.inj (ho'.symm.trans ho)
            subst this
            simp; omega
          · have h1 := inv.made i' o' hi' ho' hl'
            have hne' : lev lvF o' ≠ k := fun he => by
              rcases Nat.lt_or_ge i' i with h | h
              · have := hbe i' h; omega
              · rcases (hf i' o' hi' ho').way with ⟨_, _, h2, _⟩ | ⟨_, _, h2, _⟩ | ⟨_, _, _, h2, _⟩ | ⟨_, h2, _⟩
                · omega
                · omega
                · have := h2 i (by omega); omega
                · omega
            constructor
            · rintro (h | h)
              · exact absurd h e
              · have := h1.1 h; omega
            · exact fun h => .inr (h1.2 (by omega))
        · obtain rfl : α = k := by omega
          exact hor
        · rw [hv d hd, hl, ← hk]; exact hvr
        · obtain ⟨l, hl1, hl2, hl3, hl4⟩ := h
          by_cases e : l = σ.nx + k
          · subst e
            right
            simp [G.mk', G.at, upd] at hl3 hl4
            rcases hbv with h | h
            · rw [h] at hl3; cases hl3
            · omega
          · left
            refine ⟨l, by omega, ?_, by simpa [G.mk', G.at, upd, e] using hl3, by simpa [G.mk', G.at, upd, e] using hl4⟩
            rw [cut_if, if_pos (by omega)] at hl2 ⊢
            exact hl2
      · obtain ⟨hg, t, z, d, hop, hz, hdst, hdS⟩ := hsd
        have hrun : Region.wanted o (yielded ops a.tmps) = true := by unfold Region.wanted; rw [hg]
        rw [hrun]
        simp only [if_true]
        obtain ⟨ti, hi1, hi2⟩ := Option.bind_eq_some_iff.1 hz
        have hexec : (execOp a.eval o).run E.P w = .ok (.value (.pointer (some ⟨w.heap.size, 0, none⟩))) (w.alloc (.cells z.cells t)) := by
          simp only [execOp, hop]
          exact run_v (by simp [Instr.alloc, zeroValue, typeInfo, program, hi1, hi2, newVar, newRow, newObj, Sem.run, Sem.bind, pure, bind])
        left
        unfold Oper.wp
        rw [hexec, Oper.upon_value]
        have hsz : d < a.tmps.size := by
          have h1 := inv.rel.size
          have h2 := hF.d
          rw [hdst] at h2
          rw [h1]; simpa [dlt, mid] using h2
        refine next _ _ g k (minv_step inv ho hin hun hs hdis' (GLe.refl g _) (fun b hb => heap_alloc_lt w _ (hJ0 b hb)) (fun l h1 h2 h3 => heap_alloc_lt w _ (hOw l h1 h2 h3)) (fun _ _ => rfl) (Nat.le_refl _) inv.kle (fun i' o' hi' ho' hl' => ?_) (by omega) (fun α _ _ => by omega) (rel_grow inv.rel _) hF.d (fun d hd => ?_) (fun b hb => heap_alloc_lt w _ hb) (fun _ h => .inl h) (fun _ h => .inl h) (fun _ => ?_))
        · constructor
          · rintro (e | e)
            · subst e
              have : o' = o := Option.some.inj (ho'.symm.trans ho)
              subst this; omega
            · exact (inv.made i' o' hi' ho' hl').1 e
          · exact fun h => .inr ((inv.made i' o' hi' ho' hl').2 h)
        · rw [hv d hd]; exact .any _
        · refine ⟨d, w.heap.size, t, z, hop, hz, hdst, ?_, heap_alloc_new w _, fun h => ?_, fun h => ?_, inv.rel.ext.size⟩
          · rw [hdst]; simp [Act.put, Array.getD_eq_getD_getElem?, hsz]
          · have := hJ0 _ h; omega
          · obtain ⟨l, h1, h2, h3, h4⟩ := h
            have := hOw l h1 h2 h3; omega

def otherDst : Option Nat → Option Nat → Bool
  | some d, some d' => !(Nat.beq d d')
  | _, _ => true

/-- What is looked at, once, in a region that draws: the head's places are distinct, everyone waits for earlier ones, and the tail for all. -/
def regD (ops : Array Oper) (n : Nat) : Bool :=
  ((List.range ops.size).all fun i => match ops[i]? with | some o => (waits o).all (Nat.blt · i) | none => true) &&
  ((List.range ops.size).all fun j => (List.range j).all fun i => otherDst ((ops[j]?).bind (·.dst)) ((ops[i]?).bind (·.dst))) &&
  Nat.ble n ops.size && (Nat.beq n ops.size || (Region.sinkB .any ops n && Region.chainB .any ops n)) &&
  Region.seqB .any ops (ops.size - n) n (((List.range ops.size).map fun i => Nat.blt i n).toArray)

theorem regD_head {n : Nat} (h : regD ops n = true) : Head ops n ∧ Region.seqB .any ops (ops.size - n) n (((List.range ops.size).map fun i => Nat.blt i n).toArray) = true := by
  simp only [regD, Bool.and_eq_true] at h
  obtain ⟨⟨⟨⟨h1, h2⟩, h3⟩, h4⟩, h5⟩ := h
  have hn : n ≤ ops.size := Nat.le_of_ble_eq_true h3
  refine ⟨⟨fun i o ho j hj => ?_, fun i j o o' d hij ho ho' hd hd' => ?_, hn, fun listed i hi hir hu => ?_⟩, h5⟩
  · have hlt := (Array.getElem?_eq_some_iff.1 ho).1
    have := List.all_eq_true.1 h1 i (List.mem_range.2 hlt)
    rw [ho] at this
    exact Nat.le_of_ble_eq_true (List.all_eq_true.1 this j hj)
  · have := List.all_eq_true.1 h2 j (List.mem_range.2 (Array.getElem?_eq_some_iff.1 ho').1)
    have := List.all_eq_true.1 this i (List.mem_range.2 hij)
    rw [ho', ho, Option.bind_some, Option.bind_some, hd', hd] at this
    simp [otherDst] at this
  · rcases Bool.or_eq_true_iff.1 h4 with h4 | h4
    · have : n = ops.size := Nat.eq_of_beq_eq_true h4
      obtain ⟨_, o, ho, _⟩ := mem_ready.1 hir
      rw [this]; exact (Array.getElem?_eq_some_iff.1 ho).1
    · simp only [Bool.and_eq_true] at h4
      obtain ⟨_, o, ho, _⟩ := mem_ready.1 hir
      have hlt := (Array.getElem?_eq_some_iff.1 ho).1
      rcases Nat.lt_or_ge i n with h | h
      · exact h
      · obtain ⟨j, g1, g2, _⟩ := unl_least hu
        exact absurd hir (tail_waits h4.1 h4.2 (by omega) hi _ j rfl g1 (getD_in (by rw [hi.size]; omega) g2) i h)

theorem doneDst_all {n : Nat} {listed : Array Bool} (h : ∀ i, i < n → listed.getD i false = true) : doneDst ops n listed = headDst ops n := by
  have key : ∀ (l : List Nat) (f g : Nat → Option Nat), (∀ i ∈ l, f i = g i) → l.filterMap f = l.filterMap g := by
    intro l f g
    induction l with
    | nil => intro _; rfl
    | cons x l ih => intro h; simp only [List.filterMap_cons, h x (by simp), ih (fun i hi => h i (by simp [hi]))]
  exact key _ _ _ fun i hi => by rw [h i (List.mem_range.1 hi), cond_true]

theorem rel_drawn {g : G} {w : World} {a : Act} (h : Rel E B g σ w a) : Rel E B g σ { w with drawn := w.drawn + 1 } a := by
  have hg := GLe.refl g σ.nx
  refine ⟨h.size, tm_mono (σ := σ) h hg (Nat.le_refl _) (fun _ _ => rfl), ⟨fun l hl => OR.mono (w := w) (w' := { w with drawn := w.drawn + 1 }) hg (Nat.le_refl _) (fun _ _ => rfl) hl rfl (fun _ _ => rfl) (h.hr.hp l hl), h.hr.hd, h.hr.inj, h.hr.Jlt, h.hr.IJ, h.hr.dis, gl_mono h.hr (fun _ h => h) (fun _ h => h) (fun _ _ => rfl)⟩, ?_, h.df⟩
  have hx := h.ext
  exact ⟨hx.os, hx.tape, hx.output, hx.size, hx.block, hx.gle, hx.nle, hx.inew, hx.own⟩

theorem region_core {id : Nat} {l : List Oper} (n : Nat) {wr : List Nat} {hd tl : List Oper} (hchk : regD l.toArray n = true) (hwr : headDst l.toArray n = wr) (hhd : l.take n = hd) (htl : l.drop n = tl) {K : (Nat → AV) → (Nat → AO) → Nat → Prop}
    (hK : ∀ td hc m g w a, K td hc m → Rel E B g { t := td, n := σ.n, h := hc, nx := σ.nx + m } w a → (∀ i o, i < n → l.toArray[i]? = some o → SideOp E dS o → SideAt E B o a w g (σ.nx + m) hc) → wpList E.P l.toArray (QC E B Q) tl a w)
    (h : HOps dS E B Q l.toArray wr σ K hd [] σ.t σ.h 0) : SWP E B (.region id l.toArray true) Q σ := by
  subst hwr; subst hhd; subst htl
  obtain ⟨hh, hseq⟩ := regD_head hchk
  intro g w a hr
  have hr := rel_drawn hr
  have hnl : n ≤ l.length := by have := hh.hn; simpa using this
  have htl : (l.take n).length = n := by simp; omega
  obtain ⟨tdF, hcF, mF, lvF, e1, e2, e7, e8, e3, e4, e5, e6⟩ := hops_facts hh.hw hh.hdis (l.take n) 0 [] σ.t σ.h 0 (fun k hk => by rw [htl] at hk; simp [hk]) rfl (fun j => by simp) (fun x hx => hr.hr.hd x (by omega)) h
  have hB : B.nx ≤ σ.nx := hr.ext.nle
  have hf : ∀ i o, i < n → l.toArray[i]? = some o → Fact dS E l.toArray (headDst l.toArray n) σ tdF hcF lvF mF i o := fun i o hi ho => by
    have := e6 i o (by rw [htl]; exact hi) (by rw [Nat.zero_add]; exact ho)
    rwa [Nat.zero_add] at this
  have hlist0 : ∀ i, (Array.replicate l.toArray.size false).getD i false = false := fun i => getD_replicate_false _ _
  have hcell : ∀ x, x < σ.nx → hcF x = σ.h x := fun x hx => e5 x (by omega)
  have hcut0 : cut (σ.nx + 0) hcF = σ.h := by
    funext x
    rw [cut_if]
    split
    · exact hcell x (by omega)
    · exact (hr.hr.hd x (by omega)).symm
  have hcut1 : cut σ.nx hcF = σ.h := hcut0
  have hnone : doneDst l.toArray n (Array.replicate l.toArray.size false) = [] := by
    unfold doneDst
    rw [List.filterMap_eq_nil_iff]
    intro i _
    rw [hlist0 i]; rfl
  have inv0 : MInv dS E B l.toArray n σ tdF hcF lvF mF (Array.replicate l.toArray.size false) a { w with drawn := w.drawn + 1 } g 0 := by
    refine ⟨Nat.zero_le _, fun i o hi ho hl => ?_, fun i hi hl => (by rw [hlist0] at hl; cases hl), ⟨hr.size, fun d => ?_, by have := hr.hr; simpa [mid, hcut1] using this, by have := hr.ext; simpa [mid, hcut1] using this, hr.df⟩, fun d _ => hr.tm d, fun i o d hi hl => (by rw [hlist0] at hl; cases hl), fun x hx => (by rw [hcell x hx]; exact hr.hr.hp x hx), fun α hα => by omega, fun i o _ hl => (by rw [hlist0] at hl; cases hl)⟩
    · rw [hlist0]; constructor
      · intro h; cases h
      · intro h; omega
    · simp only [mid, hnone]
      cases has (headDst l.toArray n) d with
      | false => exact hr.tm d
      | true => exact .any _
  have hi0 : HeadInv .any l.toArray n (Array.replicate l.toArray.size false) :=
    ⟨by simp, fun j oj _ hl => (by rw [getD_replicate_false] at hl; cases hl), fun t _ ht => getD_in (by simpa using ht) (getD_replicate_false _ _)⟩
  have hu0 : ∀ m, unl (Array.replicate l.toArray.size false) m = m := by
    intro m
    induction m with
    | zero => rfl
    | succ m ih => simp only [unl, ih, hlist0]; simp
  refine wp_region_any E.mixed ?_
  have key := head_run (m := l.toArray.size - n) (Q' := QC E B Q) hh hB hf (fun listed a' w' g' k hi hall inv => ?_) n _ a _ g 0 (hu0 n) hi0 inv0
  · rwa [show n + (l.toArray.size - n) = l.toArray.size by have := hh.hn; omega] at key
  · have hk : k = mF := by
      have h1 := inv.kle
      rcases Nat.lt_or_ge k mF with h | h
      · exfalso
        obtain ⟨i, o, g1, g2, g3, g4⟩ := e8 k (Nat.zero_le _) h
        rw [Nat.zero_add] at g2 g3
        have hin : i < n := by rw [htl] at g1; exact g1
        have := (inv.made i o hin g2 g3).1 (hall i hin)
        omega
      · omega
    subst hk
    have hlisted : listed = ((List.range l.toArray.size).map fun i => Nat.blt i n).toArray := by
      apply Array.ext
      · simp [hi.size]
      · intro i h1 h2
        simp only [List.getElem_toArray, List.getElem_map, List.getElem_range]
        have his : i < l.toArray.size := by simpa using h2
        rcases Nat.lt_or_ge i n with h | h
        · have := hall i h
          have e : Nat.blt i n = true := Nat.ble_eq_true_of_le h
          rw [e]; simpa [h1] using this
        · have := hi.tail i h his
          have e : Nat.blt i n = false := by
            cases hb : Nat.blt i n with
            | false => rfl
            | true => have : i < n := Nat.le_of_ble_eq_true hb; omega
          rw [e]; simpa [h1] using this
    have hfin : mid l.toArray n σ tdF hcF listed k = { t := tdF, n := σ.n, h := hcF, nx := σ.nx + k } := by
      unfold mid
      congr 1
      · funext d
        rw [doneDst_all hall]
        cases hd : has (headDst l.toArray n) d with
        | true => rfl
        | false =>
          simp only [cond_false]
          refine (e4 d fun i o hi ho hd' => ?_).symm
          have : has (headDst l.toArray n) d = true := has_iff.2 (List.mem_filterMap.2 ⟨i, List.mem_range.2 (by rw [htl] at hi; exact hi), by rw [Nat.zero_add] at ho; rw [ho]; exact hd'⟩)
          rw [this] at hd; cases hd
      · funext x
        rw [cut_if]
        split
        · rfl
        · exact (e7 x (by omega)).symm
    have hrel := inv.rel
    rw [hfin] at hrel
    have hcutF : cut (σ.nx + k) hcF = hcF := by
      funext x
      rw [cut_if]
      split
      · rfl
      · exact (e7 x (by omega)).symm
    have htail := hK _ _ _ g' w' a' e1 hrel (fun i o hi ho hs => by have := inv.side i o hi (hall i hi) ho hs; rwa [hcutF] at this)
    have hdl : (l.drop n).length = l.toArray.size - n := by simp
    have := wpAny_of_seq (md := .any) (Q' := QC E B Q) (l.drop n) n listed a' w' (fun j => by simp [List.getElem?_drop]) (by rw [hdl, hlisted]; exact hseq) htail
    rwa [hdl] at this

theorem swp_regionD {id : Nat} {l : List Oper} (n : Nat) {wr : List Nat} {hd tl : List Oper} (hchk : regD l.toArray n = true) (hwr : headDst l.toArray n = wr) (hhd : l.take n = hd) (htl : l.drop n = tl)
    (h : HOps none E B Q l.toArray wr σ (fun td hc m => SOps E B l.toArray tl Q { t := td, n := σ.n, h := hc, nx := σ.nx + m }) hd [] σ.t σ.h 0) : SWP E B (.region id l.toArray true) Q σ :=
  region_core n hchk hwr hhd htl (fun td hc m g w a hk hr _ => hk g w a hr) h

/-- A block that nobody told of becomes an object. -/
theorem rel_adopt {g : G} {w : World} {a : Act} (hr : Rel E B g σ w a) {b : Nat} {t : TypeId} {z : Value} (hb : w.heap[b]? = some (.cells z.cells t (0, 0))) (hJ : ¬ g.J b) (hO : ¬ Owned g σ.nx σ.h b) (hB : B.w.heap.size ≤ b) :
    Rel E B (g.at σ.nx b 0 false) { σ with h := upd σ.h σ.nx (.cells (zcells z)), nx := σ.nx + 1 } w a := by
  have hg := gle_at g σ.nx b 0 false
  have hold : ∀ y, Owned (g.at σ.nx b 0 false) (σ.nx + 1) (upd σ.h σ.nx (.cells (zcells z))) y → Owned g σ.nx σ.h y ∨ y = b := by
    rintro y ⟨l, hl, hd, hv, hy⟩
    by_cases e : l = σ.nx
    · subst e; right; simpa [G.at, upd] using hy.symm
    · left
      have hl' : l < σ.nx := by omega
      exact ⟨l, hl', by simpa [upd, e] using hd, by simpa [G.at, upd, e] using hv, by simpa [G.at, upd, e] using hy⟩
  have hlt : b < w.heap.size := (Array.getElem?_eq_some_iff.1 hb).1
  refine ⟨hr.size, tm_mono (σ := σ) hr hg (Nat.le_succ _) (fun _ _ => rfl), ⟨?_, ?_, ?_, hr.hr.Jlt, hr.hr.IJ, ?_, gl_mono hr.hr hg.I hg.J (fun _ _ => rfl)⟩, ?_, hr.df⟩
  · intro l hl
    by_cases e : l = σ.nx
    · subst e; simp only [upd, if_true]
      obtain ⟨h1, h2⟩ := zcells_ok z w (g.at σ.nx b 0 false) (σ.nx + 1)
      exact ⟨by simp [G.at, upd], by simp [G.at, upd], z.cells, t, by simpa [G.at, upd] using hb, h1, h2⟩
    · have hl' : l < σ.nx := by simp at hl; omega
      simp only [upd, e, if_false]
      exact (hr.hr.hp l hl').mono hg (Nat.le_succ _) (fun _ _ => rfl) hl' (by simp [G.at, upd, e]) (fun _ _ => rfl)
  · intro l hl
    simp at hl
    simp only [upd]; rw [if_neg (by omega)]; exact hr.hr.hd l (by omega)
  · intro l l' hl hl' hd hd' hv hv' he
    simp only at hl hl'
    by_cases e : l = σ.nx
    · by_cases e' : l' = σ.nx
      · rw [e, e']
      · exfalso
        refine hO ⟨l', by omega, by simpa [upd, e'] using hd', by simpa [G.at, upd, e'] using hv', ?_⟩
        simpa [G.at, upd, e, e'] using he.symm
    · by_cases e' : l' = σ.nx
      · exfalso
        refine hO ⟨l, by omega, by simpa [upd, e] using hd, by simpa [G.at, upd, e] using hv, ?_⟩
        simpa [G.at, upd, e, e'] using he
      · exact hr.hr.inj l l' (by omega) (by omega) (by simpa [upd, e] using hd) (by simpa [upd, e'] using hd') (by simpa [G.at, upd, e] using hv) (by simpa [G.at, upd, e'] using hv') (by simpa [G.at, upd, e, e'] using he)
  · intro y hy ho
    rcases hold y ho with h | h
    · exact hr.hr.dis y hy h
    · exact hJ (h ▸ hy)
  · have hx := hr.ext
    refine ⟨hx.os, hx.tape, hx.output, hx.size, hx.block, hx.gle.trans hx.nle hg, by have := hx.nle; simp; omega, hx.inew, fun y hy => ?_⟩
    rcases hold y hy with h | h
    · exact hx.own y h
    · right; rw [h]; exact hB

/-- The same, where one object is made that nobody in the head looks at. -/
theorem swp_regionS {id : Nat} {l : List Oper} (n i dS : Nat) {wr : List Nat} {hd tl : List Oper} (hchk : regD l.toArray n = true) (hwr : headDst l.toArray n = wr) (hhd : l.take n = hd) (htl : l.drop n = tl)
    {o : Oper} {t : TypeId} {z : Value} (hi : Nat.blt i n = true) (ho : l[i]? = some o) (hop : o.op = .alloc t) (hg : o.guard = none) (hdst : o.dst = some dS) (hz : (E.P.info? t).bind (·.zero) = some z) (hdl : Nat.blt dS σ.n = true)
    (h : HOps (some dS) E B Q l.toArray wr σ (fun td hc m => SOps E B l.toArray tl Q { t := upd td dS (.p (σ.nx + m) 0 0), n := σ.n, h := upd hc (σ.nx + m) (.cells (zcells z)), nx := σ.nx + m + 1 }) hd [] σ.t σ.h 0) : SWP E B (.region id l.toArray true) Q σ :=
  region_core n hchk hwr hhd htl (fun td hc m g w a hk hr hs => by
    obtain ⟨d, b, t', z', h1, h2, h3, h4, h5, h6, h7, h8⟩ := hs i o (Nat.le_of_ble_eq_true hi) (by simpa using ho) ⟨hg, t, z, dS, hop, hz, hdst, rfl⟩
    rw [hop] at h1
    injection h1 with h1
    subst h1
    rw [hz] at h2
    injection h2 with h2
    subst h2
    rw [hdst] at h3
    injection h3 with h3
    subst h3
    have hr' := rel_adopt hr h5 h6 h7 h8
    have h9 : VR w (g.at (σ.nx + m) b 0 false) (σ.nx + m + 1) (.p (σ.nx + m) 0 0) (.pointer (some ⟨b, 0, none⟩)) := .p _ _ _ _ rfl (by omega) (by simp [G.at, upd]) (fun _ => by simp [G.at, upd])
    refine hk _ w a ⟨hr'.size, fun x => ?_, hr'.hr, hr'.ext, hr'.df⟩
    by_cases e : x = dS
    · subst e; simp only [upd_same]; rw [h4]; exact h9
    · simp only [upd_ne _ _ _ e]; exact hr'.tm x) h
end
end Go.Proofs.YtdcpnpcmgfmenaaGreatDoor.Lg
/-
  Regions that draw, whose head makes nothing: the rule and its steps. Conditions: none.
-/
set_option linter.unusedSimpArgs false
set_option linter.unusedVariables false
namespace Go.Proofs.YtdcpnpcmgfmenaaGreatDoor.Lg
open Go Go.RowKit

/-- What an operation may look at, where the head makes nothing. -/
def sight0 (ops : Array Oper) (wr : List Nat) (σ : St) (td : Nat → AV) (o : Oper) : St :=
  { t := fun d => bif has wr d then (bif has (waitDst ops o) d then td d else .any) else σ.t d, n := σ.n, h := σ.h, nx := σ.nx }

def HOps0 (E : Env) (B : Base) (Q : Exit → St → Prop) (ops : Array Oper) (wr : List Nat) (σ : St) (K : (Nat → AV) → Prop) : List Oper → (Nat → AV) → Prop
  | [], td => K td
  | o :: l, td =>
    (runs ops o (sight0 ops wr σ td o) false ∧ dlt o.dst σ.n = true ∧ HOps0 E B Q ops wr σ K l (pput td o.dst un)) ∨
    (runs ops o (sight0 ops wr σ td o) true ∧ ∃ v, QStep E o (sight0 ops wr σ td o) v ∧ dlt o.dst σ.n = true ∧ HOps0 E B Q ops wr σ K l (pput td o.dst v))

section
variable {E : Env} {B : Base} {Q : Exit → St → Prop} {σ : St} {ops : Array Oper} {wr : List Nat} {K : (Nat → AV) → Prop} {l : List Oper} {o : Oper} {td : Nat → AV}

theorem hops_of0 {K' : (Nat → AV) → (Nat → AO) → Nat → Prop} (hz : cut σ.nx σ.h = σ.h) (hK : ∀ td, K td → K' td σ.h 0) :
    ∀ (l : List Oper) (lv : List Nat) (td : Nat → AV), (∀ j, lv.getD j 0 = 0) → HOps0 E B Q ops wr σ K l td → HOps none E B Q ops wr σ K' l lv td σ.h 0
  | [], _, td, _, h => hK td h
  | o :: l, lv, td, h0, h => by
    have hl : lev lv o = 0 := Nat.le_zero.1 (lev_le _ _ _ _ (Nat.le_refl _) fun j _ => Nat.le_of_eq (h0 j))
    have hs : sight ops wr σ lv td σ.h o = sight0 ops wr σ td o := by
      unfold sight sight0
      rw [hl, Nat.add_zero, hz]
    have h1 : ∀ j, (lv ++ [lev lv o]).getD j 0 = 0 := fun j => by
      rw [hl]
      rcases Nat.lt_trichotomy j lv.length with hj | hj | hj
      · have := h0 j; simp [List.getD, List.getElem?_append_left hj] at this ⊢; exact this
      · subst hj; simp [List.getD]
      · rw [List.getD, List.getElem?_eq_none (by simp; omega)]; rfl
    rcases h with ⟨hr, hd, h⟩ | ⟨hr, v, hq, hd, h⟩
    · exact .inl ⟨rfl, by rw [hs]; exact hr, hd, hops_of0 hz hK l _ _ h1 h⟩
    · exact .inr (.inl ⟨rfl, by rw [hs]; exact hr, v, by rw [hs]; exact hq, hd, hops_of0 hz hK l _ _ h1 h⟩)

theorem swp_regionQ {id : Nat} {l : List Oper} (n : Nat) {wr : List Nat} {hd tl : List Oper} (hchk : regD l.toArray n = true) (hwr : headDst l.toArray n = wr) (hhd : l.take n = hd) (htl : l.drop n = tl)
    (h : HOps0 E B Q l.toArray wr σ (fun td => SOps E B l.toArray tl Q { σ with t := td }) hd σ.t) : SWP E B (.region id l.toArray true) Q σ := by
  intro g w a hr
  have hz : cut σ.nx σ.h = σ.h := by
    funext x
    rw [cut_if]
    split
    · rfl
    · exact (hr.hr.hd x (by omega)).symm
  exact swp_regionD n hchk hwr hhd htl (hops_of0 hz (fun td hk => hk) _ _ _ (fun j => by simp) h) g w a hr

theorem h0_go (hg : o.guard = none) (h : Step .quiet E B o (fun σ' => ∃ v, σ' = St.put (sight0 ops wr σ td o) o.dst v ∧ HOps0 E B Q ops wr σ K l (pput td o.dst v)) Q (sight0 ops wr σ td o)) : HOps0 E B Q ops wr σ K (o :: l) td := by
  obtain ⟨v, hq, hd, v', he, hK⟩ := h
  refine .inr ⟨by unfold runs; rw [hg], v, hq, hd, ?_⟩
  have : pput td o.dst v = pput td o.dst v' := by
    cases hod : o.dst with
    | none => rfl
    | some d =>
      rw [hod] at he
      simp only [St.put, St.mk.injEq, and_true, true_and] at he
      have := congrFun he d
      rw [upd_same, upd_same] at this
      rw [this]
  rw [this]; exact hK
theorem h0_yes {j d : Nat} {want : Bool} (hg : o.guard = some (j, want)) (hd : (ops[j]?).bind (·.dst) = some d) (hn : decide (d < σ.n) = true) (ht : (sight0 ops wr σ td o).t d = .d (.v (.bool want)))
    (h : Step .quiet E B o (fun σ' => ∃ v, σ' = St.put (sight0 ops wr σ td o) o.dst v ∧ HOps0 E B Q ops wr σ K l (pput td o.dst v)) Q (sight0 ops wr σ td o)) : HOps0 E B Q ops wr σ K (o :: l) td := by
  obtain ⟨v, hq, hd', v', he, hK⟩ := h
  refine .inr ⟨by unfold runs; rw [hg]; exact ⟨d, hd, by simpa [sight0] using hn, .inl ⟨want, ht, by simp⟩⟩, v, hq, hd', ?_⟩
  have : pput td o.dst v = pput td o.dst v' := by
    cases hod : o.dst with
    | none => rfl
    | some d =>
      rw [hod] at he
      simp only [St.put, St.mk.injEq, and_true, true_and] at he
      have := congrFun he d
      rw [upd_same, upd_same] at this
      rw [this]
  rw [this]; exact hK
theorem h0_no {j d : Nat} {want : Bool} (hg : o.guard = some (j, want)) (hd : (ops[j]?).bind (·.dst) = some d) (hn : decide (d < σ.n) = true) (ht : (sight0 ops wr σ td o).t d = .d (.v (.bool (!want))))
    (hl : dlt o.dst σ.n = true) (h : HOps0 E B Q ops wr σ K l (pput td o.dst un)) : HOps0 E B Q ops wr σ K (o :: l) td :=
  .inl ⟨by unfold runs; rw [hg]; exact ⟨d, hd, by simpa [sight0] using hn, .inl ⟨!want, ht, by cases want <;> rfl⟩⟩, hl, h⟩
theorem h0_un {j d : Nat} {want : Bool} (hg : o.guard = some (j, want)) (hd : (ops[j]?).bind (·.dst) = some d) (hn : decide (d < σ.n) = true) (ht : (sight0 ops wr σ td o).t d = un)
    (hl : dlt o.dst σ.n = true) (h : HOps0 E B Q ops wr σ K l (pput td o.dst un)) : HOps0 E B Q ops wr σ K (o :: l) td :=
  .inl ⟨by unfold runs; rw [hg]; exact ⟨d, hd, by simpa [sight0] using hn, .inr ⟨ht, rfl⟩⟩, hl, h⟩
theorem h0_nil (h : K td) : HOps0 E B Q ops wr σ K [] td := h

/-- The same, where the head makes objects: the level x is told. -/
theorem hd_go {dS : Option Nat} {K : (Nat → AV) → (Nat → AO) → Nat → Prop} {lv : List Nat} {hc : Nat → AO} {m : Nat} (x : Nat) (hx : lev lv o = x) (hns : notS dS o.dst = true) (hg : o.guard = none)
    (h : Step .quiet E B o (fun σ' => ∃ v, σ' = St.put (sight ops wr σ lv td hc o) o.dst v ∧ HOps dS E B Q ops wr σ K l (lv ++ [x]) (pput td o.dst v) hc m) Q (sight ops wr σ lv td hc o)) : HOps dS E B Q ops wr σ K (o :: l) lv td hc m := by
  subst hx
  obtain ⟨v, hq, hd, v', he, hK⟩ := h
  refine .inr (.inl ⟨hns, by unfold runs; rw [hg], v, hq, hd, ?_⟩)
  have : pput td o.dst v = pput td o.dst v' := by
    cases hod : o.dst with
    | none => rfl
    | some d =>
      rw [hod] at he
      simp only [St.put, St.mk.injEq, and_true, true_and] at he
      have := congrFun he d
      rw [upd_same, upd_same] at this
      rw [this]
  rw [this]; exact hK
theorem hd_new {dS : Option Nat} {K : (Nat → AV) → (Nat → AO) → Nat → Prop} {lv : List Nat} {hc : Nat → AO} {m : Nat} (hx : lev lv o = m) (hns : notS dS o.dst = true) (hg : o.guard = none)
    (h : Step .new E B o (fun σ' => ∃ v ob, σ' = St.put { sight ops wr σ lv td hc o with h := upd (sight ops wr σ lv td hc o).h (sight ops wr σ lv td hc o).nx ob, nx := (sight ops wr σ lv td hc o).nx + 1 } o.dst v ∧
      HOps dS E B Q ops wr σ K l (lv ++ [m + 1]) (pput td o.dst v) (upd hc (σ.nx + m) ob) (m + 1)) Q (sight ops wr σ lv td hc o)) : HOps dS E B Q ops wr σ K (o :: l) lv td hc m := by
  obtain ⟨v, ob, ha, hne, hd, v', ob', he, hK⟩ := h
  have hob : ob = ob' := by
    have := congrArg St.h he
    cases hod : o.dst with
    | none =>
      rw [hod] at this
      have := congrFun this (sight ops wr σ lv td hc o).nx
      simpa [St.put, upd] using this
    | some d =>
      rw [hod] at this
      have := congrFun this (sight ops wr σ lv td hc o).nx
      simpa [St.put, upd] using this
  subst hob
  refine .inr (.inr (.inl ⟨hns, by unfold runs; rw [hg], hx, v, ob, ha, hne, hd, ?_⟩))
  have : pput td o.dst v = pput td o.dst v' := by
    cases hod : o.dst with
    | none => rfl
    | some d =>
      rw [hod] at he
      simp only [St.put, St.mk.injEq, and_true, true_and] at he
      have := congrFun he d
      rw [upd_same, upd_same] at this
      rw [this]
  rw [this]; exact hK
theorem hd_nil {dS : Option Nat} {K : (Nat → AV) → (Nat → AO) → Nat → Prop} {lv : List Nat} {hc : Nat → AO} {m : Nat} (h : K td hc m) : HOps dS E B Q ops wr σ K [] lv td hc m := h
theorem hd_side {dS : Nat} {K : (Nat → AV) → (Nat → AO) → Nat → Prop} {lv : List Nat} {hc : Nat → AO} {m : Nat} (x : Nat) (hx : lev lv o = x) (hg : o.guard = none) {t : TypeId} {z : Value} (hop : o.op = .alloc t) (hz : (E.P.info? t).bind (·.zero) = some z) (hdst : o.dst = some dS) (hd : dlt o.dst σ.n = true)
    (h : HOps (some dS) E B Q ops wr σ K l (lv ++ [x]) (pput td o.dst .any) hc m) : HOps (some dS) E B Q ops wr σ K (o :: l) lv td hc m := by
  subst hx
  exact .inr (.inr (.inr ⟨⟨hg, t, z, dS, hop, hz, hdst, rfl⟩, hd, h⟩))
end
end Go.Proofs.YtdcpnpcmgfmenaaGreatDoor.Lg
/-
  Structs and slices built, rows that grow. Conditions: none.
-/
set_option linter.unusedSimpArgs false
set_option linter.unusedVariables false
namespace Go.Proofs.YtdcpnpcmgfmenaaGreatDoor.Lg
open Go Go.RowKit

theorem splice_cons {α : Type} (xs : List α) (i : Nat) (y : α) (ys : List α) (h : i + (ys.length + 1) ≤ xs.length) : splice (xs.set i y) (i + 1) ys = splice xs i (y :: ys) := by
  apply List.ext_getElem?
  intro m
  rw [splice_get _ _ _ _ (by simp; omega), splice_get _ _ _ _ (by simpa using h)]
  simp only [List.length_cons]
  by_cases h1 : m < i
  · rw [if_pos (by omega), if_pos h1, List.getElem?_set_ne (by omega)]
  · by_cases h2 : m = i
    · subst h2
      rw [if_pos (by omega), if_neg (by omega), if_pos (by omega), List.getElem?_set_self (by omega)]; simp
    · by_cases h3 : m < i + (ys.length + 1)
      · rw [if_neg (by omega), if_pos (by omega), if_neg h1, if_pos h3, show m - i = (m - (i + 1)) + 1 by omega]; simp
      · rw [if_neg (by omega), if_neg (by omega), if_neg h1, if_neg h3, List.getElem?_set_ne (by omega)]

theorem fold_set (off : Nat) : ∀ (vs : List Value) (k : Nat) (cs : Array Value), off + k + vs.length ≤ cs.size →
    ((vs.zipIdx k).foldl (fun cs (p : Value × Nat) => cs.setIfInBounds (off + p.2) p.1) cs).toList = splice cs.toList (off + k) vs
  | [], k, cs, _ => by simp [splice]
  | v :: vs, k, cs, h => by
    simp only [List.zipIdx_cons, List.foldl_cons]
    rw [fold_set off vs (k + 1) _ (by simp at h ⊢; omega)]
    simp only [Array.toList_setIfInBounds]
    rw [show off + (k + 1) = off + k + 1 by omega]
    exact splice_cons _ _ _ _ (by simpa using h)

section
variable {E : Env} {B : Base} {Q : Exit → St → Prop} {σ : St} {o : Oper} {K : St → Prop}

/-! ### Structs -/
def fillA (E : Env) (σ : St) (place : Nat → Option (Nat × Nat)) : List (Nat × Operand) → List AV → Option (List AV)
  | [], cs => some cs
  | (i, x) :: r, cs =>
    match place i, cellsA (ev E σ x) with
    | some (off, sz), some ys => bif Nat.beq ys.length sz && Nat.ble (off + ys.length) cs.length then fillA E σ place r (splice cs off ys) else none
    | _, _ => none

theorem fillA_ok {g : G} {w : World} {a : Act} (hr : Rel E B g σ w a) (place : Nat → Option (Nat × Nat)) : ∀ (parts : List (Nat × Operand)) (cs : List AV) (xs : Array Value) (res : List AV), fillA E σ place parts cs = some res →
    xs.size = cs.length → (∀ (i : Nat) c x, cs[i]? = some c → xs[i]? = some x → VR w g σ.nx c x) →
    ∃ ys, Instr.fill place xs (parts.map fun p => (p.1, a.eval p.2)) = some ys ∧ ys.size = res.length ∧ ∀ (i : Nat) c x, res[i]? = some c → ys[i]? = some x → VR w g σ.nx c x
  | [], cs, xs, res, h, hs, hv => by
    simp only [fillA, Option.some.injEq] at h; subst h
    exact ⟨xs, rfl, hs, hv⟩
  | (i, x) :: r, cs, xs, res, h, hs, hv => by
    simp only [fillA] at h
    cases hp : place i with
    | none => rw [hp] at h; cases h
    | some q =>
      obtain ⟨off, sz⟩ := q
      cases hc : cellsA (ev E σ x) with
      | none => rw [hp, hc] at h; cases h
      | some ys =>
        rw [hp, hc] at h
        simp only at h
        cases hb : (Nat.beq ys.length sz && Nat.ble (off + ys.length) cs.length) with
        | false => rw [hb] at h; cases h
        | true =>
          rw [hb, cond_true] at h
          simp only [Bool.and_eq_true] at hb
          obtain rfl : ys.length = sz := Nat.eq_of_beq_eq_true hb.1
          have hle : off + ys.length ≤ cs.length := Nat.le_of_ble_eq_true hb.2
          obtain ⟨h1, h2⟩ := cellsA_ok hc (ev_ok hr x)
          have hfold : ((a.eval x).cells.zipIdx.foldl (fun cs (p : Value × Nat) => cs.setIfInBounds (off + p.2) p.1) xs).toList = splice xs.toList off (a.eval x).cells.toList := by
            have := fold_set off (a.eval x).cells.toList 0 xs (by simp [h1, hs]; omega)
            rw [Nat.add_zero] at this
            rw [← this, ← Array.foldl_toList]; simp
          have hlen : (splice xs.toList off (a.eval x).cells.toList).length = xs.toList.length := splice_length _ _ _ (by simp [h1, hs]; omega)
          obtain ⟨zs, z1, z2, z3⟩ := fillA_ok hr place r _ ((a.eval x).cells.zipIdx.foldl (fun cs (p : Value × Nat) => cs.setIfInBounds (off + p.2) p.1) xs) res h (by
            rw [← Array.length_toList, hfold, hlen, splice_length _ _ _ (by omega)]; simp [hs]) (fun m c v hm hmv => by
            refine rel_splice (R := VR w g σ.nx) (cs := cs) (ys := ys) (xs := xs.toList) (vs := (a.eval x).cells.toList) (i := off) hle (by simp [hs]) (by simp [h1]) ?_ ?_ m c v hm (by rw [← Array.getElem?_toList, hfold] at hmv; exact hmv)
            · intro m c x hc hx; exact hv m c x hc (by simpa using hx)
            · intro m c x hc hx; exact h2 m c x hc (by simpa using hx))
          refine ⟨zs, ?_, z2, z3⟩
          simp only [List.map_cons, Instr.fill, hp]
          rw [if_neg (by simp [h1, hs]; omega)]
          exact z1

theorem places_ok (fs : List Field) (places : List (Nat × Nat)) (h : fs.mapM (fun f => (E.ti f.type).map fun i => (f.offset, i.size)) = some places) : fs.mapM (fun f => (E.P.info? f.type).map fun i => (f.offset, i.size)) = some places := by
  induction fs generalizing places with
  | nil => simpa using h
  | cons f fs ih =>
    simp only [List.mapM_cons, Option.bind_eq_bind, Option.pure_def, Option.bind_eq_some_iff, Option.map_eq_some_iff] at h ⊢
    obtain ⟨p, ⟨i, hi, rfl⟩, r, hr, h⟩ := h
    obtain ⟨f', h1, h2, _⟩ := (E.ok f.type i hi).2
    exact ⟨_, ⟨f', h1, by rw [h2]⟩, r, ih r hr, h⟩

theorem so_build {q : Md} [Qt q] {v : AV} {t : TypeId} {parts : Array (Nat × Operand)} (ho : o.op = .build t parts) {i : TI} (hi : E.ti t = some i) {fs : Array Field} (ht : i.desc = .struct fs)
    {places : List (Nat × Nat)} (hp : fs.toList.mapM (fun f => (E.ti f.type).map fun i => (f.offset, i.size)) = some places) {cs : List AV} (hc : fillA E σ (places.toArray[·]?) parts.toList (zcells i.zero) = some cs)
    (hd : dlt o.dst σ.n = true) (hv : mkAgg cs = v) (hK : K (σ.put o.dst v)) : Step q E B o K Q σ := by
  subst hv
  refine step_val _ (fun B g w a hr => ?_) hd hK
  obtain ⟨z1, z2⟩ := zcells_ok i.zero w g σ.nx
  obtain ⟨ys, y1, y2, y3⟩ := fillA_ok hr _ _ _ _ _ hc z1 z2
  refine ⟨.agg ys, ?_, vr_mkAgg y2 y3⟩
  obtain ⟨hu, f, hf1, hf2, hf3, hf4⟩ := E.ok t i hi
  simp only [execOp, ho]
  refine run_v (run_build w t _ ys ?_)
  unfold Program.built
  rw [hf1, hu, ht]
  simp only [hf4, places_ok _ _ hp]
  rw [← y1]; simp

/-! ### A row that grows -/
theorem run_app {P : Program} (w : World) (t ty e : TypeId) (i : TypeInfo) (z : Value) (ht : P.underlying t = some (.slice e)) (hi : P.info? e = some i) (hz : i.zero = some z)
    (hzs : z.cells.size = i.size) (hsz : 0 < i.size) (v : Value) (n : Nat) (xs : List Value) (hown : w.ownsRow 0 e i.size v n xs)
    (a : Option Addr) (m c : Nat) (news : List Value) (hl : news.length = m * i.size) (ha : 0 < m → ∃ ad, a = some ad ∧ ∀ j u, news[j]? = some u → w.cell? (ad.add j) = some u) (h1 : ∀ u ∈ news, u.oneCell' = true)
    (h63 : n + m ≤ maxLen) (hbytes : (n + m) * i.bytes ≤ 140737488355328) :
    ∃ v' w', (Builtin.append_ #[t, t] ty #[v, .slice a m c]).run P w = .ok v' w' ∧ w'.ownsRow 0 e i.size v' (n + m) (xs ++ news) ∧ w.grownBy w' v.ownBlock ∧
      (v'.ownBlock = v.ownBlock ∨ ∃ b, v'.ownBlock = some b ∧ w.heap.size ≤ b) := by
  by_cases hm : m = 0
  · subst hm
    have hn : news = [] := List.eq_nil_of_length_eq_zero (by simpa using hl)
    subst hn
    refine ⟨v, w, ?_, by simpa using hown, ⟨rfl, rfl, rfl, Nat.le_refl _, fun _ _ _ => rfl⟩, .inl rfl⟩
    rcases hown.2 with ⟨rfl, rfl⟩ | ⟨g, cap, cur, rfl, _, _, hnc, _⟩
    · cases a <;> simp [Builtin.append_, run_underlying ht, sizeOf, typeInfo, hi, Builtin.lenOf, Builtin.firstCells, loadCells, loadCellsFrom]
    · cases a <;> simp [Builtin.append_, run_underlying ht, sizeOf, typeInfo, hi, Builtin.lenOf, Builtin.firstCells, loadCells, loadCellsFrom, hnc, storeCells]
  · obtain ⟨ad, rfl, hnews⟩ := ha (by omega)
    have hsmall : n + m ≤ 9223372036854775807 := by simp only [maxLen] at h63; omega
    have hlen : (xs ++ news).length = (n + m) * i.size := by rw [List.length_append, hown.1, hl, Nat.add_mul]
    have grown : ∀ (old : Nat), old < n + m → ∀ (row : Option Nat),
        (w.drew.alloc (.cells (xs.toArray ++ news.toArray ++ Builtin.zeroCells z.cells (grownCap w (n + m) old e - (n + m))) e)).ownsRow 0 e i.size
          (.slice (some ⟨w.heap.size, 0, none⟩) (n + m) (grownCap w (n + m) old e)) (n + m) (xs ++ news) ∧
        w.grownBy (w.drew.alloc (.cells (xs.toArray ++ news.toArray ++ Builtin.zeroCells z.cells (grownCap w (n + m) old e - (n + m))) e)) row := by
      intro old ho row
      have hge := grownCap_ge w (n + m) old e
      refine ⟨⟨hlen, .inr ⟨w.heap.size, _, _, rfl, Nat.zero_le _, Go.heap_alloc_new w.drew _, hge, grownCap_le_maxLen w (n + m) old e h63, ?_, ?_⟩⟩, ⟨rfl, rfl, rfl, by simp, fun k hk _ => heap_alloc_lt w.drew _ hk⟩⟩
      · simp only [Array.size_append, List.size_toArray, size_zeroCells, hzs, hown.1, hl, ← Nat.add_mul]
        congr 1; omega
      · simp only [Array.toList_append, List.append_assoc]
        rw [← List.append_assoc, ← hlen]
        exact List.take_left
    rcases hown.2 with ⟨rfl, rfl⟩ | ⟨g, cap, cur, rfl, hbg, hg, hnc, hcm, hcs, htake⟩
    · have hx : xs = [] := List.eq_nil_of_length_eq_zero (by simpa using hown.1)
      subst hx
      have hr := run_append_nil (P := P) w t ty e i z ht hi hz ad m c news hl hnews (by omega) (by omega) (by have hb := hbytes; simp only [Nat.zero_add] at hb; omega)
      have hgr := grown 0 (by omega) (Value.ownBlock (.slice none 0 0))
      simp only [Nat.zero_add, List.nil_append, Array.empty_append] at hgr ⊢
      exact ⟨_, _, hr, hgr.1, hgr.2, .inr ⟨_, rfl, Nat.le_refl _⟩⟩
    · by_cases hroom : n + m ≤ cap
      · have hfit : n * i.size + news.length ≤ cur.size := by rw [hl, hcs, ← Nat.add_mul]; exact Nat.mul_le_mul_right _ hroom
        have hr := run_append_room (P := P) w t ty e i ht hi g n cap cur hg ad m c news hl hnews h1 hroom hfit
        refine ⟨_, _, hr, ⟨hlen, .inr ⟨g, cap, _, rfl, Nat.zero_le _, setRow_heap w g cur _ e _ hg, hroom, hcm, ?_, ?_⟩⟩, ⟨rfl, rfl, rfl, by simp, fun k _ hk => setRow_other w g k _ (fun e => hk (by simp [Value.ownBlock, e]))⟩, .inl rfl⟩
        · simp only [List.size_toArray, List.length_append, List.length_take, List.length_drop, Array.length_toList]; omega
        · rw [htake, ← hlen]; exact List.take_left
      · have holds : ∀ j u, xs[j]? = some u → w.cell? ((⟨g, 0, none⟩ : Addr).add j) = some u := hown.cells (g := g) rfl
        have hr := run_append_grow (P := P) w t ty e i z ht hi hz ⟨g, 0, none⟩ n cap xs hown.1 holds ad m c news hl hnews (by omega) (by omega) (growslice_fits (by omega) hbytes)
        have hgr := grown cap (by omega) (Value.ownBlock (.slice (some ⟨g, 0, none⟩) n cap))
        exact ⟨_, _, hr, hgr.1, hgr.2, .inr ⟨_, rfl, Nat.le_refl _⟩⟩

/-- The rows that a slice reads as. -/
def rowsOf (h : Nat → AO) : AV → Option (List (List AV))
  | .d (.v (.slice none 0 0)) => some []
  | .d (.sl _ es) => some (es.map (·.map .d))
  | .own l k sz off n => match h l with
    | .arr k' _ sz' es => bif Nat.beq k k' && Nat.beq sz sz' && Nat.ble (off + n) es.length then some ((es.drop off).take n) else none
    | _ => none
  | _ => none

theorem drop_flatten {α : Type} {n : Nat} {es : List (List α)} (h : ∀ r ∈ es, r.length = n) {off m : Nat} (hm : off + m ≤ es.length) {i : Nat} {c : α} (hc : ((es.drop off).take m).flatten[i]? = some c) : es.flatten[off * n + i]? = some c := by
  have h4 : es.flatten = (es.take off).flatten ++ ((es.drop off).take m).flatten ++ ((es.drop off).drop m).flatten := by
    rw [← List.flatten_append, ← List.flatten_append, List.append_assoc, List.take_append_drop, List.take_append_drop]
  have h5 : (es.take off).flatten.length = off * n := by
    rw [flat_length (n := n) (fun r hr' => h r (List.mem_of_mem_take hr')), List.length_take, Nat.min_eq_left (by omega)]
  rw [h4, List.append_assoc, List.getElem?_append_right (by omega), h5, show off * n + i - off * n = i by omega, List.getElem?_append_left (List.getElem?_eq_some_iff.1 hc).1]
  exact hc

theorem rows_ok {g : G} {w : World} {a : Act} (hr : Rel E B g σ w a) {v : AV} {x : Value} {rows : List (List AV)} (h : rowsOf σ.h v = some rows) (hx : VR w g σ.nx v x) :
    ∃ a c, x = .slice a rows.length c ∧ (rows.length = 0 ∨ ∃ b off, a = some ⟨b, off, none⟩ ∧ ∃ f : Nat → Value, ∀ (i : Nat) c, rows.flatten[i]? = some c → w.cell? ⟨b, off + i, none⟩ = some (f i) ∧ VR w g σ.nx c (f i)) := by
  cases hx with
  | d c x hd =>
    cases hd with
    | v x =>
      have : x = .slice none 0 0 ∧ rows = [] := by
        unfold rowsOf at h
        split at h <;> simp_all
      obtain ⟨rfl, rfl⟩ := this
      exact ⟨_, _, rfl, .inl rfl⟩
    | agg => simp [rowsOf] at h
    | map => simp [rowsOf] at h
    | nil s a n => simp [rowsOf] at h; subst h; exact ⟨_, _, rfl, .inl rfl⟩
    | sl s es b off n f h1 h2 h3 h4 h5 =>
      simp [rowsOf] at h; subst h
      refine ⟨_, _, by rw [List.length_map], .inr ⟨b, off, rfl, f, fun i c hc => ?_⟩⟩
      rw [← List.map_flatten, List.getElem?_map, Option.map_eq_some_iff] at hc
      obtain ⟨d, hd, rfl⟩ := hc
      exact ⟨h4 i d hd, .d _ _ (h5 i d hd)⟩
  | own l k sz off n x g0 g1 g2 g3 =>
    simp only [rowsOf] at h
    cases ho : σ.h l with
    | arr k' e sz' es =>
      rw [ho] at h
      simp only at h
      cases hb : (Nat.beq k k' && Nat.beq sz sz' && Nat.ble (off + n) es.length) with
      | false => rw [hb] at h; cases h
      | true =>
        rw [hb, cond_true, Option.some.injEq] at h
        subst h
        simp only [Bool.and_eq_true] at hb
        obtain ⟨⟨hk, hsz⟩, hle⟩ := hb
        obtain rfl : k = k' := Nat.eq_of_beq_eq_true hk
        obtain rfl : sz = sz' := Nat.eq_of_beq_eq_true hsz
        have hle : off + n ≤ es.length := Nat.le_of_ble_eq_true hle
        have hor := hr.hr.hp l g1
        rw [ho] at hor
        obtain ⟨f1, f2, f3, f4, xs, f5, f6⟩ := hor
        have hown := g3 f1
        have hn : ((es.drop off).take n).length = n := by simp; omega
        rw [hn]
        by_cases hn0 : n = 0
        · subst hn0
          unfold OwnV at hown
          split at hown
          · exact ⟨_, _, hown, .inl rfl⟩
          · obtain ⟨b, c, h1, _⟩ := hown; exact ⟨b, c, h1, .inl rfl⟩
        · have hvt : g.vt l = false := by
            cases hv : g.vt l with
            | false => rfl
            | true => obtain ⟨h, _⟩ := f4 hv; subst h; simp at hle; omega
          obtain ⟨a1, a2, a3, cur, a4, a5, a6⟩ := owns_block hvt f5
          have : ∃ c, x = .slice (some ⟨g.ρ l, off * sz, none⟩) n c := by
            unfold OwnV at hown
            split at hown
            · rename_i h; subst h; exact ⟨g.cap l, by simp [hown, handle, hvt]⟩
            · obtain ⟨b, c, h, _, h'⟩ := hown; exact ⟨c, by rw [h, h' (by omega)]⟩
          obtain ⟨c, rfl⟩ := this
          refine ⟨_, _, rfl, .inr ⟨g.ρ l, off * sz, rfl, fun i => xs.getD (off * sz + i) undef, fun i c hc => ?_⟩⟩
          have hfl := drop_flatten f3 hle hc
          have hlt : off * sz + i < xs.length := by rw [a1, ← flat_length f3]; exact (List.getElem?_eq_some_iff.1 hfl).1
          have hx : xs[off * sz + i]? = some (xs.getD (off * sz + i) undef) := by simp [List.getD, hlt]
          refine ⟨?_, f6 _ _ _ hfl hx⟩
          have hcu : cur[off * sz + i]? = some (xs.getD (off * sz + i) undef) := by
            rw [← hx, ← a6, List.getElem?_take_of_lt (by rw [← a1]; exact hlt), Array.getElem?_toList]
          simp only [World.cell?, a4, Option.isSome_none, Bool.false_eq_true, if_false]
          exact hcu
    | _ => rw [ho] at h; cases h
  | _ => simp [rowsOf] at h

def G.re (g : G) (l b k c : Nat) (v : Bool) : G := { g with ρ := upd g.ρ l b, κ := upd g.κ l k, cap := upd g.cap l c, vt := upd g.vt l v }

/-- A row of ours has grown, and may have moved. -/
theorem rel_regrow {g : G} {w w' : World} {a : Act} (hr : Rel E B g σ w a) {l k e sz : Nat} {es rows : List (List AV)} (hl : l < σ.nx) (ho : σ.h l = .arr k e sz es) {v' : Value} {xs' : List Value}
    (hgrow : w.grownBy w' (handle g l es.length).ownBlock) (hown : w'.ownsRow 0 e sz v' rows.length xs') (hplace : v'.ownBlock = (handle g l es.length).ownBlock ∨ ∃ b, v'.ownBlock = some b ∧ w.heap.size ≤ b)
    (hlen : ∀ r ∈ rows, r.length = sz) (hmax : rows.length ≤ maxLen) (hvals : ∀ (i : Nat) c x, rows.flatten[i]? = some c → xs'[i]? = some x → VR w g σ.nx c x) :
    ∃ g', Rel E B g' { σ with h := upd σ.h l (.arr (k + 1) e sz rows) } w' a ∧ VR w' g' σ.nx (.own l (k + 1) sz 0 rows.length) v' := by
  have hor := hr.hr.hp l hl
  rw [ho] at hor
  obtain ⟨f1, f2, f3, f4, xs, f5, f6⟩ := hor
  obtain ⟨b', c', vt', hv'⟩ : ∃ b' c' vt', v' = (if vt' = true then Value.slice none rows.length 0 else .slice (some ⟨b', 0, none⟩) rows.length c') ∧ (vt' = true → rows.length = 0) := by
    rcases hown.2 with ⟨h1, h2⟩ | ⟨b, c, cur, h1, _⟩
    · exact ⟨0, 0, true, by rw [h1, h2]; rfl, fun _ => h2⟩
    · exact ⟨b, c, false, by rw [h1]; rfl, fun h => by cases h⟩
  obtain ⟨hv', hnil⟩ := hv'
  have hh : (handle g l es.length).ownBlock = if g.vt l = true then none else some (g.ρ l) := by
    unfold handle
    cases g.vt l <;> rfl
  -- the row's own block, if it has one, is one of ours
  have hownl : ∀ b, some b = (handle g l es.length).ownBlock → Owned g σ.nx σ.h b := fun b hb => by
    rw [hh] at hb
    cases hvt : g.vt l with
    | true => rw [hvt] at hb; cases hb
    | false =>
      rw [hvt] at hb
      simp at hb
      exact ⟨l, hl, by rw [ho]; simp, hvt, hb.symm⟩
  have hJ : ∀ b, g.J b → w'.heap[b]? = w.heap[b]? := fun b hb => hgrow.block b (hr.hr.Jlt b hb) (fun e => hr.hr.dis b hb (hownl b e))
  have hg : GLe g σ.nx (g.re l b' (k + 1) (if vt' = true then 0 else c') vt') := by
    refine ⟨fun _ h => h, fun _ h => h, fun l' hl' => ?_, fun l' hl' he => ?_⟩
    · by_cases e : l' = l
      · subst e; simp [G.re, upd, f1]
      · simp [G.re, upd, e]
    · by_cases e : l' = l
      · subst e; simp [G.re, upd, f1] at he
      · simp [G.re, upd, e]
  have hnew : vt' = false → v'.ownBlock = some b' := fun h => by rw [hv', h]; rfl
  have hcase : vt' = false → (g.vt l = false ∧ b' = g.ρ l) ∨ w.heap.size ≤ b' := fun h => by
    rcases hplace with hp | ⟨b, hp, hb⟩
    · rw [hnew h, hh] at hp
      cases hvt : g.vt l with
      | true => rw [hvt] at hp; cases hp
      | false => rw [hvt] at hp; simp at hp; exact .inl ⟨rfl, hp⟩
    · rw [hnew h] at hp; cases hp; exact .inr hb
  have hold : ∀ b, Owned (g.re l b' (k + 1) (if vt' = true then 0 else c') vt') σ.nx (upd σ.h l (.arr (k + 1) e sz rows)) b → Owned g σ.nx σ.h b ∨ w.heap.size ≤ b := by
    rintro b ⟨l', hl', hd, hv, hb⟩
    by_cases e : l' = l
    · subst e
      have hvf : vt' = false := by simpa [G.re, upd] using hv
      have hbe : b' = b := by simpa [G.re, upd] using hb
      subst hbe
      rcases hcase hvf with ⟨h1, h2⟩ | h
      · left; exact ⟨l', hl', by rw [ho]; simp, h1, h2.symm⟩
      · exact .inr h
    · left; exact ⟨l', hl', by simpa [upd, e] using hd, by simpa [G.re, upd, e] using hv, by simpa [G.re, upd, e] using hb⟩
  have hhand : handle (g.re l b' (k + 1) (if vt' = true then 0 else c') vt') l rows.length = v' := by
    rw [hv']
    unfold handle
    cases vt' <;> simp [G.re, upd]
  refine ⟨g.re l b' (k + 1) (if vt' = true then 0 else c') vt', ⟨hr.size, tm_mono (σ := σ) hr hg (Nat.le_refl _) hJ, ⟨fun l' hl' => ?_, fun l' hl' => ?_, fun l1 l2 h1 h2 hd1 hd2 hv1 hv2 he => ?_, fun b hb => ?_, hr.hr.IJ, fun b hb h => ?_, gl_mono hr.hr (fun _ h => h) (fun _ h => h) hJ⟩, ?_, hr.df⟩, ?_⟩
  · by_cases e' : l' = l
    · subst e'
      simp only [upd, if_true]
      refine ⟨by simp [G.re, upd], hmax, hlen, fun hv => ?_, xs', by rw [hhand]; exact hown, fun i c x hc hx => (hvals i c x hc hx).mono hg (Nat.le_refl _) hJ⟩
      have : vt' = true := by simpa [G.re, upd] using hv
      exact ⟨List.eq_nil_of_length_eq_zero (hnil this), by simp [G.re, upd, this]⟩
    · simp only [upd, e', if_false]
      refine (hr.hr.hp l' hl').mono hg (Nat.le_refl _) hJ hl' (by simp [G.re, upd, e']) (fun hd hv => hgrow.block _ (Owned.lt hr.hr ⟨l', hl', hd, hv, rfl⟩) (fun e => e' ?_))
      rw [hh] at e
      cases hvt : g.vt l with
      | true => rw [hvt] at e; cases e
      | false =>
        rw [hvt] at e
        simp at e
        exact hr.hr.inj l' l hl' hl hd (by rw [ho]; simp) hv hvt e
  · simp only [upd]
    rw [if_neg (by simp at hl'; omega)]; exact hr.hr.hd l' hl'
  · simp only at h1 h2
    have lt : ∀ l', l' < σ.nx → l' ≠ l → upd σ.h l (.arr (k + 1) e sz rows) l' ≠ .dead → (g.re l b' (k + 1) (if vt' = true then 0 else c') vt').vt l' = false → g.ρ l' ≠ b' ∨ vt' = true := by
      intro l' hl' hne hd hv
      cases hvf : vt' with
      | true => exact .inr rfl
      | false =>
        left
        have hd' : σ.h l' ≠ .dead := by simpa [upd, hne] using hd
        have hv' : g.vt l' = false := by simpa [G.re, upd, hne] using hv
        rcases hcase hvf with ⟨h3, h4⟩ | h3
        · rw [h4]; exact fun h => hne (hr.hr.inj l' l hl' hl hd' (by rw [ho]; simp) hv' h3 h)
        · have := Owned.lt hr.hr ⟨l', hl', hd', hv', rfl⟩; omega
    by_cases e1 : l1 = l
    · by_cases e2 : l2 = l
      · rw [e1, e2]
      · exfalso
        have hvf : vt' = false := by subst e1; simpa [G.re, upd] using hv1
        rcases lt l2 h2 e2 hd2 hv2 with h | h
        · subst e1; simp [G.re, upd, e2] at he; exact h he.symm
        · rw [hvf] at h; cases h
    · by_cases e2 : l2 = l
      · exfalso
        have hvf : vt' = false := by subst e2; simpa [G.re, upd] using hv2
        rcases lt l1 h1 e1 hd1 hv1 with h | h
        · subst e2; simp [G.re, upd, e1] at he; exact h he
        · rw [hvf] at h; cases h
      · exact hr.hr.inj l1 l2 h1 h2 (by simpa [upd, e1] using hd1) (by simpa [upd, e2] using hd2) (by simpa [G.re, upd, e1] using hv1) (by simpa [G.re, upd, e2] using hv2) (by simpa [G.re, upd, e1, e2] using he)
  · have := hr.hr.Jlt b hb; have := hgrow.size; omega
  · rcases hold b h with h | h
    · exact hr.hr.dis b hb h
    · have := hr.hr.Jlt b hb; omega
  · have hx := hr.ext
    refine ⟨hgrow.os.trans hx.os, hgrow.tape.trans hx.tape, hgrow.output.trans hx.output, by have := hx.size; have := hgrow.size; omega, fun b hb hn => ?_, hx.gle.trans hx.nle hg, hx.nle, hx.inew, fun b hb => ?_⟩
    · rw [hgrow.block b (by have := hx.size; omega) (fun e => ?_)]
      · exact hx.block b hb hn
      · rcases hx.own b (hownl b e) with h | h
        · exact hn h
        · omega
    · rcases hold b hb with h | h
      · exact hx.own b h
      · have := hx.size; right; omega
  · refine .own _ _ _ _ _ _ ?_ hl (by simp [G.re, upd]) (fun _ => ?_)
    · rw [hv']; cases vt' <;> rfl
    · unfold OwnV; rw [if_pos rfl]; exact hhand.symm

theorem take_flatten {α : Type} {n : Nat} : ∀ {es : List (List α)}, (∀ r ∈ es, r.length = n) → ∀ m, (es.take m).flatten = es.flatten.take (m * n)
  | es, _, 0 => by simp
  | [], _, m + 1 => by simp
  | r :: es, h, m + 1 => by
    have h0 := h r (by simp)
    rw [List.take_succ_cons, List.flatten_cons, List.flatten_cons, take_flatten (fun r hr => h r (by simp [hr])) m, List.take_append, h0, Nat.add_mul, Nat.one_mul, List.take_of_length_le (l := r) (by rw [h0]; omega), Nat.add_sub_cancel]
theorem own_handle (g : G) (l m n : Nat) : (handle g l m).ownBlock = (handle g l n).ownBlock := by
  unfold handle
  cases g.vt l <;> rfl
theorem owns_take {w : World} {g : G} {l e sz m n : Nat} {xs : List Value} (h : w.ownsRow 0 e sz (handle g l m) m xs) (hn : n ≤ m) (hv : g.vt l = true → m = 0) : w.ownsRow 0 e sz (handle g l n) n (xs.take (n * sz)) := by
  cases hvt : g.vt l with
  | true =>
    have := hv hvt
    subst this
    obtain rfl : n = 0 := by omega
    refine ⟨by simp, ?_⟩
    have hx : xs = [] := List.eq_nil_of_length_eq_zero (by simpa using h.1)
    subst hx
    rcases h.2 with h | h
    · exact .inl h
    · exact .inr (by simpa using h)
  | false =>
    obtain ⟨a1, a2, a3, cur, a4, a5, a6⟩ := owns_block hvt h
    have hle : n * sz ≤ m * sz := Nat.mul_le_mul_right _ hn
    refine ⟨by rw [List.length_take, a1]; exact Nat.min_eq_left hle, .inr ⟨g.ρ l, g.cap l, cur, by simp [handle, hvt], Nat.zero_le _, a4, by omega, a3, a5, ?_⟩⟩
    rw [← a6, List.take_take, Nat.min_eq_left hle]

theorem so_appendCut {x y : Operand} {t : TypeId} (ho : o.op = .call { callee := .builtin .append, args := #[x, y], argTypes := #[t, t] }) {i : TI} (hi : E.ti t = some i) {e : TypeId} (ht : i.desc = .slice e) {j : TI} (hj : E.ti e = some j)
    (hz : Nat.beq j.zero.cells.size j.size = true) (hsz : Nat.blt 0 j.size = true) {l k n : Nat} (hx : ev E σ x = .own l k j.size 0 n) {es : List (List AV)} (hl : σ.h l = .arr k e j.size es) (hn : n ≤ es.length)
    {news : List (List AV)} (hy : rowsOf σ.h (ev E σ y) = some news) (hd : dlt o.dst σ.n = true) (hrow : ∀ r ∈ news, r.length = j.size ∧ r.all cellOk = true) (hb : (n + news.length) * j.bytes ≤ 140737488355328) (h63 : n + news.length ≤ 9223372036854775807)
    (hK : K (St.put { σ with h := upd σ.h l (.arr (k + 1) e j.size (es.take n ++ news)) } o.dst (.own l (k + 1) j.size 0 (es.take n ++ news).length))) : Step .all E B o K Q σ := by
  refine step_obj _ _ _ (fun g w a hr => ?_) hd hK
  have hz : j.zero.cells.size = j.size := Nat.eq_of_beq_eq_true hz
  have hsz : 0 < j.size := Nat.le_of_ble_eq_true hsz
  obtain ⟨hu, _⟩ := E.ok t i hi
  obtain ⟨_, f, hf1, hf2, hf3, hf4⟩ := E.ok e j hj
  have hx' := ev_ok hr x
  rw [hx] at hx'
  have hy' := ev_ok hr y
  obtain ⟨ad, c, hye, hcells⟩ := rows_ok hr hy hy'
  generalize hax : a.eval x = ax at hx'
  cases hx' with
  | own _ _ _ _ _ _ g0 g1 g2 g3 =>
    have hor := hr.hr.hp l g1
    rw [hl] at hor
    obtain ⟨f1, f2, f3, f4, xs, f5, f6⟩ := hor
    have hown := g3 f1
    unfold OwnV at hown
    rw [if_pos rfl] at hown
    subst hown
    have hfl : news.flatten.length = news.length * j.size := flat_length (fun r hr => (hrow r hr).1)
    have hval : ∃ vals : List Value, vals.length = news.length * j.size ∧ (0 < news.length → ∃ b : Addr, ad = some b ∧ ∀ m u, vals[m]? = some u → w.cell? (b.add m) = some u) ∧ ∀ (m : Nat) c u, news.flatten[m]? = some c → vals[m]? = some u → VR w g σ.nx c u := by
      rcases hcells with h0 | ⟨b, off, rfl, fv, hf⟩
      · exact ⟨[], by simp [h0], fun h => by omega, fun m c u _ hu => by simp at hu⟩
      · refine ⟨(List.range (news.length * j.size)).map fv, by simp, fun _ => ⟨_, rfl, fun m u hu => ?_⟩, fun m c u hc hu => ?_⟩
        · simp only [List.getElem?_map, Option.map_eq_some_iff] at hu
          obtain ⟨m', hm, rfl⟩ := hu
          have hm1 := (List.getElem?_eq_some_iff.1 hm)
          obtain ⟨hm2, hm3⟩ := hm1
          simp at hm2 hm3
          subst hm3
          rw [add_mk]
          exact (hf m _ (List.getElem?_eq_getElem (by rw [hfl]; exact hm2))).1
        · have hm : m < news.length * j.size := by rw [← hfl]; exact (List.getElem?_eq_some_iff.1 hc).1
          have : u = fv m := by simp [hm] at hu; exact hu.symm
          rw [this]; exact (hf m c hc).2
    obtain ⟨vals, hv1, hv2, hv3⟩ := hval
    have h1 : ∀ u ∈ vals, u.oneCell' = true := fun u hu => by
      obtain ⟨m, hm, rfl⟩ := List.mem_iff_getElem.1 hu
      have hm' : m < news.flatten.length := by rw [hfl, ← hv1]; exact hm
      refine cellOk_ok (hv3 m news.flatten[m] _ (List.getElem?_eq_getElem hm') (List.getElem?_eq_getElem hm)) ?_
      obtain ⟨r, hr1, hr2⟩ := List.mem_flatten.1 (List.getElem_mem hm')
      exact List.all_eq_true.1 (hrow r hr1).2 _ hr2
    obtain ⟨v', w', r1, r2, r3, r4⟩ := run_app w t o.type e f j.zero (by rw [hu, ht]) hf1 hf4 (by rw [hf2]; exact hz) (by rw [hf2]; exact hsz) _ _ _ (by rw [hf2]; exact owns_take f5 hn (fun h => by have := (f4 h).1; simp [this])) ad news.length c vals (by rw [hf2]; exact hv1) hv2 h1 h63 (by rw [hf3]; exact hb)
    rw [hf2] at r2
    obtain ⟨g', q1, q2⟩ := rel_regrow hr g1 hl (by rw [own_handle g l es.length n]; exact r3) (rows := es.take n ++ news) (by rw [List.length_append, List.length_take, Nat.min_eq_left hn]; exact r2) (by rw [own_handle g l es.length n]; exact r4) (fun r hr => by
      rcases List.mem_append.1 hr with h | h
      · exact f3 r (List.mem_of_mem_take h)
      · exact (hrow r h).1) (by rw [List.length_append, List.length_take, Nat.min_eq_left hn]; exact h63) (fun m c u hc hu => by
      rw [List.flatten_append] at hc
      have hte : (es.take n).flatten = es.flatten.take (n * j.size) := take_flatten f3 n
      have htl : (es.take n).flatten.length = n * j.size := by rw [flat_length (fun r hr => f3 r (List.mem_of_mem_take hr)), List.length_take, Nat.min_eq_left hn]
      have hxl : (xs.take (n * j.size)).length = (es.take n).flatten.length := by rw [htl, List.length_take, f5.1]; exact Nat.min_eq_left (Nat.mul_le_mul_right _ hn)
      by_cases hm : m < (es.take n).flatten.length
      · rw [List.getElem?_append_left hm] at hc
        rw [List.getElem?_append_left (by omega)] at hu
        rw [hte, List.getElem?_take_of_lt (by omega)] at hc
        rw [List.getElem?_take_of_lt (by omega)] at hu
        exact f6 m c u hc hu
      · rw [List.getElem?_append_right (by omega)] at hc
        rw [List.getElem?_append_right (by omega), hxl] at hu
        exact hv3 _ c u hc hu)
    refine ⟨v', w', g', ?_, q1, q2⟩
    rw [exec_builtin ho]
    simp only [builtin]
    refine run_v ?_
    have hm : (#[x, y].map a.eval) = #[handle g l n, .slice ad news.length c] := by simp [hax, hye]
    rw [hm]; exact r1

theorem so_append {x y : Operand} {t : TypeId} (ho : o.op = .call { callee := .builtin .append, args := #[x, y], argTypes := #[t, t] }) {i : TI} (hi : E.ti t = some i) {e : TypeId} (ht : i.desc = .slice e) {j : TI} (hj : E.ti e = some j)
    (hz : Nat.beq j.zero.cells.size j.size = true) (hsz : Nat.blt 0 j.size = true) {l k n : Nat} (hx : ev E σ x = .own l k j.size 0 n) {es : List (List AV)} (hl : σ.h l = .arr k e j.size es)
    {news : List (List AV)} (hy : rowsOf σ.h (ev E σ y) = some news) (hd : dlt o.dst σ.n = true) (hn : n = es.length) (hrow : ∀ r ∈ news, r.length = j.size ∧ r.all cellOk = true) (hb : (es.length + news.length) * j.bytes ≤ 140737488355328) (h63 : es.length + news.length ≤ 9223372036854775807)
    (hK : K (St.put { σ with h := upd σ.h l (.arr (k + 1) e j.size (es ++ news)) } o.dst (.own l (k + 1) j.size 0 (es ++ news).length))) : Step .all E B o K Q σ := by
  subst hn
  exact so_appendCut ho hi ht hj hz hsz hx hl (Nat.le_refl _) hy hd hrow hb h63 (by rw [List.take_length]; exact hK)
end
end Go.Proofs.YtdcpnpcmgfmenaaGreatDoor.Lg
/-
  Slices built and cut, texts, comparisons. Conditions: none.
-/
set_option linter.unusedSimpArgs false
set_option linter.unusedVariables false
namespace Go.Proofs.YtdcpnpcmgfmenaaGreatDoor.Lg
open Go Go.RowKit

def chunks (sz len : Nat) (cs : List AV) : List (List AV) := (List.range len).map fun i => (cs.drop (i * sz)).take sz
theorem chunks_flatten (sz : Nat) : ∀ (len : Nat) (cs : List AV), cs.length = len * sz → (chunks sz len cs).flatten = cs
  | 0, cs, h => by
    have : cs = [] := List.eq_nil_of_length_eq_zero (by simpa using h)
    simp [chunks, this]
  | len + 1, cs, h => by
    have h1 : (cs.take (len * sz)).length = len * sz := by simp [h, Nat.add_mul]
    have h2 : chunks sz (len + 1) cs = chunks sz len (cs.take (len * sz)) ++ [(cs.drop (len * sz)).take sz] := by
      unfold chunks
      rw [List.range_succ, List.map_append]
      congr 1
      apply List.map_congr_left
      intro i hi
      have hi' : i < len := by simpa using hi
      have : i * sz + sz ≤ len * sz := by
        have := Nat.mul_le_mul_right sz (show i + 1 ≤ len from hi')
        rwa [Nat.add_mul, Nat.one_mul] at this
      rw [List.drop_take, List.take_take, Nat.min_eq_left (by omega)]
    rw [h2, List.flatten_append, chunks_flatten sz len _ h1]
    simp only [List.flatten_cons, List.flatten_nil, List.append_nil]
    rw [List.take_of_length_le (l := cs.drop (len * sz)) (by simp [h, Nat.add_mul]), List.take_append_drop]
theorem chunks_row {sz len : Nat} {cs : List AV} (h : cs.length = len * sz) : ∀ r ∈ chunks sz len cs, r.length = sz := by
  intro r hr
  obtain ⟨i, hi, rfl⟩ := List.mem_map.1 hr
  have hi' : i < len := by simpa using hi
  have : i * sz + sz ≤ len * sz := by
    have := Nat.mul_le_mul_right sz (show i + 1 ≤ len from hi')
    rwa [Nat.add_mul, Nat.one_mul] at this
  simp; omega

section
variable {E : Env} {B : Base} {Q : Exit → St → Prop} {σ : St} {o : Oper} {K : St → Prop}

theorem fillA_len (place : Nat → Option (Nat × Nat)) : ∀ (parts : List (Nat × Operand)) (cs res : List AV), fillA E σ place parts cs = some res → res.length = cs.length
  | [], cs, res, h => by simp only [fillA, Option.some.injEq] at h; rw [h]
  | (i, x) :: r, cs, res, h => by
    simp only [fillA] at h
    cases hp : place i with
    | none => rw [hp] at h; cases h
    | some q =>
      cases hc : cellsA (ev E σ x) with
      | none => rw [hp, hc] at h; cases h
      | some ys =>
        rw [hp, hc] at h
        simp only at h
        cases hb : (Nat.beq ys.length q.2 && Nat.ble (q.1 + ys.length) cs.length) with
        | false => rw [hb] at h; cases h
        | true =>
          rw [hb, cond_true] at h
          simp only [Bool.and_eq_true] at hb
          rw [fillA_len place r _ _ h, splice_length _ _ _ (Nat.le_of_ble_eq_true hb.2)]

theorem so_buildSlice {q : Md} [Nw q] {rows : List (List AV)} {t : TypeId} {len : Nat} {parts : Array (Nat × Operand)} (ho : o.op = .buildSlice t len parts) {i : TI} (hi : E.ti t = some i) {e : TypeId} (ht : i.desc = .slice e) {j : TI} (hj : E.ti e = some j)
    {cs : List AV} (hc : fillA E σ (fun i => some (i * j.size, j.size)) parts.toList (List.replicate (len * j.size) .any) = some cs) (hrows : chunks j.size len cs = rows) (hb : Nat.ble (len * j.size) 16777216 = true) (hm : Nat.ble len maxLen = true)
    (hd : dlt o.dst σ.n = true) (hK : K (St.put { σ with h := upd σ.h σ.nx (.arr 0 e j.size rows), nx := σ.nx + 1 } o.dst (.own σ.nx 0 j.size 0 len))) : Step q E B o K Q σ := by
  subst hrows
  refine step_new _ _ (by simp) (fun B g w a hr => ?_) hd hK
  have hb : len * j.size ≤ 16777216 := Nat.le_of_ble_eq_true hb
  have hm : len ≤ maxLen := Nat.le_of_ble_eq_true hm
  obtain ⟨hu, _⟩ := E.ok t i hi
  obtain ⟨_, f, hf1, hf2, hf3, hf4⟩ := E.ok e j hj
  have hcl : cs.length = len * j.size := by rw [fillA_len _ _ _ _ hc]; simp
  have hzv : (zeroValue e).run E.P w = .ok j.zero w := by simp [zeroValue, typeInfo, program, hf1, hf4, Sem.run, Sem.bind, pure, bind]
  obtain ⟨z, hz⟩ : ∃ z : Array Value, z = if len * j.size = 0 then #[] else j.zero.cells := ⟨_, rfl⟩
  obtain ⟨ys, y1, y2, y3⟩ := fillA_ok hr _ _ _ ((Array.range (len * j.size)).map (z[· % z.size]!)) _ hc (by simp) (fun i c x hi hx => by
    have : c = .any := by
      rw [List.getElem?_replicate] at hi
      split at hi <;> simp_all
    rw [this]; exact .any _)
  refine ⟨.slice (some ⟨w.heap.size, 0, none⟩) len len, .cells ys e, len, ?_, ?_, ?_⟩
  · simp only [execOp, ho]
    refine run_v ?_
    have hy : Instr.fill (fun i => some (i * j.size, j.size)) ((Array.range (len * j.size)).map (z[· % z.size]!)) (parts.map fun p => (p.1, a.eval p.2)).toList = some ys := by rw [← y1]; simp
    have hnb : ¬ len * j.size > 2 ^ 24 := by omega
    simp only [Instr.buildSlice, Sem.run_bind, run_underlying (by rw [hu, ht] : E.P.underlying t = some (.slice e)), Result.andThen_ok, run_sizeOf (show (E.P.info? e).map (·.size) = some j.size by rw [hf1]; simp [hf2]), hnb, if_false, Sem.run_pure]
    have hfin : ∀ z' : Array Value, z' = z → ((match Instr.fill (fun i => some (i * j.size, j.size)) ((Array.range (len * j.size)).map (z'[· % z'.size]!)) (parts.map fun p => (p.1, a.eval p.2)).toList with
        | some cells => do pure (Value.slice (some (← newRow e cells)) len len)
        | _ => stuck "buildSlice: a part of the wrong size") : Sem Value).run E.P w = .ok (.slice (some ⟨w.heap.size, 0, none⟩) len len) (w.alloc (.cells ys e)) := by
      rintro _ rfl
      rw [hy]
      simp [newRow, newObj, Sem.run, Sem.bind]
    by_cases h0 : len * j.size = 0
    · simp only [h0, if_true] at hz hfin ⊢
      simp only [Sem.run_bind, Sem.run_pure, Result.andThen_ok]
      exact hfin _ hz.symm
    · simp only [h0, if_false] at hz hfin ⊢
      simp only [Sem.run_bind, hzv, Sem.run_pure, Result.andThen_ok]
      exact hfin _ hz.symm
  · refine ⟨by simp [G.at, upd], by simpa [chunks] using hm, chunks_row hcl, fun h => by simp [G.at, upd] at h, ys.toList, ?_, fun i c x hi hx => ?_⟩
    · have : (chunks j.size len cs).length = len := by simp [chunks]
      rw [this]
      have := World.ownsRow_lit (base := 0) (e := e) (size := j.size) w ys len (Nat.zero_le _) hm (by rw [y2, hcl])
      simpa [handle, G.at, upd] using this
    · rw [chunks_flatten _ _ _ hcl] at hi
      exact (y3 i c x hi (by simpa using hx)).mono (gle_at g _ _ _ _) (Nat.le_succ _) (fun b hb => heap_alloc_lt w _ (hr.hr.Jlt b hb))
  · exact .own _ _ _ _ _ _ rfl (by omega) (by simp [G.at, upd]) (fun _ => by simp [OwnV, handle, G.at, upd])

/-! ### Cuts -/
theorem run_sliceAt {P : Program} {t : TypeId} {x : Value} {lo hi mx : Option Value} {e : TypeId} (ht : P.underlying t = some (.slice e)) (w : World) : (Instr.sliceAt t x lo hi mx).run P w = (Instr.slice t x lo hi mx).run P w :=
  run_sliceAt_slice w t x lo hi mx (by rw [ht]; simp [Program.elem, ht])

/-- The bounds of a cut: what low and high tell. -/
def cutB (E : Env) (σ : St) (x : Option Operand) (d : Int) : Option Int :=
  match x with
  | none => some d
  | some x => match ev E σ x with
    | .d (.v (.int _ n)) => some n
    | _ => none
theorem cutB_ok {g : G} {w : World} {a : Act} (hr : Rel E B g σ w a) {x : Option Operand} {d n : Int} (h : cutB E σ x d = some n) : (x = none ∧ n = d) ∨ ∃ y k, x = some y ∧ a.eval y = .int k n := by
  cases x with
  | none => simp [cutB] at h; exact .inl ⟨rfl, h.symm⟩
  | some y =>
    right
    simp only [cutB] at h
    split at h
    · rename_i k n' he
      cases h
      have := ev_ok hr y
      rw [he] at this
      exact ⟨y, k, rfl, vr_int this⟩
    · cases h

theorem run_cut {P : Program} {g : G} {w : World} {a : Act} (hr : Rel E B g σ w a) (t e : TypeId) (sz : Nat) (ht : P.underlying t = some (.slice e)) (hsz : (P.info? e).map (·.size) = some sz) (ad : Option Addr) (len cap : Nat) (hlc : len ≤ cap)
    {lo hi : Option Operand} {l h : Int} (hl : cutB E σ lo 0 = some l) (hh : cutB E σ hi len = some h) (h0 : 0 ≤ l) (h1 : l ≤ h) (h2 : h ≤ len) :
    (Instr.sliceAt t (.slice ad len cap) (lo.map a.eval) (hi.map a.eval) none).run P w = .ok (sliced ad l.toNat h.toNat cap sz) w := by
  rw [run_sliceAt ht]
  have hu : P.underlying t = some (.slice (P.elem t)) := by rw [ht]; simp [Program.elem, ht]
  have hel : P.elem t = e := by simp [Program.elem, ht]
  have hs : (sizeOf (P.elem t)).run P w = .ok sz w := by rw [hel]; exact run_sizeOf hsz w
  rcases cutB_ok hr hl with ⟨rfl, rfl⟩ | ⟨y, k, rfl, hy⟩
  · rcases cutB_ok hr hh with ⟨rfl, rfl⟩ | ⟨y, k, rfl, hy⟩
    · simp only [Option.map_none]
      rw [run_slice_all w t ad len cap hu, hs]; rfl
    · simp only [Option.map_none, Option.map_some, hy]
      rw [run_slice_h w t ad len cap hu k h (by omega) (by omega), hs]; rfl
  · rcases cutB_ok hr hh with ⟨rfl, rfl⟩ | ⟨y', k', rfl, hy'⟩
    · simp only [Option.map_none, Option.map_some, hy]
      rw [run_slice_l w t ad len cap hu k l h0 (by omega), hs]; rfl
    · simp only [Option.map_some, hy, hy']
      rw [run_slice_lh w t ad len cap hu k k' l h h0 h1 (by omega), hs]; rfl

theorem so_cutD {q : Md} [Qt q] {t : TypeId} {x : Operand} {lo hi : Option Operand} (ho : o.op = .slice t x lo hi none) {i : TI} (hi' : E.ti t = some i) {e : TypeId} (ht : i.desc = .slice e) {j : TI} (hj : E.ti e = some j)
    {s : Bool} {es : List (List D)} (hx : ev E σ x = .d (.sl s es)) {l h : Int} (hl : cutB E σ lo 0 = some l) (hh : cutB E σ hi es.length = some h) (hd : dlt o.dst σ.n = true) (hall : ∀ r ∈ es, r.length = j.size) (h0 : 0 ≤ l) (h1 : l ≤ h) (h2 : h ≤ es.length)
    {fs : List (List D)} (hfs : (es.drop l.toNat).take (h.toNat - l.toNat) = fs) (hK : K (σ.put o.dst (.d (.sl s fs)))) : Step q E B o K Q σ := by
  subst hfs
  refine step_val _ (fun B g w a hr => ?_) hd hK
  obtain ⟨hu, _⟩ := E.ok t i hi'
  have hu : E.P.underlying t = some (.slice e) := by rw [hu, ht]
  have hx' := ev_ok hr x
  rw [hx] at hx'
  have hdx := vr_data hx'
  generalize hax : a.eval x = ax at hdx
  cases hdx with
  | nil s ad c =>
    have e1 : l = 0 := by simp at h2; omega
    have e2 : h = 0 := by simp at h2; omega
    subst e1; subst e2
    refine ⟨sliced ad 0 0 c j.size, ?_, .d _ _ ?_⟩
    · simp only [execOp, ho, hax]
      exact run_v (run_cut hr t e j.size hu (by rw [E.sz hj]) ad 0 c (Nat.zero_le _) hl hh (by omega) (by omega) (by omega))
    · simpa [sliced] using DR.nil s _ _
  | sl _ _ b off c f g1 g2 g3 g4 g5 =>
    refine ⟨sliced (some ⟨b, off, none⟩) l.toNat h.toNat c j.size, ?_, .d _ _ ?_⟩
    · simp only [execOp, ho, hax]
      exact run_v (run_cut hr t e j.size hu (by rw [E.sz hj]) _ es.length c g3.2 hl hh h0 h1 h2)
    · have hlen : ((es.drop l.toNat).take (h.toNat - l.toNat)).length = h.toNat - l.toNat := by simp; omega
      by_cases h3 : h.toNat - l.toNat = 0
      · have : (es.drop l.toNat).take (h.toNat - l.toNat) = [] := by rw [h3]; simp
        rw [this]; unfold sliced; rw [h3]; exact .nil _ _ _
      · have hne : ¬ c = l.toNat := by have := g3.2; omega
        have hfl : ∀ (m : Nat) d, ((es.drop l.toNat).take (h.toNat - l.toNat)).flatten[m]? = some d → es.flatten[l.toNat * j.size + m]? = some d := fun m d hm => drop_flatten hall (by omega) hm
        have := DR.sl (w := w) (I := g.I) (J := g.J) s ((es.drop l.toNat).take (h.toNat - l.toNat)) b (off + l.toNat * j.size) (c - l.toNat) (fun m => f (l.toNat * j.size + m)) g1 g2 (by rw [hlen]; omega)
          (fun m d hm => by rw [Nat.add_assoc]; exact g4 _ d (hfl m d hm)) (fun m d hm => g5 _ d (hfl m d hm))
        rw [hlen] at this
        unfold sliced
        rw [if_neg hne]
        simpa [add_mk] using this

theorem so_cutOwn {q : Md} [Qt q] {t : TypeId} {x : Operand} {lo hi : Option Operand} (ho : o.op = .slice t x lo hi none) {i : TI} (hi' : E.ti t = some i) {e : TypeId} (ht : i.desc = .slice e) {j : TI} (hj : E.ti e = some j)
    {L k off n : Nat} (hx : ev E σ x = .own L k j.size off n) {es : List (List AV)} {e' : TypeId} (hL : σ.h L = .arr k e' j.size es) {l h : Int} (hl : cutB E σ lo 0 = some l) (hh : cutB E σ hi n = some h) (hd : dlt o.dst σ.n = true) (hn : off + n ≤ es.length) (h0 : 0 ≤ l) (h1 : l ≤ h) (h2 : h ≤ n)
    (hK : K (σ.put o.dst (.own L k j.size (off + l.toNat) (h.toNat - l.toNat)))) : Step q E B o K Q σ := by
  refine step_val _ (fun B g w a hr => ?_) hd hK
  obtain ⟨hu, _⟩ := E.ok t i hi'
  have hu : E.P.underlying t = some (.slice e) := by rw [hu, ht]
  have hx' := ev_ok hr x
  rw [hx] at hx'
  generalize hax : a.eval x = ax at hx'
  cases hx' with
  | own _ _ _ _ _ _ g0 g1 g2 g3 =>
    have hor := hr.hr.hp L g1
    rw [hL] at hor
    obtain ⟨f1, f2, f3, f4, xs, f5, f6⟩ := hor
    have hown := g3 f1
    have hcap : es.length ≤ g.cap L ∨ es.length = 0 := by
      cases hv : g.vt L with
      | true => right; simp [(f4 hv).1]
      | false => left; exact (owns_block hv f5).2.1
    have : ∃ ad c, ax = .slice ad n c ∧ n ≤ c ∧ (0 < n → ad = some ⟨g.ρ L, off * j.size, none⟩) ∧ (off = 0 → ax = handle g L n) := by
      unfold OwnV at hown
      split at hown
      · rename_i h; subst h
        refine ⟨_, _, hown, ?_, fun hn0 => ?_, fun _ => hown⟩
        · rcases hcap with h | h
          · omega
          · omega
        · cases hv : g.vt L with
          | true => have := (f4 hv).1; subst this; simp at hn; omega
          | false => simp
      · rename_i h
        obtain ⟨ad, c, h1, h2, h3⟩ := hown
        exact ⟨ad, c, h1, h2, h3, fun e => absurd e h⟩
    obtain ⟨ad, c, rfl, hnc, had, hz⟩ := this
    refine ⟨sliced ad l.toNat h.toNat c j.size, ?_, .own _ _ _ _ _ _ rfl g1 g2 fun _ => ?_⟩
    · simp only [execOp, ho, hax]
      exact run_v (run_cut hr t e j.size hu (by rw [E.sz hj]) ad n c hnc hl hh h0 h1 h2)
    · unfold OwnV
      split
      · rename_i hz0
        have hoff : off = 0 := by omega
        have hl0 : l.toNat = 0 := by omega
        have := hz hoff
        simp only [handle, Value.slice.injEq] at this
        obtain ⟨ha, _, hc⟩ := this
        subst hc
        rw [hl0]
        unfold sliced handle
        simp only [Nat.sub_zero, Nat.zero_mul]
        congr 1
        split
        · exact ha
        · rw [ha]; split <;> simp [add_mk]
      · refine ⟨_, _, rfl, by omega, fun hpos => ?_⟩
        have hne : ¬ c = l.toNat := by omega
        rw [if_neg hne, had (by omega)]
        simp [add_mk, Nat.add_mul]

theorem so_cutStr {q : Md} [Qt q] {t : TypeId} {x : Operand} {lo hi : Option Operand} (ho : o.op = .slice t x lo hi none) {i : TI} (hi' : E.ti t = some i) (ht : i.desc = .string)
    {s : ByteArray} (hx : ev E σ x = .d (.v (.string s))) {l h : Int} (hl : cutB E σ lo 0 = some l) (hh : cutB E σ hi s.size = some h) (hd : dlt o.dst σ.n = true) (h0 : 0 ≤ l) (h1 : l ≤ h) (h2 : h ≤ s.size)
    (hK : K (σ.put o.dst (.d (.v (.string (s.extract l.toNat h.toNat)))))) : Step q E B o K Q σ := by
  refine step_val _ (fun B g w a hr => ?_) hd hK
  obtain ⟨hu, _⟩ := E.ok t i hi'
  have hu : E.P.underlying t = some .string := by rw [hu, ht]
  have hx' := ev_ok hr x
  rw [hx] at hx'
  refine ⟨_, ?_, .d _ _ (.v _)⟩
  simp only [execOp, ho, vr_str hx']
  refine run_v ?_
  rw [run_sliceAt_string w t _ _ _ _ hu]
  rcases cutB_ok hr hl with ⟨rfl, rfl⟩ | ⟨y, k, rfl, hy⟩
  · rcases cutB_ok hr hh with ⟨rfl, rfl⟩ | ⟨y, k, rfl, hy⟩
    · simp only [Option.map_none]
      rw [run_slice_string_all w t s hu]; rfl
    · simp only [Option.map_none, Option.map_some, hy]
      rw [run_slice_string_h w t s hu k h (by omega) (by omega)]; rfl
  · rcases cutB_ok hr hh with ⟨rfl, rfl⟩ | ⟨y', k', rfl, hy'⟩
    · simp only [Option.map_none, Option.map_some, hy]
      rw [run_slice_string_l w t s hu k l h0 (by omega)]; rfl
    · simp only [Option.map_some, Option.map_none, hy, hy']
      rw [run_slice_string w t s k k' l h hu h0 h1 (by omega)]
end
end Go.Proofs.YtdcpnpcmgfmenaaGreatDoor.Lg
