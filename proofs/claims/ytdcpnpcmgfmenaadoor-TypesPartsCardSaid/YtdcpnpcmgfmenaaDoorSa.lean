/-
  A program logic of our own over the kit's 'Code.wp' and 'Calls': abstract values and states, what they say of a world, and that this lasts. Conditions: none.
-/
import Derived.Orders
import Derived.Below
import Derived.WalkKit
namespace Go.Proofs.YtdcpnpcmgfmenaaDoor.Lg
open Go

/-- Data: no place of its own in memory counts. 'sl s es': a slice that reads as the rows es; s: it may be handed on. -/
inductive D where
  | v (x : Value)
  | agg (cs : List D)
  | sl (s : Bool) (es : List (List D))
  | map (es : List (Value × Value))

/-- What a temporary is known to hold. -/
inductive AV where
  | any
  | d (x : D)
  | agg (cs : List AV)
  | tup (cs : List AV)
  | dp (cs : List D) (off : Nat)
  | p (l k off : Nat)
  | pe (l k sz i j : Nat)
  | own (l k sz off n : Nat)
  | map (l : Nat)
  | fn (f : Nat) (caps : List AV)

/-- What an object of the call's own is known to hold. -/
inductive AO where
  | dead
  | cells (cs : List AV)
  | arr (k e sz : Nat) (es : List (List AV))
  | map (es : List (Value × AV))

/-- Where the objects lie; which blocks last for good (I), which last as long as the call (J). -/
structure G where
  ρ : Nat → Nat
  κ : Nat → Nat
  cap : Nat → Nat
  vt : Nat → Bool
  I : Nat → Prop
  J : Nat → Prop

structure St where
  t : Nat → AV
  n : Nat
  h : Nat → AO
  nx : Nat

inductive DR (w : World) (I J : Nat → Prop) : D → Value → Prop
  | v (x : Value) : DR w I J (.v x) x
  | agg (cs : List D) (xs : Array Value) : xs.size = cs.length → (∀ (i : Nat) c x, cs[i]? = some c → xs[i]? = some x → DR w I J c x) → DR w I J (.agg cs) (.agg xs)
  | nil (s : Bool) (a : Option Addr) (c : Nat) : DR w I J (.sl s []) (.slice a 0 c)
  | sl (s : Bool) (es : List (List D)) (b off c : Nat) (f : Nat → Value) : (s = true → I b) → J b → es.length ≤ maxLen ∧ es.length ≤ c →
      (∀ (i : Nat) c, es.flatten[i]? = some c → w.cell? ⟨b, off + i, none⟩ = some (f i)) →
      (∀ (i : Nat) c, es.flatten[i]? = some c → DR w I J c (f i)) → DR w I J (.sl s es) (.slice (some ⟨b, off, none⟩) es.length c)
  | map (es : List (Value × Value)) (b : Nat) (ms : Array MapEntry) (clock : Nat) : I b → J b → w.heap[b]? = some (.map ms clock) → ms.size = es.length →
      (∀ (i : Nat) (e : Value × Value) (m : MapEntry), es[i]? = some e → ms[i]? = some m → m.key = e.1 ∧ m.val = e.2) → DR w I J (.map es) (.map (some b))

/-- The slice that is all of a growing row. -/
def handle (g : G) (l n : Nat) : Value := .slice (if g.vt l then none else some ⟨g.ρ l, 0, none⟩) n (g.cap l)

def OwnV (g : G) (l sz off n : Nat) (x : Value) : Prop :=
  if off = 0 then x = handle g l n
  else ∃ a c, x = .slice a n c ∧ n ≤ c ∧ (0 < n → a = some ⟨g.ρ l, off * sz, none⟩)

inductive VR (w : World) (g : G) (nx : Nat) : AV → Value → Prop
  | any (x : Value) : VR w g nx .any x
  | d (c : D) (x : Value) : DR w g.I g.J c x → VR w g nx (.d c) x
  | agg (cs : List AV) (xs : Array Value) : xs.size = cs.length → (∀ (i : Nat) c x, cs[i]? = some c → xs[i]? = some x → VR w g nx c x) → VR w g nx (.agg cs) (.agg xs)
  | tup (cs : List AV) (xs : Array Value) : xs.size = cs.length → (∀ (i : Nat) c x, cs[i]? = some c → xs[i]? = some x → VR w g nx c x) → VR w g nx (.tup cs) (.tuple xs)
  | dp (cs : List D) (off b o : Nat) (f : Nat → Value) : g.J b → (∀ (i : Nat) c, cs[i]? = some c → w.cell? ⟨b, o + i, none⟩ = some (f i)) →
      (∀ (i : Nat) c, cs[i]? = some c → DR w g.I g.J c (f i)) → VR w g nx (.dp cs off) (.pointer (some ⟨b, o + off, none⟩))
  | p (l k off : Nat) (x : Value) : x.oneCell' = true → l < nx → k ≤ g.κ l → (g.κ l = k → x = .pointer (some ⟨g.ρ l, off, none⟩)) → VR w g nx (.p l k off) x
  | pe (l k sz i j : Nat) (x : Value) : x.oneCell' = true → l < nx → k ≤ g.κ l → (g.κ l = k → x = .pointer (some ⟨g.ρ l, i * sz + j, none⟩)) → VR w g nx (.pe l k sz i j) x
  | own (l k sz off n : Nat) (x : Value) : x.oneCell' = true → l < nx → k ≤ g.κ l → (g.κ l = k → OwnV g l sz off n x) → VR w g nx (.own l k sz off n) x
  | map (l : Nat) (x : Value) : x.oneCell' = true → l < nx → (g.κ l = 0 → x = .map (some (g.ρ l))) → VR w g nx (.map l) x
  | fn (f : Nat) (caps : List AV) (xs : Array Value) : xs.size = caps.length → (∀ (i : Nat) c x, caps[i]? = some c → xs[i]? = some x → VR w g nx c x) →
      VR w g nx (.fn f caps) (.func (.func f) #[] xs)

def OR (w : World) (g : G) (nx l : Nat) : AO → Prop
  | .dead => True
  | .cells cs => g.κ l = 0 ∧ g.vt l = false ∧ ∃ xs t, w.heap[g.ρ l]? = some (.cells xs t (0, 0)) ∧ xs.size = cs.length ∧
      ∀ (i : Nat) c x, cs[i]? = some c → xs[i]? = some x → VR w g nx c x
  | .arr k e sz es => g.κ l = k ∧ es.length ≤ maxLen ∧ (∀ r ∈ es, r.length = sz) ∧ (g.vt l = true → es = [] ∧ g.cap l = 0) ∧ ∃ xs, w.ownsRow 0 e sz (handle g l es.length) es.length xs ∧
      ∀ (i : Nat) c x, es.flatten[i]? = some c → xs[i]? = some x → VR w g nx c x
  | .map es => g.κ l = 0 ∧ g.vt l = false ∧ ∃ ms clock, w.heap[g.ρ l]? = some (.map ms clock) ∧ ms.size = es.length ∧
      ∀ (i : Nat) (e : Value × AV) (m : MapEntry), es[i]? = some e → ms[i]? = some m → m.key = e.1 ∧ VR w g nx e.2 m.val

theorem DR.mono {w w' : World} {I J I' J' : Nat → Prop} (hI : ∀ b, I b → I' b) (hJ : ∀ b, J b → J' b) (hw : ∀ b, J b → w'.heap[b]? = w.heap[b]?) {c : D} {x : Value} (h : DR w I J c x) : DR w' I' J' c x := by
  induction h with
  | v x => exact .v x
  | agg cs xs hs _ ih => exact .agg cs xs hs ih
  | nil s a c => exact .nil s a c
  | sl s es b off c f h1 h2 h3 h4 _ ih => exact .sl s es b off c f (fun e => hI _ (h1 e)) (hJ _ h2) h3 (fun i c hc => by rw [World.cell?_of_block (w := w) (hw b h2)]; exact h4 i c hc) ih
  | map es b ms clock h1 h2 h3 h4 h5 => exact .map es b ms clock (hI _ h1) (hJ _ h2) (by rw [hw b h2]; exact h3) h4 h5

/-- The ghosts go on. -/
structure GLe (g : G) (nx : Nat) (g' : G) : Prop where
  I : ∀ b, g.I b → g'.I b
  J : ∀ b, g.J b → g'.J b
  κ : ∀ l, l < nx → g.κ l ≤ g'.κ l
  same : ∀ l, l < nx → g'.κ l = g.κ l → g'.ρ l = g.ρ l ∧ g'.cap l = g.cap l ∧ g'.vt l = g.vt l

theorem GLe.refl (g : G) (nx : Nat) : GLe g nx g := ⟨fun _ h => h, fun _ h => h, fun _ _ => Nat.le_refl _, fun _ _ _ => ⟨rfl, rfl, rfl⟩⟩
theorem GLe.trans {g g' g'' : G} {nx nx' : Nat} (h : GLe g nx g') (hn : nx ≤ nx') (h' : GLe g' nx' g'') : GLe g nx g'' :=
  ⟨fun b hb => h'.I b (h.I b hb), fun b hb => h'.J b (h.J b hb), fun l hl => Nat.le_trans (h.κ l hl) (h'.κ l (by omega)), fun l hl e => by
    have a := h.κ l hl; have b := h'.κ l (by omega)
    obtain ⟨a1, a2, a3⟩ := h.same l hl (by omega)
    obtain ⟨b1, b2, b3⟩ := h'.same l (by omega) (by omega)
    exact ⟨b1.trans a1, b2.trans a2, b3.trans a3⟩⟩

theorem VR.mono {w w' : World} {g g' : G} {nx nx' : Nat} (hg : GLe g nx g') (hn : nx ≤ nx') (hw : ∀ b, g.J b → w'.heap[b]? = w.heap[b]?) {c : AV} {x : Value} (h : VR w g nx c x) : VR w' g' nx' c x := by
  induction h with
  | any x => exact .any x
  | d c x h => exact .d c x (h.mono hg.I hg.J hw)
  | agg cs xs hs _ ih => exact .agg cs xs hs ih
  | tup cs xs hs _ ih => exact .tup cs xs hs ih
  | dp cs off b o f h1 h2 h3 => exact .dp cs off b o f (hg.J _ h1) (fun i c hc => by rw [World.cell?_of_block (w := w) (hw b h1)]; exact h2 i c hc) (fun i c hc => (h3 i c hc).mono hg.I hg.J hw)
  | p l k off x h0 h1 h2 h3 => exact .p l k off x h0 (by omega) (Nat.le_trans h2 (hg.κ l h1)) (fun e => by
      have a := hg.κ l h1
      have b : g'.κ l = g.κ l := by omega
      rw [h3 (by omega), (hg.same l h1 b).1])
  | pe l k sz i j x h0 h1 h2 h3 => exact .pe l k sz i j x h0 (by omega) (Nat.le_trans h2 (hg.κ l h1)) (fun e => by
      have a := hg.κ l h1
      have b : g'.κ l = g.κ l := by omega
      rw [h3 (by omega), (hg.same l h1 b).1])
  | own l k sz off n x h0 h1 h2 h3 => exact .own l k sz off n x h0 (by omega) (Nat.le_trans h2 (hg.κ l h1)) (fun e => by
      have a := hg.κ l h1
      have b : g'.κ l = g.κ l := by omega
      obtain ⟨e1, e2, e3⟩ := hg.same l h1 b
      have := h3 (by omega)
      unfold OwnV handle at this ⊢
      rw [e1, e2, e3]; exact this)
  | map l x h0 h1 h2 => exact .map l x h0 (by omega) (fun e => by
      have a := hg.κ l h1
      rw [h2 (by omega), (hg.same l h1 (by omega)).1])
  | fn f caps xs hs _ ih => exact .fn f caps xs hs ih

/-- Which blocks are the call's own. -/
def Owned (g : G) (nx : Nat) (h : Nat → AO) (b : Nat) : Prop := ∃ l, l < nx ∧ h l ≠ .dead ∧ g.vt l = false ∧ g.ρ l = b

/-- What is asked of a type. -/
structure TI where
  desc : TypeDesc
  size : Nat
  bytes : Nat
  zero : Value

/-- The seat's program, what package-level variables hold, and a table of types. -/
structure Env where
  P : Program
  GL : Nat → Option (List D)
  ti : Nat → Option TI
  ok : ∀ t i, ti t = some i → P.underlying t = some i.desc ∧ ∃ f, P.info? t = some f ∧ f.size = i.size ∧ f.bytes = i.bytes ∧ f.zero = some i.zero
  mixed : P.follows .mixedOrders = true

structure HRel (E : Env) (w : World) (g : G) (nx : Nat) (h : Nat → AO) : Prop where
  hp : ∀ l, l < nx → OR w g nx l (h l)
  hd : ∀ l, nx ≤ l → h l = .dead
  inj : ∀ l l', l < nx → l' < nx → h l ≠ .dead → h l' ≠ .dead → g.vt l = false → g.vt l' = false → g.ρ l = g.ρ l' → l = l'
  Jlt : ∀ b, g.J b → b < w.heap.size
  IJ : ∀ b, g.I b → g.J b
  dis : ∀ b, g.J b → ¬ Owned g nx h b
  gl : ∀ i cs, E.GL i = some cs → g.J i ∧ ∃ f : Nat → Value, (∀ (j : Nat) c, cs[j]? = some c → w.cell? ⟨i, j, none⟩ = some (f j)) ∧ ∀ (j : Nat) c, cs[j]? = some c → DR w g.I g.J c (f j)

/-- From where a call began: what stood there, and what was its own. -/
structure Base where
  w : World
  g : G
  nx : Nat
  h : Nat → AO

structure Ext (B : Base) (w : World) (g : G) (nx : Nat) (h : Nat → AO) : Prop where
  os : w.os = B.w.os
  tape : w.tape = B.w.tape
  output : w.output = B.w.output
  size : B.w.heap.size ≤ w.heap.size
  block : ∀ b, b < B.w.heap.size → ¬ Owned B.g B.nx B.h b → w.heap[b]? = B.w.heap[b]?
  gle : GLe B.g B.nx g
  nle : B.nx ≤ nx
  inew : ∀ b, g.I b → B.g.I b ∨ Owned B.g B.nx B.h b ∨ B.w.heap.size ≤ b
  own : ∀ b, Owned g nx h b → Owned B.g B.nx B.h b ∨ B.w.heap.size ≤ b

structure Rel (E : Env) (B : Base) (g : G) (σ : St) (w : World) (a : Act) : Prop where
  size : a.tmps.size = σ.n
  tm : ∀ i, VR w g σ.nx (σ.t i) (a.tmps.getD i undef)
  hr : HRel E w g σ.nx σ.h
  ext : Ext B w g σ.nx σ.h
  df : a.defers = []

/-- A row that is not virtual lies in its block. -/
theorem owns_block {w : World} {g : G} {l e sz n : Nat} {xs : List Value} (hv : g.vt l = false) (h : w.ownsRow 0 e sz (handle g l n) n xs) :
    xs.length = n * sz ∧ n ≤ g.cap l ∧ g.cap l ≤ maxLen ∧ ∃ cur, w.heap[g.ρ l]? = some (.cells cur e (0, 0)) ∧ cur.size = g.cap l * sz ∧ cur.toList.take (n * sz) = xs := by
  obtain ⟨h1, h2⟩ := h
  simp only [handle, hv, Bool.false_eq_true, if_false] at h2
  rcases h2 with ⟨h2, _⟩ | ⟨b, cap, cur, h2, _, h3, h4, h5, h6, h7⟩
  · cases h2
  · injection h2 with e1 e2 e3
    injection e1 with e1
    injection e1 with e1 _ _
    subst e1; subst e3
    exact ⟨h1, h4, h5, cur, h3, h6, h7⟩

theorem Owned.lt {E : Env} {w : World} {g : G} {nx : Nat} {h : Nat → AO} (hr : HRel E w g nx h) {b : Nat} (ho : Owned g nx h b) : b < w.heap.size := by
  obtain ⟨l, hl, hd, hv, rfl⟩ := ho
  have := hr.hp l hl
  cases e : h l with
  | dead => exact absurd e hd
  | cells cs => rw [e] at this; obtain ⟨_, _, xs, t, hh, _⟩ := this; exact (Array.getElem?_eq_some_iff.1 hh).1
  | arr k e sz es =>
    rw [e] at this
    obtain ⟨_, _, _, _, xs, ho, _⟩ := this
    obtain ⟨_, _, _, cur, hh, _⟩ := owns_block hv ho
    exact (Array.getElem?_eq_some_iff.1 hh).1
  | map es => rw [e] at this; obtain ⟨_, _, ms, c, hh, _⟩ := this; exact (Array.getElem?_eq_some_iff.1 hh).1

/-- An object's word lasts as long as its own block and the lasting blocks do. -/
theorem OR.mono {w w' : World} {g g' : G} {nx nx' : Nat} (hg : GLe g nx g') (hn : nx ≤ nx') (hw : ∀ b, g.J b → w'.heap[b]? = w.heap[b]?) {l : Nat} (hl : l < nx) (hs : g'.κ l = g.κ l)
    {o : AO} (hb : o ≠ .dead → g.vt l = false → w'.heap[g.ρ l]? = w.heap[g.ρ l]?) (h : OR w g nx l o) : OR w' g' nx' l o := by
  obtain ⟨e1, e2, e3⟩ := hg.same l hl hs
  cases o with
  | dead => trivial
  | cells cs =>
    obtain ⟨h1, h2, xs, t, h3, h4, h6⟩ := h
    exact ⟨hs.trans h1, e3.trans h2, xs, t, by rw [e1, hb (by simp) h2]; exact h3, h4, fun i c x hc hx => (h6 i c x hc hx).mono hg hn hw⟩
  | arr k e sz es =>
    obtain ⟨h1, h0, h2, h3, xs, h4, h5⟩ := h
    refine ⟨hs.trans h1, h0, h2, by rw [e3, e2]; exact h3, xs, ?_, fun i c x hc hx => (h5 i c x hc hx).mono hg hn hw⟩
    have hh : handle g' l es.length = handle g l es.length := by unfold handle; rw [e1, e2, e3]
    rw [hh]
    cases hv : g.vt l with
    | true =>
      obtain ⟨rfl, hc⟩ := h3 hv
      refine ⟨h4.1, .inl ⟨by simp [handle, hv, hc], rfl⟩⟩
    | false =>
      obtain ⟨a1, a2, a3, cur, a4, a5, a6⟩ := owns_block hv h4
      exact ⟨a1, .inr ⟨g.ρ l, g.cap l, cur, by simp [handle, hv], Nat.zero_le _, by rw [hb (by simp) hv]; exact a4, a2, a3, a5, a6⟩⟩
  | map es =>
    obtain ⟨h1, h2, ms, clock, h3, h4, h5⟩ := h
    exact ⟨hs.trans h1, e3.trans h2, ms, clock, by rw [e1, hb (by simp) h2]; exact h3, h4, fun i e m he hm => ⟨(h5 i e m he hm).1, (h5 i e m he hm).2.mono hg hn hw⟩⟩

def upd {α : Type} (f : Nat → α) (i : Nat) (x : α) : Nat → α := fun j => if j = i then x else f j
theorem upd_same {α : Type} (f : Nat → α) (i : Nat) (x : α) : upd f i x i = x := by simp [upd]
theorem upd_ne {α : Type} (f : Nat → α) (i : Nat) (x : α) {j : Nat} (h : j ≠ i) : upd f i x j = f j := by simp [upd, h]

end Go.Proofs.YtdcpnpcmgfmenaaDoor.Lg
