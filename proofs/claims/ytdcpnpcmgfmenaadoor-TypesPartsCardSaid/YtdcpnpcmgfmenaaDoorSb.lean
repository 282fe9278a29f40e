/-
  The steps of code over abstract states. Conditions: none.
-/
import Derived.Test.YtdcpnpcmgfmenaaDoorSa
namespace Go.Proofs.YtdcpnpcmgfmenaaDoor.Lg
open Go Go.RowKit

def constAV : Value → AV
  | .agg cs => .d (.agg (cs.toList.map .v))
  | v => .d (.v v)

def ev (E : Env) (σ : St) : Operand → AV
  | .tmp t => σ.t t
  | .const v => constAV v
  | .global g => match E.GL g with
    | some cs => .dp cs 0
    | none => .any
  | .func f => .fn f []

def St.put (σ : St) (dst : Option Nat) (v : AV) : St :=
  match dst with
  | some d => { σ with t := upd σ.t d v }
  | none => σ

def dlt (dst : Option Nat) (n : Nat) : Bool :=
  match dst with
  | some d => decide (d < n)
  | none => true

theorem vr_const (w : World) (g : G) (nx : Nat) (v : Value) : VR w g nx (constAV v) v := by
  unfold constAV
  split
  · rename_i cs
    refine .d _ _ (.agg _ _ (by simp) fun i c x hc hx => ?_)
    simp only [List.getElem?_map, Option.map_eq_some_iff] at hc
    obtain ⟨y, hy, rfl⟩ := hc
    rw [Array.getElem?_toList] at hy
    rw [hy] at hx
    cases hx
    exact .v _
  · exact .d _ _ (.v _)

theorem ev_ok {E : Env} {B : Base} {g : G} {σ : St} {w : World} {a : Act} (h : Rel E B g σ w a) (x : Operand) : VR w g σ.nx (ev E σ x) (a.eval x) := by
  cases x with
  | tmp t => exact h.tm t
  | const v => exact vr_const w g _ v
  | global i =>
    simp only [ev, Act.eval]
    split
    · rename_i cs hcs
      obtain ⟨hj, f, h1, h2⟩ := h.hr.gl i cs hcs
      exact .dp cs 0 i 0 f hj (fun j c hc => by simpa using h1 j c hc) h2
    · exact .any _
  | func f => exact .fn f [] #[] rfl (fun i c x hc => by simp at hc)

theorem rel_put {E : Env} {B : Base} {g : G} {σ : St} {w : World} {a : Act} (h : Rel E B g σ w a) {dst : Option Nat} {v : AV} {x : Value} (hd : dlt dst σ.n = true) (hv : VR w g σ.nx v x) :
    Rel E B g (σ.put dst v) w (a.put dst x) := by
  cases dst with
  | none => exact h
  | some d =>
    have hd' : d < σ.n := by simpa [dlt] using hd
    refine ⟨by simp [Act.put, St.put, h.size], fun i => ?_, h.hr, h.ext, h.df⟩
    simp only [St.put, Act.put, upd, Array.getD_eq_getD_getElem?]
    by_cases hi : i = d
    · subst hi
      rw [Array.getElem?_setIfInBounds_self_of_lt (by rw [h.size]; exact hd')]
      simpa using hv
    · rw [Array.getElem?_setIfInBounds_ne (Ne.symm hi)]
      have := h.tm i
      rw [Array.getD_eq_getD_getElem?] at this
      simpa [hi] using this

def G.at (g : G) (l b c : Nat) (v : Bool) : G := { g with ρ := upd g.ρ l b, κ := upd g.κ l 0, cap := upd g.cap l c, vt := upd g.vt l v }

theorem gle_at (g : G) (nx b c : Nat) (v : Bool) : GLe g nx (g.at nx b c v) :=
  ⟨fun _ h => h, fun _ h => h, fun l hl => by simp [G.at, upd, Nat.ne_of_lt hl], fun l hl _ => by simp [G.at, upd, Nat.ne_of_lt hl]⟩

/-- What lasts behind a call: what lasted, and what is new. -/
def resI (I : Nat → Prop) (w w' : World) : Nat → Prop := fun b => I b ∨ (w.heap.size ≤ b ∧ b < w'.heap.size)

section
variable {E : Env} {B : Base} {Q : Exit → St → Prop} {σ : St} {g : G} {w : World} {a : Act}
/-- Temporaries and objects go on behind whatever leaves the lasting blocks and the objects as they are. -/
theorem tm_mono {w' : World} {g' : G} {nx' : Nat} (hr : Rel E B g σ w a) (hg : GLe g σ.nx g') (hn : σ.nx ≤ nx') (hw : ∀ b, g.J b → w'.heap[b]? = w.heap[b]?) :
    ∀ i, VR w' g' nx' (σ.t i) (a.tmps.getD i undef) := fun i => (hr.tm i).mono hg hn hw

theorem gl_mono {w' : World} {g' : G} {nx : Nat} {h : Nat → AO} (hr : HRel E w g nx h) (hI : ∀ b, g.I b → g'.I b) (hJ : ∀ b, g.J b → g'.J b) (hw : ∀ b, g.J b → w'.heap[b]? = w.heap[b]?) :
    ∀ i cs, E.GL i = some cs → g'.J i ∧ ∃ f : Nat → Value, (∀ (j : Nat) c, cs[j]? = some c → w'.cell? ⟨i, j, none⟩ = some (f j)) ∧ ∀ (j : Nat) c, cs[j]? = some c → DR w' g'.I g'.J c (f j) := by
  intro i cs hcs
  obtain ⟨h1, f, h2, h3⟩ := hr.gl i cs hcs
  exact ⟨hJ _ h1, f, fun j c hc => by rw [World.cell?_of_block (w := w) (hw i h1)]; exact h2 j c hc, fun j c hc => (h3 j c hc).mono hI hJ hw⟩

/-- What is told goes on behind a call that turns nothing. -/
theorem rel_below {w' : World} (hr : Rel E B g σ w a) (hb : Below w.heap.size w w') :
    Rel E B { g with I := resI g.I w w', J := fun b => g.J b ∨ resI g.I w w' b } σ w' a := by
  have hJ : ∀ b, g.J b → w'.heap[b]? = w.heap[b]? := fun b h => hb.block b (hr.hr.Jlt b h)
  have hg : GLe g σ.nx { g with I := resI g.I w w', J := fun b => g.J b ∨ resI g.I w w' b } := ⟨fun _ h => .inl h, fun _ h => .inl h, fun _ _ => Nat.le_refl _, fun _ _ _ => ⟨rfl, rfl, rfl⟩⟩
  have hx := hr.ext
  refine ⟨hr.size, tm_mono (σ := σ) hr hg (Nat.le_refl _) hJ, ⟨fun l hl => (hr.hr.hp l hl).mono hg (Nat.le_refl _) hJ hl rfl (fun hd hv => hb.block _ (Owned.lt hr.hr ⟨l, hl, hd, hv, rfl⟩)), hr.hr.hd, hr.hr.inj, ?_, fun b h => .inr h, ?_,
    gl_mono (g' := { g with I := resI g.I w w', J := fun b => g.J b ∨ resI g.I w w' b }) hr.hr (fun _ h => .inl h) (fun _ h => .inl h) hJ⟩, ?_, hr.df⟩
  · rintro b (h | h | h)
    · have := hr.hr.Jlt b h; have := hb.size; omega
    · have := hr.hr.Jlt b (hr.hr.IJ b h); have := hb.size; omega
    · exact h.2
  · rintro b (h | h | h) ho
    · exact hr.hr.dis b h ho
    · exact hr.hr.dis b (hr.hr.IJ b h) ho
    · have := Owned.lt hr.hr ho; omega
  · refine ⟨hb.os.trans hx.os, hb.tape.trans hx.tape, hb.output.trans hx.output, by have := hx.size; have := hb.size; omega, fun b h1 h2 => ?_, hx.gle.trans hx.nle hg, hx.nle, ?_, hx.own⟩
    · rw [hb.block b (by have := hx.size; omega)]; exact hx.block b h1 h2
    · rintro b (h | h)
      · exact hx.inew b h
      · exact .inr (.inr (by have := hx.size; omega))

theorem heap_alloc_lt (w : World) (o : Obj) {k : Nat} (h : k < w.heap.size) : (w.alloc o).heap[k]? = w.heap[k]? := by
  show (w.heap.push o)[k]? = _
  rw [Array.getElem?_push, if_neg (by omega)]
theorem heap_alloc_new (w : World) (o : Obj) : (w.alloc o).heap[w.heap.size]? = some o := by
  show (w.heap.push o)[w.heap.size]? = some o
  simp

theorem rel_alloc (hr : Rel E B g σ w a) (obj : Obj) (o : AO) (ho : o ≠ .dead) (c0 : Nat)
    (hor : OR (w.alloc obj) (g.at σ.nx w.heap.size c0 false) (σ.nx + 1) σ.nx o) :
    Rel E B (g.at σ.nx w.heap.size c0 false) { σ with h := upd σ.h σ.nx o, nx := σ.nx + 1 } (w.alloc obj) a := by
  have hg := gle_at g σ.nx w.heap.size c0 false
  have hw : ∀ b, g.J b → (w.alloc obj).heap[b]? = w.heap[b]? := fun b hb => heap_alloc_lt w obj (hr.hr.Jlt b hb)
  have hold : ∀ b, Owned (g.at σ.nx w.heap.size c0 false) (σ.nx + 1) (upd σ.h σ.nx o) b → Owned g σ.nx σ.h b ∨ b = w.heap.size := by
    rintro b ⟨l, hl, hd, hv, hb⟩
    by_cases e : l = σ.nx
    · subst e; right; simpa [G.at, upd] using hb.symm
    · left
      have hl' : l < σ.nx := by omega
      refine ⟨l, hl', by simpa [upd, e] using hd, by simpa [G.at, upd, e] using hv, by simpa [G.at, upd, e] using hb⟩
  refine ⟨hr.size, tm_mono (σ := σ) hr hg (Nat.le_succ _) hw, ⟨?_, ?_, ?_, ?_, hr.hr.IJ, ?_, gl_mono hr.hr (fun _ h => h) (fun _ h => h) hw⟩, ?_, hr.df⟩
  · intro l hl
    by_cases e : l = σ.nx
    · subst e; simp only [upd, if_true]; exact hor
    · have hl' : l < σ.nx := by simp at hl; omega
      simp only [upd, e, if_false]
      refine (hr.hr.hp l hl').mono hg (Nat.le_succ _) hw hl' (by simp [G.at, upd, e]) (fun hd hv => heap_alloc_lt w obj (Owned.lt hr.hr ⟨l, hl', hd, hv, rfl⟩))
  · intro l hl
    simp at hl
    simp only [upd]; rw [if_neg (by omega)]; exact hr.hr.hd l (by omega)
  · intro l l' hl hl' hd hd' hv hv' he
    simp only at hl hl'
    by_cases e : l = σ.nx
    · by_cases e' : l' = σ.nx
      · rw [e, e']
      · exfalso
        have h1 : l' < σ.nx := by omega
        have := Owned.lt hr.hr ⟨l', h1, by simpa [upd, e'] using hd', by simpa [G.at, upd, e'] using hv', rfl⟩
        simp [G.at, upd, e, e'] at he
        omega
    · by_cases e' : l' = σ.nx
      · exfalso
        have h1 : l < σ.nx := by omega
        have := Owned.lt hr.hr ⟨l, h1, by simpa [upd, e] using hd, by simpa [G.at, upd, e] using hv, rfl⟩
        simp [G.at, upd, e, e'] at he
        omega
      · exact hr.hr.inj l l' (by omega) (by omega) (by simpa [upd, e] using hd) (by simpa [upd, e'] using hd') (by simpa [G.at, upd, e] using hv) (by simpa [G.at, upd, e'] using hv') (by simpa [G.at, upd, e, e'] using he)
  · intro b hb
    have := hr.hr.Jlt b hb
    simp; omega
  · intro b hb ho
    rcases hold b ho with h | h
    · exact hr.hr.dis b hb h
    · have := hr.hr.Jlt b hb; omega
  · have hx := hr.ext
    refine ⟨hx.os, hx.tape, hx.output, by simp; have := hx.size; omega, fun b hb hn => ?_, hx.gle.trans hx.nle hg, by have := hx.nle; simp; omega, hx.inew, fun b hb => ?_⟩
    · rw [heap_alloc_lt w obj (by have := hx.size; omega)]; exact hx.block b hb hn
    · rcases hold b hb with h | h
      · exact hx.own b h
      · right; have := hx.size; omega

/-- The ghosts behind what makes an object (and perhaps more that is data). -/
def G.mk' (g : G) (l b c : Nat) (v : Bool) (w w' : World) : G :=
  { g.at l b c v with I := fun x => g.I x ∨ (w.heap.size ≤ x ∧ x < w'.heap.size ∧ x ≠ b), J := fun x => g.J x ∨ (w.heap.size ≤ x ∧ x < w'.heap.size ∧ x ≠ b) }
theorem gle_mk (g : G) (nx b c : Nat) (v : Bool) (w w' : World) : GLe g nx (g.mk' nx b c v w w') :=
  ⟨fun _ h => .inl h, fun _ h => .inl h, fun l hl => by simp [G.mk', G.at, upd, Nat.ne_of_lt hl], fun l hl _ => by simp [G.mk', G.at, upd, Nat.ne_of_lt hl]⟩

theorem rel_new {w' : World} (hr : Rel E B g σ w a) (hb : Below w.heap.size w w') (b c : Nat) (v : Bool) (hbv : v = true ∨ (w.heap.size ≤ b ∧ b < w'.heap.size)) (o : AO)
    (hor : OR w' (g.mk' σ.nx b c v w w') (σ.nx + 1) σ.nx o) : Rel E B (g.mk' σ.nx b c v w w') { σ with h := upd σ.h σ.nx o, nx := σ.nx + 1 } w' a := by
  have hg := gle_mk g σ.nx b c v w w'
  have hw : ∀ x, g.J x → w'.heap[x]? = w.heap[x]? := fun x hx => hb.block x (hr.hr.Jlt x hx)
  have hsz := hb.size
  have hold : ∀ y, Owned (g.mk' σ.nx b c v w w') (σ.nx + 1) (upd σ.h σ.nx o) y → Owned g σ.nx σ.h y ∨ (y = b ∧ v = false) := by
    rintro y ⟨l, hl, hd, hv, hy⟩
    by_cases e : l = σ.nx
    · subst e; right; simp [G.mk', G.at, upd] at hy hv; exact ⟨hy.symm, hv⟩
    · left
      have hl' : l < σ.nx := by omega
      exact ⟨l, hl', by simpa [upd, e] using hd, by simpa [G.mk', G.at, upd, e] using hv, by simpa [G.mk', G.at, upd, e] using hy⟩
  have hown : ∀ y, Owned g σ.nx σ.h y → y < w.heap.size := fun y h => Owned.lt hr.hr h
  refine ⟨hr.size, tm_mono (σ := σ) hr hg (Nat.le_succ _) hw, ⟨?_, ?_, ?_, ?_, ?_, ?_, gl_mono hr.hr hg.I hg.J hw⟩, ?_, hr.df⟩
  · intro l hl
    by_cases e : l = σ.nx
    · subst e; simp only [upd, if_true]; exact hor
    · have hl' : l < σ.nx := by simp at hl; omega
      simp only [upd, e, if_false]
      exact (hr.hr.hp l hl').mono hg (Nat.le_succ _) hw hl' (by simp [G.mk', G.at, upd, e]) (fun hd hv => hb.block _ (hown _ ⟨l, hl', hd, hv, rfl⟩))
  · intro l hl
    simp at hl
    simp only [upd]; rw [if_neg (by omega)]; exact hr.hr.hd l (by omega)
  · intro l l' hl hl' hd hd' hv hv' he
    simp only at hl hl'
    by_cases e : l = σ.nx
    · by_cases e' : l' = σ.nx
      · rw [e, e']
      · exfalso
        have h1 : l' < σ.nx := by omega
        have := hown _ ⟨l', h1, by simpa [upd, e'] using hd', by simpa [G.mk', G.at, upd, e'] using hv', rfl⟩
        simp [G.mk', G.at, upd, e, e'] at he hv
        rcases hbv with h | h
        · rw [h] at hv; cases hv
        · omega
    · by_cases e' : l' = σ.nx
      · exfalso
        have h1 : l < σ.nx := by omega
        have := hown _ ⟨l, h1, by simpa [upd, e] using hd, by simpa [G.mk', G.at, upd, e] using hv, rfl⟩
        simp [G.mk', G.at, upd, e, e'] at he hv'
        rcases hbv with h | h
        · rw [h] at hv'; cases hv'
        · omega
      · exact hr.hr.inj l l' (by omega) (by omega) (by simpa [upd, e] using hd) (by simpa [upd, e'] using hd') (by simpa [G.mk', G.at, upd, e] using hv) (by simpa [G.mk', G.at, upd, e'] using hv') (by simpa [G.mk', G.at, upd, e, e'] using he)
  · rintro x (h | h)
    · have := hr.hr.Jlt x h; omega
    · exact h.2.1
  · rintro x (h | h)
    · exact .inl (hr.hr.IJ x h)
    · exact .inr h
  · rintro x hx ho
    rcases hold x ho with h | ⟨rfl, hv⟩
    · rcases hx with hx | hx
      · exact hr.hr.dis x hx h
      · have := hown x h; omega
    · rcases hbv with h | h
      · rw [h] at hv; cases hv
      · rcases hx with hx | hx
        · have := hr.hr.Jlt x hx; omega
        · exact hx.2.2 rfl
  · have hx := hr.ext
    refine ⟨hb.os.trans hx.os, hb.tape.trans hx.tape, hb.output.trans hx.output, by have := hx.size; omega, fun x h1 h2 => ?_, hx.gle.trans hx.nle hg, by have := hx.nle; simp; omega, ?_, fun x hx' => ?_⟩
    · rw [hb.block x (by have := hx.size; omega)]; exact hx.block x h1 h2
    · rintro x (h | h)
      · exact hx.inew x h
      · exact .inr (.inr (by have := hx.size; omega))
    · rcases hold x hx' with h | ⟨rfl, hv⟩
      · exact hx.own x h
      · rcases hbv with h | h
        · rw [h] at hv; cases hv
        · right; have := hx.size; omega

end

def QC (E : Env) (B : Base) (Q : Exit → St → Prop) : Exit → Act → World → Prop := fun e a w => ∃ g σ, Rel E B g σ w a ∧ Q e σ

/-- The code, begun in whatever state that σ tells of, ends as Q says. -/
def SWP (E : Env) (B : Base) (c : Code) (Q : Exit → St → Prop) (σ : St) : Prop := ∀ g w a, Rel E B g σ w a → c.wp E.P (QC E B Q) a w

section
variable {E : Env} {B : Base} {Q : Exit → St → Prop} {σ : St}

def after (K : St → Prop) (Q : Exit → St → Prop) : Exit → St → Prop
  | .normal, σ => K σ
  | e, σ => Q e σ

theorem SWP.mono {c : Code} {Q' : Exit → St → Prop} (h : SWP E B c Q σ) (hq : ∀ e σ, Q e σ → Q' e σ) : SWP E B c Q' σ :=
  fun g w a hr => wp_mono (h g w a hr) fun e a w ⟨g', σ', hr', hq'⟩ => ⟨g', σ', hr', hq _ _ hq'⟩

theorem swp_seq {x y : Code} (h : SWP E B x (after (SWP E B y Q) Q) σ) : SWP E B (.seq x y) Q σ := by
  intro g w a hr
  refine wp_seq (wp_mono (h g w a hr) ?_)
  rintro e a' w' ⟨g', σ', hr', hq⟩
  cases e with
  | normal => exact hq g' w' a' hr'
  | exit id => exact ⟨g', σ', hr', hq⟩
  | goto l => exact ⟨g', σ', hr', hq⟩
  | ret => exact ⟨g', σ', hr', hq⟩
  | panic ch => exact ⟨g', σ', hr', hq⟩
  | outgrown => exact ⟨g', σ', hr', hq⟩

theorem swp_skip (h : Q .normal σ) : SWP E B .skip Q σ := fun g _ _ hr => wp_skip ⟨g, σ, hr, h⟩
theorem swp_exit {id : Nat} (h : Q (.exit id) σ) : SWP E B (.exit id) Q σ := fun g _ _ hr => wp_exit ⟨g, σ, hr, h⟩
theorem swp_ret (h : Q .ret σ) : SWP E B .ret Q σ := fun g _ _ hr => wp_ret ⟨g, σ, hr, h⟩
theorem swp_label {l : Nat} (h : Q .normal σ) : SWP E B (.label l) Q σ := fun g _ _ hr => wp_label ⟨g, σ, hr, h⟩

theorem vr_bool {w : World} {g : G} {nx : Nat} {b : Bool} {x : Value} (h : VR w g nx (.d (.v (.bool b))) x) : x = .bool b := by
  cases h with
  | d _ _ h => cases h; rfl
theorem vr_val {w : World} {g : G} {nx : Nat} {v x : Value} (h : VR w g nx (.d (.v v)) x) : x = v := by
  cases h with
  | d _ _ h => cases h; rfl

theorem swp_cond {c : Operand} {x y : Code} (b : Bool) (hb : ev E σ c = .d (.v (.bool b))) (ht : b = true → SWP E B x Q σ) (hf : b = false → SWP E B y Q σ) : SWP E B (.cond c x y) Q σ := by
  intro g w a hr
  have he := ev_ok hr c
  rw [hb] at he
  refine wp_cond_split (vr_bool he) (fun e => ht e g w a hr) (fun e => hf e g w a hr)

def inBlk (id : Nat) (Q : Exit → St → Prop) : Exit → St → Prop
  | .exit id', σ => if id' = id then Q .normal σ else Q (.exit id') σ
  | e, σ => Q e σ

theorem after_exit {K : St → Prop} {id : Nat} (h : Q (.exit id) σ) : after K Q (.exit id) σ := h
theorem after_ret {K : St → Prop} (h : Q .ret σ) : after K Q .ret σ := h
theorem inblk_ret {id : Nat} (h : Q .ret σ) : inBlk id Q .ret σ := h
theorem after_go {K : St → Prop} (h : K σ) : after K Q .normal σ := h
theorem inblk_go {id : Nat} (h : Q .normal σ) : inBlk id Q .normal σ := h
theorem inblk_hit {id : Nat} (h : Q .normal σ) : inBlk id Q (.exit id) σ := by simp only [inBlk, if_true]; exact h
theorem inblk_miss {id id' : Nat} (hne : (id' == id) = false) (h : Q (.exit id') σ) : inBlk id Q (.exit id') σ := by
  have : ¬ id' = id := by simpa using hne
  simp only [inBlk, this, if_false]; exact h

theorem swp_block {id : Nat} {c : Code} (h : SWP E B c (inBlk id Q) σ) : SWP E B (.block id c) Q σ := by
  intro g w a hr
  refine wp_block (wp_mono (h g w a hr) ?_)
  rintro e a' w' ⟨g', σ', hr', hq⟩
  cases e with
  | exit id' =>
    simp only [Exit.inBlock, inBlk] at *
    split
    · rename_i e; rw [if_pos e] at hq; exact ⟨g', σ', hr', hq⟩
    · rename_i e; rw [if_neg e] at hq; exact ⟨g', σ', hr', hq⟩
  | normal => exact ⟨g', σ', hr', hq⟩
  | goto l => exact ⟨g', σ', hr', hq⟩
  | ret => exact ⟨g', σ', hr', hq⟩
  | panic ch => exact ⟨g', σ', hr', hq⟩
  | outgrown => exact ⟨g', σ', hr', hq⟩

theorem wp_loop_n {P : Program} {Q : Exit → Act → World → Prop} {a : Act} {w : World} {c : Code} (I : Nat → Act → World → Prop) (n : Nat) (h0 : I n a w)
    (round : ∀ n a w, I n a w → c.wp P (Exit.then (fun a' w' => ∃ m, m < n ∧ I m a' w') Q) a w) : (Code.loop c).wp P Q a w := by
  intro b k cs
  have key : ∀ n a w, I n a w →
      ∃ e a' w', Q e a' w' ∧ Arrives P (lone (b.at a (.code c :: .inLoop c :: k)) cs w) b k cs e a' w' := by
    intro n
    induction n using Nat.strongRecOn with
    | _ n ih =>
      intro a w hI
      obtain ⟨e, a₁, w₁, hq, harr⟩ := round n a w hI b (.inLoop c :: k) cs
      cases e with
      | normal =>
        obtain ⟨m, hlt, hI₁⟩ := hq
        obtain ⟨e₂, a₂, w₂, hq₂, harr₂⟩ := ih m hlt a₁ w₁ hI₁
        exact ⟨e₂, a₂, w₂, hq₂, .of_steps (Steps.trans harr (.one step_inLoop)) harr₂⟩
      | exit id => exact ⟨_, a₁, w₁, hq, .pass (x := .inLoop c) rfl (fun _ _ => .inl (by simp)) harr⟩
      | goto l => exact ⟨_, a₁, w₁, hq, .pass (x := .inLoop c) rfl (fun _ _ => .inl (by simp)) harr⟩
      | ret => exact ⟨_, a₁, w₁, hq, .pass (x := .inLoop c) rfl (fun _ _ => .inl (by simp)) harr⟩
      | panic ch => exact ⟨_, a₁, w₁, hq, .pass (x := .inLoop c) rfl (fun _ _ => .inl (by simp)) harr⟩
      | outgrown => exact ⟨_, a₁, w₁, hq, .pass (x := .inLoop c) rfl (fun _ _ => .inl (by simp)) harr⟩
  obtain ⟨e, a', w', hq, harr⟩ := key n a w h0
  exact ⟨e, a', w', hq, .of_steps (.one step_loop) harr⟩

/-- A loop: whoever stands at a round's head with n rounds at most before him. -/
theorem swp_loop {c : Code} (I : Nat → St → Prop) (n : Nat) (h0 : I n σ) (round : ∀ n σ, I n σ → SWP E B c (after (fun σ' => ∃ m, m < n ∧ I m σ') Q) σ) : SWP E B (.loop c) Q σ := by
  intro g w a hr
  refine wp_loop_n (fun n a w => ∃ g σ, Rel E B g σ w a ∧ I n σ) n ⟨g, σ, hr, h0⟩ ?_
  rintro n a w ⟨g, σ, hr, hI⟩
  refine wp_mono (round n σ hI g w a hr) ?_
  rintro e a' w' ⟨g', σ', hr', hq⟩
  cases e with
  | normal => obtain ⟨m, hm, hI'⟩ := hq; exact ⟨m, hm, g', σ', hr', hI'⟩
  | exit id => exact ⟨g', σ', hr', hq⟩
  | goto l => exact ⟨g', σ', hr', hq⟩
  | ret => exact ⟨g', σ', hr', hq⟩
  | panic ch => exact ⟨g', σ', hr', hq⟩
  | outgrown => exact ⟨g', σ', hr', hq⟩

/-- An operation's ways: any; one that turns nothing and makes nothing; one that makes an object. -/
inductive Md where
  | all | quiet | new
class Qt (q : Md) : Prop where
  h : q ≠ .new
class Nw (q : Md) : Prop where
  h : q ≠ .quiet
instance : Qt .all := ⟨by simp⟩
instance : Qt .quiet := ⟨by simp⟩
instance : Nw .all := ⟨by simp⟩
instance : Nw .new := ⟨by simp⟩

def G.ext (g : G) (w w' : World) : G := { g with I := resI g.I w w', J := fun b => g.J b ∨ resI g.I w w' b }

def QStep (E : Env) (o : Oper) (σ : St) (v : AV) : Prop :=
  ∀ B g w a, Rel E B g σ w a → ∀ (next : Act → World → Prop) (Q' : Exit → Act → World → Prop), (∀ w' x, Below w.heap.size w w' → VR w' (g.ext w w') σ.nx v x → next (a.put o.dst x) w') → o.wp E.P a w next Q'
def AStep (E : Env) (o : Oper) (σ : St) (v : AV) (ob : AO) : Prop :=
  ∀ B g w a, Rel E B g σ w a → ∀ (next : Act → World → Prop) (Q' : Exit → Act → World → Prop), (∀ w' x b c vt, Below w.heap.size w w' → (vt = true ∨ (w.heap.size ≤ b ∧ b < w'.heap.size)) →
    OR w' (g.mk' σ.nx b c vt w w') (σ.nx + 1) σ.nx ob → VR w' (g.mk' σ.nx b c vt w w') (σ.nx + 1) v x → next (a.put o.dst x) w') → o.wp E.P a w next Q'

theorem below_alloc (w : World) (obj : Obj) : Below w.heap.size w (w.alloc obj) := (Below.refl _ _).alloc (Nat.le_refl _) _
theorem mk_alloc (g : G) (l c : Nat) (w : World) (obj : Obj) : g.mk' l w.heap.size c false w (w.alloc obj) = g.at l w.heap.size c false := by
  unfold G.mk' G.at
  simp only [G.mk.injEq, true_and, and_true]
  refine ⟨funext fun x => ?_, funext fun x => ?_⟩ <;> (simp only [eq_iff_iff]; constructor)
  · rintro (h | h)
    · exact h
    · simp at h; omega
  · exact .inl
  · rintro (h | h)
    · exact h
    · simp at h; omega
  · exact .inl
/-- An operation that does but make an object. -/
theorem astep_of {E : Env} {o : Oper} {σ : St} {v : AV} {ob : AO} (h : ∀ B g w a, Rel E B g σ w a → ∃ x obj c0, (execOp a.eval o).run E.P w = .ok (.value x) (w.alloc obj) ∧ OR (w.alloc obj) (g.at σ.nx w.heap.size c0 false) (σ.nx + 1) σ.nx ob ∧ VR (w.alloc obj) (g.at σ.nx w.heap.size c0 false) (σ.nx + 1) v x) :
    AStep E o σ v ob := fun B g w a hr next Q' hn => by
  obtain ⟨x, obj, c0, hx, hor, hv⟩ := h B g w a hr
  unfold Oper.wp
  rw [hx, Oper.upon_value]
  exact hn _ x w.heap.size c0 false (below_alloc w obj) (.inr ⟨Nat.le_refl _, by simp⟩) (by rw [mk_alloc]; exact hor) (by rw [mk_alloc]; exact hv)

/-- One operation. -/
def Step (q : Md) (E : Env) (B : Base) (o : Oper) (K : St → Prop) (Q : Exit → St → Prop) (σ : St) : Prop :=
  match q with
  | .all => ∀ g w a, Rel E B g σ w a → ∀ next : Act → World → Prop, (∀ g' σ' w' a', Rel E B g' σ' w' a' → K σ' → next a' w') → o.wp E.P a w next (QC E B Q)
  | .quiet => ∃ v, QStep E o σ v ∧ dlt o.dst σ.n = true ∧ K (σ.put o.dst v)
  | .new => ∃ v ob, AStep E o σ v ob ∧ ob ≠ .dead ∧ dlt o.dst σ.n = true ∧ K (St.put { σ with h := upd σ.h σ.nx ob, nx := σ.nx + 1 } o.dst v)

/-- A region's operations, from one on. -/
def SOps (E : Env) (B : Base) (ops : Array Oper) (l : List Oper) (Q : Exit → St → Prop) (σ : St) : Prop := ∀ g w a, Rel E B g σ w a → wpList E.P ops (QC E B Q) l a w

theorem sops_nil {ops : Array Oper} (h : Q .normal σ) : SOps E B ops [] Q σ := fun g w a hr => wpList_nil ⟨g, σ, hr, h⟩

/-- What stands where an operation did not run. -/
abbrev un : AV := .d (.v undef)
/-- Does the operation run? -/
def runs (ops : Array Oper) (o : Oper) (σ : St) (b : Bool) : Prop :=
  match o.guard with
  | none => b = true
  | some (j, want) => ∃ d, (ops[j]?).bind (·.dst) = some d ∧ d < σ.n ∧ ((∃ t, σ.t d = .d (.v (.bool t)) ∧ b = (t == want)) ∨ (σ.t d = un ∧ b = false))

theorem runs_ok {ops : Array Oper} {o : Oper} {b : Bool} (h : runs ops o σ b) {g : G} {w : World} {a : Act} (hr : Rel E B g σ w a) : Region.wanted o (yielded ops a.tmps) = b := by
  unfold runs at h
  unfold Region.wanted
  split at h
  · rename_i hg; rw [hg]; exact h.symm
  · rename_i j want hg
    rw [hg]
    obtain ⟨d, h1, h2, ⟨t, h3, rfl⟩ | ⟨h3, rfl⟩⟩ := h
    · have ht := hr.tm d
      rw [h3] at ht
      have hx := vr_bool ht
      rw [Array.getD_eq_getD_getElem?] at hx
      have hlt : d < a.tmps.size := by rw [hr.size]; exact h2
      rw [Array.getElem?_eq_getElem hlt] at hx
      simp only [Option.getD_some] at hx
      simp only [yielded, h1, Option.bind_some, Array.getElem?_eq_getElem hlt, hx]
      cases t <;> cases want <;> rfl
    · have ht := hr.tm d
      rw [h3] at ht
      have hx := vr_val ht
      rw [Array.getD_eq_getD_getElem?] at hx
      have hlt : d < a.tmps.size := by rw [hr.size]; exact h2
      rw [Array.getElem?_eq_getElem hlt] at hx
      simp only [Option.getD_some] at hx
      simp only [yielded, h1, Option.bind_some, Array.getElem?_eq_getElem hlt, hx, undef]
      cases want <;> rfl

theorem sops_cons {ops : Array Oper} {o : Oper} {l : List Oper} (b : Bool) (hb : runs ops o σ b) (ht : b = true → Step .all E B o (SOps E B ops l Q) Q σ)
    (hf : b = false → dlt o.dst σ.n = true ∧ SOps E B ops l Q (σ.put o.dst un)) : SOps E B ops (o :: l) Q σ := by
  intro g w a hr
  have hw := runs_ok hb hr
  unfold wpList
  cases b with
  | true => rw [if_pos hw]; exact .inl (ht rfl g w a hr _ fun g' σ' w' a' hr' hK => hK g' w' a' hr')
  | false =>
    rw [if_neg (by rw [hw]; simp)]
    exact (hf rfl).2 g w _ (rel_put hr (hf rfl).1 (.d _ _ (.v _)))

theorem swp_region {id : Nat} {l : List Oper} (h : SOps E B l.toArray l Q σ) : SWP E B (.region id l.toArray false) Q σ := fun g w a hr => wp_region_lit (h g w a hr)

theorem vr_ext {g : G} {w w' : World} {nx : Nat} {v : AV} {x : Value} (hJ : ∀ b, g.J b → w'.heap[b]? = w.heap[b]?) (h : VR w g nx v x) : VR w' (g.ext w w') nx v x :=
  h.mono (g' := g.ext w w') ⟨fun _ h => Or.inl h, fun _ h => Or.inl h, fun _ _ => Nat.le_refl _, fun _ _ _ => ⟨rfl, rfl, rfl⟩⟩ (Nat.le_refl _) hJ

/-- An operation that turns nothing. -/
theorem step_q {q : Md} [Qt q] {o : Oper} {K : St → Prop} (v : AV) (hq : QStep E o σ v) (hd : dlt o.dst σ.n = true) (hK : K (σ.put o.dst v)) : Step q E B o K Q σ := by
  cases q with
  | all =>
    intro g w a hr next hn
    exact hq B g w a hr next _ fun w' x hb hv => hn (g.ext w w') _ w' _ (rel_put (rel_below hr hb) hd hv) hK
  | quiet => exact ⟨v, hq, hd, hK⟩
  | new => exact absurd rfl (Qt.h (q := Md.new))

/-- An operation that only tells a value. -/
theorem step_val {q : Md} [Qt q] {o : Oper} {K : St → Prop} (v : AV) (hrun : ∀ B g w a, Rel E B g σ w a → ∃ x, (execOp a.eval o).run E.P w = .ok (.value x) w ∧ VR w g σ.nx v x)
    (hd : dlt o.dst σ.n = true) (hK : K (σ.put o.dst v)) : Step q E B o K Q σ := by
  refine step_q v (fun B g w a hr next Q' hn => ?_) hd hK
  obtain ⟨x, hx, hv⟩ := hrun B g w a hr
  unfold Oper.wp
  rw [hx, Oper.upon_value]
  exact hn w x (Below.refl _ _) (vr_ext (fun _ _ => rfl) hv)

/-- An operation that makes an object. -/
theorem step_newW {q : Md} [Nw q] {o : Oper} {K : St → Prop} (v : AV) (ob : AO) (hne : ob ≠ .dead) (ha : AStep E o σ v ob)
    (hd : dlt o.dst σ.n = true) (hK : K (St.put { σ with h := upd σ.h σ.nx ob, nx := σ.nx + 1 } o.dst v)) : Step q E B o K Q σ := by
  cases q with
  | all =>
    intro g w a hr next hn
    exact ha B g w a hr next _ fun w' x b c vt hb hbv hor hv => hn _ _ _ _ (rel_put (rel_new hr hb b c vt hbv ob hor) hd hv) hK
  | quiet => exact absurd rfl (Nw.h (q := Md.quiet))
  | new => exact ⟨v, ob, ha, hne, hd, hK⟩
theorem step_new {q : Md} [Nw q] {o : Oper} {K : St → Prop} (v : AV) (ob : AO) (hne : ob ≠ .dead) (ha : ∀ B g w a, Rel E B g σ w a → ∃ x obj c0, (execOp a.eval o).run E.P w = .ok (.value x) (w.alloc obj) ∧ OR (w.alloc obj) (g.at σ.nx w.heap.size c0 false) (σ.nx + 1) σ.nx ob ∧ VR (w.alloc obj) (g.at σ.nx w.heap.size c0 false) (σ.nx + 1) v x)
    (hd : dlt o.dst σ.n = true) (hK : K (St.put { σ with h := upd σ.h σ.nx ob, nx := σ.nx + 1 } o.dst v)) : Step q E B o K Q σ := step_newW v ob hne (astep_of ha) hd hK

/-- An operation that makes or turns objects of the call's own. -/
theorem step_obj {o : Oper} {K : St → Prop} (v : AV) (h' : Nat → AO) (nx' : Nat)
    (hrun : ∀ g w a, Rel E B g σ w a → ∃ x w' g', (execOp a.eval o).run E.P w = .ok (.value x) w' ∧ Rel E B g' { σ with h := h', nx := nx' } w' a ∧ VR w' g' nx' v x)
    (hd : dlt o.dst σ.n = true) (hK : K (St.put { σ with h := h', nx := nx' } o.dst v)) : Step .all E B o K Q σ := by
  intro g w a hr next hn
  obtain ⟨x, w', g', hx, hr', hv⟩ := hrun g w a hr
  unfold Oper.wp
  rw [hx, Oper.upon_value]
  exact hn g' _ w' _ (rel_put hr' hd hv) hK

theorem step_skip {o : Oper} {K : St → Prop} (h' : Nat → AO) (nx' : Nat)
    (hrun : ∀ g w a, Rel E B g σ w a → ∃ w' g', (execOp a.eval o).run E.P w = .ok .skip w' ∧ Rel E B g' { σ with h := h', nx := nx' } w' a)
    (hd : dlt o.dst σ.n = true) (hK : K (St.put { σ with h := h', nx := nx' } o.dst .any)) : Step .all E B o K Q σ := by
  intro g w a hr next hn
  obtain ⟨w', g', hx, hr'⟩ := hrun g w a hr
  unfold Oper.wp
  rw [hx, Oper.upon_skip]
  exact hn g' _ w' _ (rel_put hr' hd (.any _)) hK
end
end Go.Proofs.YtdcpnpcmgfmenaaDoor.Lg
