/-
  What comes in, read as trees. Conditions: none.
-/
import Derived.Test.YtdcpnpcmgfmenaaDoorVe
import Derived.Test.YtdcpnpcmgfmenaaDoorPp
import Derived.Deep.Slices
import Derived.LaidMore
import Derived.OpenShut
set_option linter.unusedVariables false
set_option linter.unusedSimpArgs false
set_option maxRecDepth 100000
namespace Go.Proofs.YtdcpnpcmgfmenaaDoor
open Go Go.Proofs.YtdcpnpcmgfmenaaDoor.Lg Go.ChangeShapes Go.WideShapes Go.RowKit

def Lt (W : World) : Nat → Prop := fun b => b < W.heap.size
def DRs (W : World) (ds : List D) (cs : List Value) : Prop := cs.length = ds.length ∧ ∀ (i : Nat) c v, ds[i]? = some c → cs[i]? = some v → DR W (Lt W) (Lt W) c v

theorem choose_list {α : Type} {p : Nat → α → Prop} : ∀ n : Nat, (∀ i, i < n → ∃ y, p i y) → ∃ l : List α, l.length = n ∧ ∀ (i : Nat) (h : i < l.length), p i l[i]
  | 0, _ => ⟨[], rfl, fun i h => absurd h (by simp)⟩
  | n + 1, h => by
    obtain ⟨l, h1, h2⟩ := choose_list n fun i hi => h i (by omega)
    obtain ⟨y, hy⟩ := h n (by omega)
    refine ⟨l ++ [y], by simp [h1], fun i hi => ?_⟩
    by_cases e : i < l.length
    · rw [List.getElem_append_left e]; exact h2 i e
    · have : i = l.length := by simp at hi; omega
      subst this
      simp [h1]; exact hy

section
variable {H : Type} {enc : TypeId × Value → H} {W : World} {base : Nat} {sp : Nat → Bool} {held : Bool}

theorem drs_one {d : D} {v : Value} (h : DR W (Lt W) (Lt W) d v) : DRs W [d] [v] := ⟨rfl, fun i c v' h1 h2 => by
  cases i with
  | zero => simp at h1 h2; subst h1; subst h2; exact h
  | succ i => simp at h1⟩

theorem read_slice {α : Type} {cells : α → List D} {Q : α → Prop} {t e sz : Nat} (ht : Tryd.prog.underlying t = some (.slice e)) (hsz : Tryd.prog.cellsOf e = sz) (h0 : 0 < sz) (hc : ∀ y, (cells y).length = sz) {n : Nat} {cs : List Value} {x : DataW H × List MemPlace}
    (h : DataW.trod enc Tryd.prog W base sp held n t cs = some x) (rd : ∀ m, m < n → ∀ cs x, DataW.trod enc Tryd.prog W base sp held m e cs = some x → ∃ y : α, Q y ∧ DRs W (cells y) cs) :
    ∃ l : List α, (∀ y ∈ l, Q y) ∧ DRs W [.sl true (l.map cells)] cs := by
  rcases DataW.trod_slice ht h with ⟨rfl, _⟩ | ⟨a, len, cap, elems, rest, m, rfl, rfl, _, hb, hl, hm, hlen, hel, _, _⟩
  · exact ⟨[], by simp, drs_one (.nil _ _ _)⟩
  rw [hsz] at hel
  obtain ⟨l, hll, hl'⟩ := choose_list (p := fun i y => Q y ∧ ∃ cs', W.cells? base (a.add (i * sz)) sz = some cs' ∧ DRs W (cells y) cs') len fun i hi => by
    have := hel i hi
    rw [List.getElem?_eq_getElem (by omega)] at this
    obtain ⟨cs', h1, h2⟩ := Option.bind_eq_some_iff.1 this
    obtain ⟨y, hy, hd⟩ := rd m (by omega) cs' _ h2
    exact ⟨y, hy, cs', h1, hd⟩
  refine ⟨l, fun y hy => ?_, ?_⟩
  · obtain ⟨i, hi, rfl⟩ := List.mem_iff_getElem.1 hy
    exact (hl' i hi).1
  · by_cases hz : len = 0
    · subst hz
      have : l = [] := List.eq_nil_of_length_eq_zero hll
      subst this
      exact drs_one (.nil _ _ _)
    · have hspot : ∃ b off, a = ⟨b, off, none⟩ := by
        obtain ⟨_, cs', h1, h2⟩ := hl' 0 (by omega)
        obtain ⟨_, h3, h4⟩ := World.cells?_some h1
        have h5 := h4 0 h0
        rw [List.getElem?_eq_getElem (by omega)] at h5
        have e0 : (a.add (0 * sz)).add 0 = a := by simp [Addr.add]
        rw [e0] at h5
        obtain ⟨b, off, s⟩ := a
        cases s with
        | none => exact ⟨b, off, rfl⟩
        | some s => simp [World.cell?] at h5; split at h5 <;> simp at h5
      obtain ⟨b, off, rfl⟩ := hspot
      have hcell : ∀ (q : Nat) (hq : q < l.length) (r : Nat), r < sz → ∃ v, W.cell? ⟨b, off + (q * sz + r), none⟩ = some v ∧ ∀ c, (cells l[q])[r]? = some c → DR W (Lt W) (Lt W) c v := by
        intro q hq r hr
        obtain ⟨_, cs', h1, h2, h3⟩ := hl' q hq
        obtain ⟨_, h4, h5⟩ := World.cells?_some h1
        have h6 := h5 r hr
        have e0 : ((⟨b, off, none⟩ : Addr).add (q * sz)).add r = ⟨b, off + (q * sz + r), none⟩ := by rw [add_mk, add_mk, Nat.add_assoc]
        rw [e0, List.getElem?_eq_getElem (by omega)] at h6
        exact ⟨_, h6, fun c hc => h3 r c _ hc (List.getElem?_eq_getElem (by omega))⟩
      have hlt : b < W.heap.size := by
        obtain ⟨v, h1, _⟩ := hcell 0 (by omega) 0 h0
        unfold World.cell? at h1
        split at h1
        · rename_i hh; exact (Array.getElem?_eq_some_iff.1 hh).1
        · cases h1
      have hrow : ∀ r ∈ l.map cells, r.length = sz := by
        intro r hr; obtain ⟨y, _, rfl⟩ := List.mem_map.1 hr; exact hc y
      have inv : ∀ (i : Nat) c, (l.map cells).flatten[i]? = some c → ∃ v, W.cell? ⟨b, off + i, none⟩ = some v ∧ DR W (Lt W) (Lt W) c v := by
        intro i c hi
        have hlen' := flat_length hrow
        have hi' : i < (l.map cells).length * sz := by rw [← hlen']; exact (List.getElem?_eq_some_iff.1 hi).1
        have hq : i / sz < l.length := by
          have := Nat.div_lt_of_lt_mul (m := i) (n := sz) (k := (l.map cells).length) (by rw [Nat.mul_comm]; exact hi')
          simpa using this
        have hr : i % sz < sz := Nat.mod_lt _ h0
        have e : i / sz * sz + i % sz = i := by rw [Nat.mul_comm]; exact Nat.div_add_mod i sz
        have hf := flat_at (es := l.map cells) hrow (i := i / sz) (row := cells l[i / sz]) (by simp [hq]) hr
        rw [e] at hf
        obtain ⟨v, h1, h2⟩ := hcell _ hq _ hr
        rw [e] at h1
        exact ⟨v, h1, h2 c (by rw [← hf]; exact hi)⟩
      have hsl := DR.sl (w := W) (I := Lt W) (J := Lt W) true (l.map cells) b off cap (fun i => (W.cell? ⟨b, off + i, none⟩).getD undef) (fun _ => hlt) hlt (by simp; omega) (fun i c hi => by
        obtain ⟨v, h1, _⟩ := inv i c hi
        simp only [h1, Option.getD_some]) (fun i c hi => by
        obtain ⟨v, h1, h2⟩ := inv i c hi
        simp only [h1, Option.getD_some]; exact h2)
      have el : (l.map cells).length = len := by simp [hll]
      rw [el] at hsl
      exact drs_one hsl

theorem read_str {t : Nat} (ht : Tryd.prog.underlying t = some .string) {n : Nat} {cs : List Value} {x : DataW H × List MemPlace} (h : DataW.trod enc Tryd.prog W base sp held n t cs = some x) : ∃ s : ByteArray, fits s ∧ DRs W [.v (.string s)] cs := by
  obtain ⟨s, rfl, _, hs⟩ := DataW.trod_string ht h
  exact ⟨s, by simpa [fits, maxLen] using hs, drs_one (.v _)⟩
theorem read_int {t : Nat} {k : IntKind} (ht : Tryd.prog.underlying t = some (.int k)) {n : Nat} {cs : List Value} {x : DataW H × List MemPlace} (h : DataW.trod enc Tryd.prog W base sp held n t cs = some x) : ∃ z : Int, DRs W [.v (.int k z)] cs := by
  obtain ⟨z, rfl, _, _⟩ := DataW.trod_int ht h
  exact ⟨z, drs_one (.v _)⟩
theorem read_bool {t : Nat} (ht : Tryd.prog.underlying t = some .bool) {n : Nat} {cs : List Value} {x : DataW H × List MemPlace} (h : DataW.trod enc Tryd.prog W base sp held n t cs = some x) : ∃ z : Bool, DRs W [.v (.bool z)] cs := by
  obtain ⟨z, rfl, _⟩ := DataW.trod_bool ht h
  exact ⟨z, drs_one (.v _)⟩

/-- A part of the cells at a place. -/
theorem drs_cons {d : D} {ds : List D} {cs : List Value} (h1 : DRs W [d] (cs.take 1)) (h2 : DRs W ds (cs.drop 1)) (hl : cs.length = ds.length + 1) : DRs W (d :: ds) cs := by
  refine ⟨by simp [hl], fun i c v hc hv => ?_⟩
  cases i with
  | zero => exact h1.2 0 c v (by simpa using hc) (by simpa using hv)
  | succ i => exact h2.2 i c v (by simpa using hc) (by simpa [Nat.add_comm] using hv)

theorem read_strs {t : Nat} (ht : Tryd.prog.underlying t = some (.slice 9)) {n : Nat} {cs : List Value} {x : DataW H × List MemPlace} (h : DataW.trod enc Tryd.prog W base sp held n t cs = some x) : ∃ l : List ByteArray, (∀ s ∈ l, fits s) ∧ DRs W [.sl true (strRows l)] cs :=
  read_slice (cells := fun s => [.v (.string s)]) (Q := fits) ht (by kernel_rfl) (by decide) (fun _ => rfl) h fun m _ cs x hx => read_str Tryd.underlying9 hx
theorem read_T : ∀ (n : Nat) (cs : List Value) (x : DataW H × List MemPlace), DataW.trod enc Tryd.prog W base sp held n 26 cs = some x → ∃ t : T, t.fit ∧ DRs W t.cells cs := by
  intro n
  induction n using Nat.strongRecOn with
  | _ n ih =>
    intro cs x h
    obtain ⟨xs, m, rfl, _, hl, hxl, hf⟩ := DataW.trod_struct Tryd.underlying26 h
    have c : Tryd.prog.cellsOf 26 = 3 := by kernel_rfl
    rw [c] at hl
    have g : ∀ i, i < 3 → ∃ y, xs[i]? = some y := fun i hi => ⟨xs[i]'(by rw [hxl]; exact hi), List.getElem?_eq_getElem _⟩
    obtain ⟨y0, e0⟩ := g 0 (by omega)
    obtain ⟨y1, e1⟩ := g 1 (by omega)
    obtain ⟨y2, e2⟩ := g 2 (by omega)
    have f0 := hf 0 _ rfl
    have f1 := hf 1 _ rfl
    have f2 := hf 2 _ rfl
    rw [e0] at f0
    rw [e1] at f1
    rw [e2] at f2
    obtain ⟨z, hz⟩ := read_int Tryd.underlying22 f0
    obtain ⟨names, hn1, hn2⟩ := read_strs Tryd.underlying23 f1
    obtain ⟨list, hl1, hl2⟩ := read_slice (cells := T.cells) (Q := T.fit) Tryd.underlying24 c (by decide) T.cells_length f2 fun m' hm' cs x hx => ih m' (by omega) cs x hx
    refine ⟨.mk z names list, ⟨hn1, (T.fitL_iff list).2 hl1⟩, ?_⟩
    rw [← T.rows_eq] at hl2
    match cs, hl with
    | [c0, c1, c2], _ => exact drs_cons hz (drs_cons hn2 (drs_cons hl2 ⟨rfl, fun i c v hc => by simp at hc⟩ rfl) rfl) rfl
theorem read_V : ∀ (n : Nat) (cs : List Value) (x : DataW H × List MemPlace), DataW.trod enc Tryd.prog W base sp held n 41 cs = some x → ∃ t : V, t.fit ∧ DRs W t.cells cs := by
  intro n
  induction n using Nat.strongRecOn with
  | _ n ih =>
    intro cs x h
    obtain ⟨xs, m, rfl, _, hl, hxl, hf⟩ := DataW.trod_struct Tryd.underlying41 h
    have c : Tryd.prog.cellsOf 41 = 9 := by kernel_rfl
    rw [c] at hl
    have g : ∀ i, i < 7 → ∃ y, xs[i]? = some y := fun i hi => ⟨xs[i]'(by rw [hxl]; exact hi), List.getElem?_eq_getElem _⟩
    obtain ⟨y0, e0⟩ := g 0 (by omega)
    obtain ⟨y1, e1⟩ := g 1 (by omega)
    obtain ⟨y2, e2⟩ := g 2 (by omega)
    obtain ⟨y3, e3⟩ := g 3 (by omega)
    obtain ⟨y4, e4⟩ := g 4 (by omega)
    obtain ⟨y5, e5⟩ := g 5 (by omega)
    obtain ⟨y6, e6⟩ := g 6 (by omega)
    have f0 := hf 0 _ rfl
    have f1 := hf 1 _ rfl
    have f2 := hf 2 _ rfl
    have f3 := hf 3 _ rfl
    have f4 := hf 4 _ rfl
    have f5 := hf 5 _ rfl
    have f6 := hf 6 _ rfl
    rw [e0] at f0
    rw [e1] at f1
    rw [e2] at f2
    rw [e3] at f3
    rw [e4] at f4
    rw [e5] at f5
    rw [e6] at f6
    obtain ⟨kind, h0⟩ := read_int Tryd.underlying35 f0
    obtain ⟨flag, h1⟩ := read_bool Tryd.underlying4 f1
    obtain ⟨ys, m', rfl, _, hl', hxl', hf'⟩ := DataW.trod_struct Tryd.underlying37 f2
    have g' : ∀ i, i < 3 → ∃ y, ys[i]? = some y := fun i hi => ⟨ys[i]'(by rw [hxl']; exact hi), List.getElem?_eq_getElem _⟩
    obtain ⟨y0', e0'⟩ := g' 0 (by omega)
    obtain ⟨y1', e1'⟩ := g' 1 (by omega)
    obtain ⟨y2', e2'⟩ := g' 2 (by omega)
    have f0' := hf' 0 _ rfl
    have f1' := hf' 1 _ rfl
    have f2' := hf' 2 _ rfl
    rw [e0'] at f0'
    rw [e1'] at f1'
    rw [e2'] at f2'
    obtain ⟨neg, h0'⟩ := read_bool Tryd.underlying4 f0'
    obtain ⟨digits, hd, h1'⟩ := read_str Tryd.underlying9 f1'
    obtain ⟨exp, h2'⟩ := read_int Tryd.underlying3 f2'
    obtain ⟨bits, h3⟩ := read_int Tryd.underlying38 f3
    obtain ⟨text, ht, h4⟩ := read_str Tryd.underlying9 f4
    obtain ⟨names, hn1, h5⟩ := read_strs Tryd.underlying23 f5
    obtain ⟨list, hl1, h6⟩ := read_slice (cells := V.cells) (Q := V.fit) Tryd.underlying39 c (by decide) V.cells_length f6 fun m'' hm' cs x hx => ih m'' (by omega) cs x hx
    refine ⟨.mk kind flag neg digits exp bits text names list, ⟨hd, ht, hn1, (V.fitL_iff list).2 hl1⟩, ?_⟩
    rw [← V.rows_eq] at h6
    match cs, hl with
    | [c0, c1, c2, c3, c4, c5, c6, c7, c8], _ =>
      exact drs_cons h0 (drs_cons h1 (drs_cons h0' (drs_cons h1' (drs_cons h2' (drs_cons h3 (drs_cons h4 (drs_cons h5 (drs_cons h6 ⟨rfl, fun i c v hc => by simp at hc⟩ rfl) rfl) rfl) rfl) rfl) rfl) rfl) rfl) rfl
end
end Go.Proofs.YtdcpnpcmgfmenaaDoor
