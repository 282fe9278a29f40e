/-
  Slices built and cut, texts, comparisons. Conditions: none.
-/
import Derived.Test.YtdcpnpcmgfmenaaDoorSn
import Derived.Laws.Slices
import Derived.Laws.Strings2
import Derived.Laws.Pointers
import Derived.Laws.Small
import Derived.Laws.IdiomStrings
set_option linter.unusedSimpArgs false
set_option linter.unusedVariables false
namespace Go.Proofs.YtdcpnpcmgfmenaaDoor.Lg
open Go Go.RowKit

def chunks (sz len : Nat) (cs : List AV) : List (List AV) := (List.range len).map fun i => (cs.drop (i * sz)).take sz
theorem chunks_flatten (sz : Nat) : ∀ (len : Nat) (cs : List AV), cs.length = len * sz → (chunks sz len cs).flatten = cs
  | 0, cs, h => by
    have : cs = [] := List.eq_nil_of_length_eq_zero (by simpa using h)
    simp [chunks, this]
  | len + 1, cs, h => by
    have h1 : (cs.take (len * sz)).length = len * sz := by simp [h, Nat.add_mul]
    have h2 : chunks sz (len + 1) cs = chunks sz len (cs.take (len * sz)) ++ [(cs.drop (len * sz)).take sz] := by
      unfold chunks
      rw [List.range_succ, List.map_append]
      congr 1
      apply List.map_congr_left
      intro i hi
      have hi' : i < len := by simpa using hi
      have : i * sz + sz ≤ len * sz := by
        have := Nat.mul_le_mul_right sz (show i + 1 ≤ len from hi')
        rwa [Nat.add_mul, Nat.one_mul] at this
      rw [List.drop_take, List.take_take, Nat.min_eq_left (by omega)]
    rw [h2, List.flatten_append, chunks_flatten sz len _ h1]
    simp only [List.flatten_cons, List.flatten_nil, List.append_nil]
    rw [List.take_of_length_le (l := cs.drop (len * sz)) (by simp [h, Nat.add_mul]), List.take_append_drop]
theorem chunks_row {sz len : Nat} {cs : List AV} (h : cs.length = len * sz) : ∀ r ∈ chunks sz len cs, r.length = sz := by
  intro r hr
  obtain ⟨i, hi, rfl⟩ := List.mem_map.1 hr
  have hi' : i < len := by simpa using hi
  have : i * sz + sz ≤ len * sz := by
    have := Nat.mul_le_mul_right sz (show i + 1 ≤ len from hi')
    rwa [Nat.add_mul, Nat.one_mul] at this
  simp; omega

section
variable {E : Env} {B : Base} {Q : Exit → St → Prop} {σ : St} {o : Oper} {K : St → Prop}

theorem fillA_len (place : Nat → Option (Nat × Nat)) : ∀ (parts : List (Nat × Operand)) (cs res : List AV), fillA E σ place parts cs = some res → res.length = cs.length
  | [], cs, res, h => by simp only [fillA, Option.some.injEq] at h; rw [h]
  | (i, x) :: r, cs, res, h => by
    simp only [fillA] at h
    cases hp : place i with
    | none => rw [hp] at h; cases h
    | some q =>
      cases hc : cellsA (ev E σ x) with
      | none => rw [hp, hc] at h; cases h
      | some ys =>
        rw [hp, hc] at h
        simp only at h
        cases hb : (Nat.beq ys.length q.2 && Nat.ble (q.1 + ys.length) cs.length) with
        | false => rw [hb] at h; cases h
        | true =>
          rw [hb, cond_true] at h
          simp only [Bool.and_eq_true] at hb
          rw [fillA_len place r _ _ h, splice_length _ _ _ (Nat.le_of_ble_eq_true hb.2)]

theorem so_buildSlice {q : Md} [Nw q] {rows : List (List AV)} {t : TypeId} {len : Nat} {parts : Array (Nat × Operand)} (ho : o.op = .buildSlice t len parts) {i : TI} (hi : E.ti t = some i) {e : TypeId} (ht : i.desc = .slice e) {j : TI} (hj : E.ti e = some j)
    {cs : List AV} (hc : fillA E σ (fun i => some (i * j.size, j.size)) parts.toList (List.replicate (len * j.size) .any) = some cs) (hrows : chunks j.size len cs = rows) (hb : Nat.ble (len * j.size) 16777216 = true) (hm : Nat.ble len maxLen = true)
    (hd : dlt o.dst σ.n = true) (hK : K (St.put { σ with h := upd σ.h σ.nx (.arr 0 e j.size rows), nx := σ.nx + 1 } o.dst (.own σ.nx 0 j.size 0 len))) : Step q E B o K Q σ := by
  subst hrows
  refine step_new _ _ (by simp) (fun B g w a hr => ?_) hd hK
  have hb : len * j.size ≤ 16777216 := Nat.le_of_ble_eq_true hb
  have hm : len ≤ maxLen := Nat.le_of_ble_eq_true hm
  obtain ⟨hu, _⟩ := E.ok t i hi
  obtain ⟨_, f, hf1, hf2, hf3, hf4⟩ := E.ok e j hj
  have hcl : cs.length = len * j.size := by rw [fillA_len _ _ _ _ hc]; simp
  have hzv : (zeroValue e).run E.P w = .ok j.zero w := by simp [zeroValue, typeInfo, program, hf1, hf4, Sem.run, Sem.bind, pure, bind]
  obtain ⟨z, hz⟩ : ∃ z : Array Value, z = if len * j.size = 0 then #[] else j.zero.cells := ⟨_, rfl⟩
  obtain ⟨ys, y1, y2, y3⟩ := fillA_ok hr _ _ _ ((Array.range (len * j.size)).map (z[· % z.size]!)) _ hc (by simp) (fun i c x hi hx => by
    have : c = .any := by
      rw [List.getElem?_replicate] at hi
      split at hi <;> simp_all
    rw [this]; exact .any _)
  refine ⟨.slice (some ⟨w.heap.size, 0, none⟩) len len, .cells ys e, len, ?_, ?_, ?_⟩
  · simp only [execOp, ho]
    refine run_v ?_
    have hy : Instr.fill (fun i => some (i * j.size, j.size)) ((Array.range (len * j.size)).map (z[· % z.size]!)) (parts.map fun p => (p.1, a.eval p.2)).toList = some ys := by rw [← y1]; simp
    have hnb : ¬ len * j.size > 2 ^ 24 := by omega
    simp only [Instr.buildSlice, Sem.run_bind, run_underlying (by rw [hu, ht] : E.P.underlying t = some (.slice e)), Result.andThen_ok, run_sizeOf (show (E.P.info? e).map (·.size) = some j.size by rw [hf1]; simp [hf2]), hnb, if_false, Sem.run_pure]
    have hfin : ∀ z' : Array Value, z' = z → ((match Instr.fill (fun i => some (i * j.size, j.size)) ((Array.range (len * j.size)).map (z'[· % z'.size]!)) (parts.map fun p => (p.1, a.eval p.2)).toList with
        | some cells => do pure (Value.slice (some (← newRow e cells)) len len)
        | _ => stuck "buildSlice: a part of the wrong size") : Sem Value).run E.P w = .ok (.slice (some ⟨w.heap.size, 0, none⟩) len len) (w.alloc (.cells ys e)) := by
      rintro _ rfl
      rw [hy]
      simp [newRow, newObj, Sem.run, Sem.bind]
    by_cases h0 : len * j.size = 0
    · simp only [h0, if_true] at hz hfin ⊢
      simp only [Sem.run_bind, Sem.run_pure, Result.andThen_ok]
      exact hfin _ hz.symm
    · simp only [h0, if_false] at hz hfin ⊢
      simp only [Sem.run_bind, hzv, Sem.run_pure, Result.andThen_ok]
      exact hfin _ hz.symm
  · refine ⟨by simp [G.at, upd], by simpa [chunks] using hm, chunks_row hcl, fun h => by simp [G.at, upd] at h, ys.toList, ?_, fun i c x hi hx => ?_⟩
    · have : (chunks j.size len cs).length = len := by simp [chunks]
      rw [this]
      have := World.ownsRow_lit (base := 0) (e := e) (size := j.size) w ys len (Nat.zero_le _) hm (by rw [y2, hcl])
      simpa [handle, G.at, upd] using this
    · rw [chunks_flatten _ _ _ hcl] at hi
      exact (y3 i c x hi (by simpa using hx)).mono (gle_at g _ _ _ _) (Nat.le_succ _) (fun b hb => heap_alloc_lt w _ (hr.hr.Jlt b hb))
  · exact .own _ _ _ _ _ _ rfl (by omega) (by simp [G.at, upd]) (fun _ => by simp [OwnV, handle, G.at, upd])

/-! ### Cuts -/
theorem run_sliceAt {P : Program} {t : TypeId} {x : Value} {lo hi mx : Option Value} {e : TypeId} (ht : P.underlying t = some (.slice e)) (w : World) : (Instr.sliceAt t x lo hi mx).run P w = (Instr.slice t x lo hi mx).run P w :=
  run_sliceAt_slice w t x lo hi mx (by rw [ht]; simp [Program.elem, ht])

/-- The bounds of a cut: what low and high tell. -/
def cutB (E : Env) (σ : St) (x : Option Operand) (d : Int) : Option Int :=
  match x with
  | none => some d
  | some x => match ev E σ x with
    | .d (.v (.int _ n)) => some n
    | _ => none
theorem cutB_ok {g : G} {w : World} {a : Act} (hr : Rel E B g σ w a) {x : Option Operand} {d n : Int} (h : cutB E σ x d = some n) : (x = none ∧ n = d) ∨ ∃ y k, x = some y ∧ a.eval y = .int k n := by
  cases x with
  | none => simp [cutB] at h; exact .inl ⟨rfl, h.symm⟩
  | some y =>
    right
    simp only [cutB] at h
    split at h
    · rename_i k n' he
      cases h
      have := ev_ok hr y
      rw [he] at this
      exact ⟨y, k, rfl, vr_int this⟩
    · cases h

theorem run_cut {P : Program} {g : G} {w : World} {a : Act} (hr : Rel E B g σ w a) (t e : TypeId) (sz : Nat) (ht : P.underlying t = some (.slice e)) (hsz : (P.info? e).map (·.size) = some sz) (ad : Option Addr) (len cap : Nat) (hlc : len ≤ cap)
    {lo hi : Option Operand} {l h : Int} (hl : cutB E σ lo 0 = some l) (hh : cutB E σ hi len = some h) (h0 : 0 ≤ l) (h1 : l ≤ h) (h2 : h ≤ len) :
    (Instr.sliceAt t (.slice ad len cap) (lo.map a.eval) (hi.map a.eval) none).run P w = .ok (sliced ad l.toNat h.toNat cap sz) w := by
  rw [run_sliceAt ht]
  have hu : P.underlying t = some (.slice (P.elem t)) := by rw [ht]; simp [Program.elem, ht]
  have hel : P.elem t = e := by simp [Program.elem, ht]
  have hs : (sizeOf (P.elem t)).run P w = .ok sz w := by rw [hel]; exact run_sizeOf hsz w
  rcases cutB_ok hr hl with ⟨rfl, rfl⟩ | ⟨y, k, rfl, hy⟩
  · rcases cutB_ok hr hh with ⟨rfl, rfl⟩ | ⟨y, k, rfl, hy⟩
    · simp only [Option.map_none]
      rw [run_slice_all w t ad len cap hu, hs]; rfl
    · simp only [Option.map_none, Option.map_some, hy]
      rw [run_slice_h w t ad len cap hu k h (by omega) (by omega), hs]; rfl
  · rcases cutB_ok hr hh with ⟨rfl, rfl⟩ | ⟨y', k', rfl, hy'⟩
    · simp only [Option.map_none, Option.map_some, hy]
      rw [run_slice_l w t ad len cap hu k l h0 (by omega), hs]; rfl
    · simp only [Option.map_some, hy, hy']
      rw [run_slice_lh w t ad len cap hu k k' l h h0 h1 (by omega), hs]; rfl

theorem so_cutD {q : Md} [Qt q] {t : TypeId} {x : Operand} {lo hi : Option Operand} (ho : o.op = .slice t x lo hi none) {i : TI} (hi' : E.ti t = some i) {e : TypeId} (ht : i.desc = .slice e) {j : TI} (hj : E.ti e = some j)
    {s : Bool} {es : List (List D)} (hx : ev E σ x = .d (.sl s es)) {l h : Int} (hl : cutB E σ lo 0 = some l) (hh : cutB E σ hi es.length = some h) (hd : dlt o.dst σ.n = true) (hall : ∀ r ∈ es, r.length = j.size) (h0 : 0 ≤ l) (h1 : l ≤ h) (h2 : h ≤ es.length)
    {fs : List (List D)} (hfs : (es.drop l.toNat).take (h.toNat - l.toNat) = fs) (hK : K (σ.put o.dst (.d (.sl s fs)))) : Step q E B o K Q σ := by
  subst hfs
  refine step_val _ (fun B g w a hr => ?_) hd hK
  obtain ⟨hu, _⟩ := E.ok t i hi'
  have hu : E.P.underlying t = some (.slice e) := by rw [hu, ht]
  have hx' := ev_ok hr x
  rw [hx] at hx'
  have hdx := vr_data hx'
  generalize hax : a.eval x = ax at hdx
  cases hdx with
  | nil s ad c =>
    have e1 : l = 0 := by simp at h2; omega
    have e2 : h = 0 := by simp at h2; omega
    subst e1; subst e2
    refine ⟨sliced ad 0 0 c j.size, ?_, .d _ _ ?_⟩
    · simp only [execOp, ho, hax]
      exact run_v (run_cut hr t e j.size hu (by rw [E.sz hj]) ad 0 c (Nat.zero_le _) hl hh (by omega) (by omega) (by omega))
    · simpa [sliced] using DR.nil s _ _
  | sl _ _ b off c f g1 g2 g3 g4 g5 =>
    refine ⟨sliced (some ⟨b, off, none⟩) l.toNat h.toNat c j.size, ?_, .d _ _ ?_⟩
    · simp only [execOp, ho, hax]
      exact run_v (run_cut hr t e j.size hu (by rw [E.sz hj]) _ es.length c g3.2 hl hh h0 h1 h2)
    · have hlen : ((es.drop l.toNat).take (h.toNat - l.toNat)).length = h.toNat - l.toNat := by simp; omega
      by_cases h3 : h.toNat - l.toNat = 0
      · have : (es.drop l.toNat).take (h.toNat - l.toNat) = [] := by rw [h3]; simp
        rw [this]; unfold sliced; rw [h3]; exact .nil _ _ _
      · have hne : ¬ c = l.toNat := by have := g3.2; omega
        have hfl : ∀ (m : Nat) d, ((es.drop l.toNat).take (h.toNat - l.toNat)).flatten[m]? = some d → es.flatten[l.toNat * j.size + m]? = some d := fun m d hm => drop_flatten hall (by omega) hm
        have := DR.sl (w := w) (I := g.I) (J := g.J) s ((es.drop l.toNat).take (h.toNat - l.toNat)) b (off + l.toNat * j.size) (c - l.toNat) (fun m => f (l.toNat * j.size + m)) g1 g2 (by rw [hlen]; omega)
          (fun m d hm => by rw [Nat.add_assoc]; exact g4 _ d (hfl m d hm)) (fun m d hm => g5 _ d (hfl m d hm))
        rw [hlen] at this
        unfold sliced
        rw [if_neg hne]
        simpa [add_mk] using this

theorem so_cutOwn {q : Md} [Qt q] {t : TypeId} {x : Operand} {lo hi : Option Operand} (ho : o.op = .slice t x lo hi none) {i : TI} (hi' : E.ti t = some i) {e : TypeId} (ht : i.desc = .slice e) {j : TI} (hj : E.ti e = some j)
    {L k off n : Nat} (hx : ev E σ x = .own L k j.size off n) {es : List (List AV)} {e' : TypeId} (hL : σ.h L = .arr k e' j.size es) {l h : Int} (hl : cutB E σ lo 0 = some l) (hh : cutB E σ hi n = some h) (hd : dlt o.dst σ.n = true) (hn : off + n ≤ es.length) (h0 : 0 ≤ l) (h1 : l ≤ h) (h2 : h ≤ n)
    (hK : K (σ.put o.dst (.own L k j.size (off + l.toNat) (h.toNat - l.toNat)))) : Step q E B o K Q σ := by
  refine step_val _ (fun B g w a hr => ?_) hd hK
  obtain ⟨hu, _⟩ := E.ok t i hi'
  have hu : E.P.underlying t = some (.slice e) := by rw [hu, ht]
  have hx' := ev_ok hr x
  rw [hx] at hx'
  generalize hax : a.eval x = ax at hx'
  cases hx' with
  | own _ _ _ _ _ _ g0 g1 g2 g3 =>
    have hor := hr.hr.hp L g1
    rw [hL] at hor
    obtain ⟨f1, f2, f3, f4, xs, f5, f6⟩ := hor
    have hown := g3 f1
    have hcap : es.length ≤ g.cap L ∨ es.length = 0 := by
      cases hv : g.vt L with
      | true => right; simp [(f4 hv).1]
      | false => left; exact (owns_block hv f5).2.1
    have : ∃ ad c, ax = .slice ad n c ∧ n ≤ c ∧ (0 < n → ad = some ⟨g.ρ L, off * j.size, none⟩) ∧ (off = 0 → ax = handle g L n) := by
      unfold OwnV at hown
      split at hown
      · rename_i h; subst h
        refine ⟨_, _, hown, ?_, fun hn0 => ?_, fun _ => hown⟩
        · rcases hcap with h | h
          · omega
          · omega
        · cases hv : g.vt L with
          | true => have := (f4 hv).1; subst this; simp at hn; omega
          | false => simp
      · rename_i h
        obtain ⟨ad, c, h1, h2, h3⟩ := hown
        exact ⟨ad, c, h1, h2, h3, fun e => absurd e h⟩
    obtain ⟨ad, c, rfl, hnc, had, hz⟩ := this
    refine ⟨sliced ad l.toNat h.toNat c j.size, ?_, .own _ _ _ _ _ _ rfl g1 g2 fun _ => ?_⟩
    · simp only [execOp, ho, hax]
      exact run_v (run_cut hr t e j.size hu (by rw [E.sz hj]) ad n c hnc hl hh h0 h1 h2)
    · unfold OwnV
      split
      · rename_i hz0
        have hoff : off = 0 := by omega
        have hl0 : l.toNat = 0 := by omega
        have := hz hoff
        simp only [handle, Value.slice.injEq] at this
        obtain ⟨ha, _, hc⟩ := this
        subst hc
        rw [hl0]
        unfold sliced handle
        simp only [Nat.sub_zero, Nat.zero_mul]
        congr 1
        split
        · exact ha
        · rw [ha]; split <;> simp [add_mk]
      · refine ⟨_, _, rfl, by omega, fun hpos => ?_⟩
        have hne : ¬ c = l.toNat := by omega
        rw [if_neg hne, had (by omega)]
        simp [add_mk, Nat.add_mul]

theorem so_cutStr {q : Md} [Qt q] {t : TypeId} {x : Operand} {lo hi : Option Operand} (ho : o.op = .slice t x lo hi none) {i : TI} (hi' : E.ti t = some i) (ht : i.desc = .string)
    {s : ByteArray} (hx : ev E σ x = .d (.v (.string s))) {l h : Int} (hl : cutB E σ lo 0 = some l) (hh : cutB E σ hi s.size = some h) (hd : dlt o.dst σ.n = true) (h0 : 0 ≤ l) (h1 : l ≤ h) (h2 : h ≤ s.size)
    (hK : K (σ.put o.dst (.d (.v (.string (s.extract l.toNat h.toNat)))))) : Step q E B o K Q σ := by
  refine step_val _ (fun B g w a hr => ?_) hd hK
  obtain ⟨hu, _⟩ := E.ok t i hi'
  have hu : E.P.underlying t = some .string := by rw [hu, ht]
  have hx' := ev_ok hr x
  rw [hx] at hx'
  refine ⟨_, ?_, .d _ _ (.v _)⟩
  simp only [execOp, ho, vr_str hx']
  refine run_v ?_
  rw [run_sliceAt_string w t _ _ _ _ hu]
  rcases cutB_ok hr hl with ⟨rfl, rfl⟩ | ⟨y, k, rfl, hy⟩
  · rcases cutB_ok hr hh with ⟨rfl, rfl⟩ | ⟨y, k, rfl, hy⟩
    · simp only [Option.map_none]
      rw [run_slice_string_all w t s hu]; rfl
    · simp only [Option.map_none, Option.map_some, hy]
      rw [run_slice_string_h w t s hu k h (by omega) (by omega)]; rfl
  · rcases cutB_ok hr hh with ⟨rfl, rfl⟩ | ⟨y', k', rfl, hy'⟩
    · simp only [Option.map_none, Option.map_some, hy]
      rw [run_slice_string_l w t s hu k l h0 (by omega)]; rfl
    · simp only [Option.map_some, Option.map_none, hy, hy']
      rw [run_slice_string w t s k k' l h hu h0 h1 (by omega)]
end
end Go.Proofs.YtdcpnpcmgfmenaaDoor.Lg
