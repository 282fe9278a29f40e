/-
  Structs and slices built, rows that grow. Conditions: none.
-/
import Derived.Test.YtdcpnpcmgfmenaaDoorSm
import Derived.Laws.AppendOwn
import Derived.Laws.OwnMore
set_option linter.unusedSimpArgs false
set_option linter.unusedVariables false
namespace Go.Proofs.YtdcpnpcmgfmenaaDoor.Lg
open Go Go.RowKit

theorem splice_cons {α : Type} (xs : List α) (i : Nat) (y : α) (ys : List α) (h : i + (ys.length + 1) ≤ xs.length) : splice (xs.set i y) (i + 1) ys = splice xs i (y :: ys) := by
  apply List.ext_getElem?
  intro m
  rw [splice_get _ _ _ _ (by simp; omega), splice_get _ _ _ _ (by simpa using h)]
  simp only [List.length_cons]
  by_cases h1 : m < i
  · rw [if_pos (by omega), if_pos h1, List.getElem?_set_ne (by omega)]
  · by_cases h2 : m = i
    · subst h2
      rw [if_pos (by omega), if_neg (by omega), if_pos (by omega), List.getElem?_set_self (by omega)]; simp
    · by_cases h3 : m < i + (ys.length + 1)
      · rw [if_neg (by omega), if_pos (by omega), if_neg h1, if_pos h3, show m - i = (m - (i + 1)) + 1 by omega]; simp
      · rw [if_neg (by omega), if_neg (by omega), if_neg h1, if_neg h3, List.getElem?_set_ne (by omega)]

theorem fold_set (off : Nat) : ∀ (vs : List Value) (k : Nat) (cs : Array Value), off + k + vs.length ≤ cs.size →
    ((vs.zipIdx k).foldl (fun cs (p : Value × Nat) => cs.setIfInBounds (off + p.2) p.1) cs).toList = splice cs.toList (off + k) vs
  | [], k, cs, _ => by simp [splice]
  | v :: vs, k, cs, h => by
    simp only [List.zipIdx_cons, List.foldl_cons]
    rw [fold_set off vs (k + 1) _ (by simp at h ⊢; omega)]
    simp only [Array.toList_setIfInBounds]
    rw [show off + (k + 1) = off + k + 1 by omega]
    exact splice_cons _ _ _ _ (by simpa using h)

section
variable {E : Env} {B : Base} {Q : Exit → St → Prop} {σ : St} {o : Oper} {K : St → Prop}

/-! ### Structs -/
def fillA (E : Env) (σ : St) (place : Nat → Option (Nat × Nat)) : List (Nat × Operand) → List AV → Option (List AV)
  | [], cs => some cs
  | (i, x) :: r, cs =>
    match place i, cellsA (ev E σ x) with
    | some (off, sz), some ys => bif Nat.beq ys.length sz && Nat.ble (off + ys.length) cs.length then fillA E σ place r (splice cs off ys) else none
    | _, _ => none

theorem fillA_ok {g : G} {w : World} {a : Act} (hr : Rel E B g σ w a) (place : Nat → Option (Nat × Nat)) : ∀ (parts : List (Nat × Operand)) (cs : List AV) (xs : Array Value) (res : List AV), fillA E σ place parts cs = some res →
    xs.size = cs.length → (∀ (i : Nat) c x, cs[i]? = some c → xs[i]? = some x → VR w g σ.nx c x) →
    ∃ ys, Instr.fill place xs (parts.map fun p => (p.1, a.eval p.2)) = some ys ∧ ys.size = res.length ∧ ∀ (i : Nat) c x, res[i]? = some c → ys[i]? = some x → VR w g σ.nx c x
  | [], cs, xs, res, h, hs, hv => by
    simp only [fillA, Option.some.injEq] at h; subst h
    exact ⟨xs, rfl, hs, hv⟩
  | (i, x) :: r, cs, xs, res, h, hs, hv => by
    simp only [fillA] at h
    cases hp : place i with
    | none => rw [hp] at h; cases h
    | some q =>
      obtain ⟨off, sz⟩ := q
      cases hc : cellsA (ev E σ x) with
      | none => rw [hp, hc] at h; cases h
      | some ys =>
        rw [hp, hc] at h
        simp only at h
        cases hb : (Nat.beq ys.length sz && Nat.ble (off + ys.length) cs.length) with
        | false => rw [hb] at h; cases h
        | true =>
          rw [hb, cond_true] at h
          simp only [Bool.and_eq_true] at hb
          obtain rfl : ys.length = sz := Nat.eq_of_beq_eq_true hb.1
          have hle : off + ys.length ≤ cs.length := Nat.le_of_ble_eq_true hb.2
          obtain ⟨h1, h2⟩ := cellsA_ok hc (ev_ok hr x)
          have hfold : ((a.eval x).cells.zipIdx.foldl (fun cs (p : Value × Nat) => cs.setIfInBounds (off + p.2) p.1) xs).toList = splice xs.toList off (a.eval x).cells.toList := by
            have := fold_set off (a.eval x).cells.toList 0 xs (by simp [h1, hs]; omega)
            rw [Nat.add_zero] at this
            rw [← this, ← Array.foldl_toList]; simp
          have hlen : (splice xs.toList off (a.eval x).cells.toList).length = xs.toList.length := splice_length _ _ _ (by simp [h1, hs]; omega)
          obtain ⟨zs, z1, z2, z3⟩ := fillA_ok hr place r _ ((a.eval x).cells.zipIdx.foldl (fun cs (p : Value × Nat) => cs.setIfInBounds (off + p.2) p.1) xs) res h (by
            rw [← Array.length_toList, hfold, hlen, splice_length _ _ _ (by omega)]; simp [hs]) (fun m c v hm hmv => by
            refine rel_splice (R := VR w g σ.nx) (cs := cs) (ys := ys) (xs := xs.toList) (vs := (a.eval x).cells.toList) (i := off) hle (by simp [hs]) (by simp [h1]) ?_ ?_ m c v hm (by rw [← Array.getElem?_toList, hfold] at hmv; exact hmv)
            · intro m c x hc hx; exact hv m c x hc (by simpa using hx)
            · intro m c x hc hx; exact h2 m c x hc (by simpa using hx))
          refine ⟨zs, ?_, z2, z3⟩
          simp only [List.map_cons, Instr.fill, hp]
          rw [if_neg (by simp [h1, hs]; omega)]
          exact z1

theorem places_ok (fs : List Field) (places : List (Nat × Nat)) (h : fs.mapM (fun f => (E.ti f.type).map fun i => (f.offset, i.size)) = some places) : fs.mapM (fun f => (E.P.info? f.type).map fun i => (f.offset, i.size)) = some places := by
  induction fs generalizing places with
  | nil => simpa using h
  | cons f fs ih =>
    simp only [List.mapM_cons, Option.bind_eq_bind, Option.pure_def, Option.bind_eq_some_iff, Option.map_eq_some_iff] at h ⊢
    obtain ⟨p, ⟨i, hi, rfl⟩, r, hr, h⟩ := h
    obtain ⟨f', h1, h2, _⟩ := (E.ok f.type i hi).2
    exact ⟨_, ⟨f', h1, by rw [h2]⟩, r, ih r hr, h⟩

theorem so_build {q : Md} [Qt q] {v : AV} {t : TypeId} {parts : Array (Nat × Operand)} (ho : o.op = .build t parts) {i : TI} (hi : E.ti t = some i) {fs : Array Field} (ht : i.desc = .struct fs)
    {places : List (Nat × Nat)} (hp : fs.toList.mapM (fun f => (E.ti f.type).map fun i => (f.offset, i.size)) = some places) {cs : List AV} (hc : fillA E σ (places.toArray[·]?) parts.toList (zcells i.zero) = some cs)
    (hd : dlt o.dst σ.n = true) (hv : mkAgg cs = v) (hK : K (σ.put o.dst v)) : Step q E B o K Q σ := by
  subst hv
  refine step_val _ (fun B g w a hr => ?_) hd hK
  obtain ⟨z1, z2⟩ := zcells_ok i.zero w g σ.nx
  obtain ⟨ys, y1, y2, y3⟩ := fillA_ok hr _ _ _ _ _ hc z1 z2
  refine ⟨.agg ys, ?_, vr_mkAgg y2 y3⟩
  obtain ⟨hu, f, hf1, hf2, hf3, hf4⟩ := E.ok t i hi
  simp only [execOp, ho]
  refine run_v (run_build w t _ ys ?_)
  unfold Program.built
  rw [hf1, hu, ht]
  simp only [hf4, places_ok _ _ hp]
  rw [← y1]; simp

/-! ### A row that grows -/
theorem run_app {P : Program} (w : World) (t ty e : TypeId) (i : TypeInfo) (z : Value) (ht : P.underlying t = some (.slice e)) (hi : P.info? e = some i) (hz : i.zero = some z)
    (hzs : z.cells.size = i.size) (hsz : 0 < i.size) (v : Value) (n : Nat) (xs : List Value) (hown : w.ownsRow 0 e i.size v n xs)
    (a : Option Addr) (m c : Nat) (news : List Value) (hl : news.length = m * i.size) (ha : 0 < m → ∃ ad, a = some ad ∧ ∀ j u, news[j]? = some u → w.cell? (ad.add j) = some u) (h1 : ∀ u ∈ news, u.oneCell' = true)
    (h63 : n + m ≤ maxLen) (hbytes : (n + m) * i.bytes ≤ 140737488355328) :
    ∃ v' w', (Builtin.append_ #[t, t] ty #[v, .slice a m c]).run P w = .ok v' w' ∧ w'.ownsRow 0 e i.size v' (n + m) (xs ++ news) ∧ w.grownBy w' v.ownBlock ∧
      (v'.ownBlock = v.ownBlock ∨ ∃ b, v'.ownBlock = some b ∧ w.heap.size ≤ b) := by
  by_cases hm : m = 0
  · subst hm
    have hn : news = [] := List.eq_nil_of_length_eq_zero (by simpa using hl)
    subst hn
    refine ⟨v, w, ?_, by simpa using hown, ⟨rfl, rfl, rfl, Nat.le_refl _, fun _ _ _ => rfl⟩, .inl rfl⟩
    rcases hown.2 with ⟨rfl, rfl⟩ | ⟨g, cap, cur, rfl, _, _, hnc, _⟩
    · cases a <;> simp [Builtin.append_, run_underlying ht, sizeOf, typeInfo, hi, Builtin.lenOf, Builtin.firstCells, loadCells, loadCellsFrom]
    · cases a <;> simp [Builtin.append_, run_underlying ht, sizeOf, typeInfo, hi, Builtin.lenOf, Builtin.firstCells, loadCells, loadCellsFrom, hnc, storeCells]
  · obtain ⟨ad, rfl, hnews⟩ := ha (by omega)
    have hsmall : n + m ≤ 9223372036854775807 := by simp only [maxLen] at h63; omega
    have hlen : (xs ++ news).length = (n + m) * i.size := by rw [List.length_append, hown.1, hl, Nat.add_mul]
    have grown : ∀ (old : Nat), old < n + m → ∀ (row : Option Nat),
        (w.drew.alloc (.cells (xs.toArray ++ news.toArray ++ Builtin.zeroCells z.cells (grownCap w (n + m) old e - (n + m))) e)).ownsRow 0 e i.size
          (.slice (some ⟨w.heap.size, 0, none⟩) (n + m) (grownCap w (n + m) old e)) (n + m) (xs ++ news) ∧
        w.grownBy (w.drew.alloc (.cells (xs.toArray ++ news.toArray ++ Builtin.zeroCells z.cells (grownCap w (n + m) old e - (n + m))) e)) row := by
      intro old ho row
      have hge := grownCap_ge w (n + m) old e
      refine ⟨⟨hlen, .inr ⟨w.heap.size, _, _, rfl, Nat.zero_le _, Go.heap_alloc_new w.drew _, hge, grownCap_le_maxLen w (n + m) old e h63, ?_, ?_⟩⟩, ⟨rfl, rfl, rfl, by simp, fun k hk _ => heap_alloc_lt w.drew _ hk⟩⟩
      · simp only [Array.size_append, List.size_toArray, size_zeroCells, hzs, hown.1, hl, ← Nat.add_mul]
        congr 1; omega
      · simp only [Array.toList_append, List.append_assoc]
        rw [← List.append_assoc, ← hlen]
        exact List.take_left
    rcases hown.2 with ⟨rfl, rfl⟩ | ⟨g, cap, cur, rfl, hbg, hg, hnc, hcm, hcs, htake⟩
    · have hx : xs = [] := List.eq_nil_of_length_eq_zero (by simpa using hown.1)
      subst hx
      have hr := run_append_nil (P := P) w t ty e i z ht hi hz ad m c news hl hnews (by omega) (by omega) (by have hb := hbytes; simp only [Nat.zero_add] at hb; omega)
      have hgr := grown 0 (by omega) (Value.ownBlock (.slice none 0 0))
      simp only [Nat.zero_add, List.nil_append, Array.empty_append] at hgr ⊢
      exact ⟨_, _, hr, hgr.1, hgr.2, .inr ⟨_, rfl, Nat.le_refl _⟩⟩
    · by_cases hroom : n + m ≤ cap
      · have hfit : n * i.size + news.length ≤ cur.size := by rw [hl, hcs, ← Nat.add_mul]; exact Nat.mul_le_mul_right _ hroom
        have hr := run_append_room (P := P) w t ty e i ht hi g n cap cur hg ad m c news hl hnews h1 hroom hfit
        refine ⟨_, _, hr, ⟨hlen, .inr ⟨g, cap, _, rfl, Nat.zero_le _, setRow_heap w g cur _ e _ hg, hroom, hcm, ?_, ?_⟩⟩, ⟨rfl, rfl, rfl, by simp, fun k _ hk => setRow_other w g k _ (fun e => hk (by simp [Value.ownBlock, e]))⟩, .inl rfl⟩
        · simp only [List.size_toArray, List.length_append, List.length_take, List.length_drop, Array.length_toList]; omega
        · rw [htake, ← hlen]; exact List.take_left
      · have holds : ∀ j u, xs[j]? = some u → w.cell? ((⟨g, 0, none⟩ : Addr).add j) = some u := hown.cells (g := g) rfl
        have hr := run_append_grow (P := P) w t ty e i z ht hi hz ⟨g, 0, none⟩ n cap xs hown.1 holds ad m c news hl hnews (by omega) (by omega) (growslice_fits (by omega) hbytes)
        have hgr := grown cap (by omega) (Value.ownBlock (.slice (some ⟨g, 0, none⟩) n cap))
        exact ⟨_, _, hr, hgr.1, hgr.2, .inr ⟨_, rfl, Nat.le_refl _⟩⟩

/-- The rows that a slice reads as. -/
def rowsOf (h : Nat → AO) : AV → Option (List (List AV))
  | .d (.v (.slice none 0 0)) => some []
  | .d (.sl _ es) => some (es.map (·.map .d))
  | .own l k sz off n => match h l with
    | .arr k' _ sz' es => bif Nat.beq k k' && Nat.beq sz sz' && Nat.ble (off + n) es.length then some ((es.drop off).take n) else none
    | _ => none
  | _ => none

theorem drop_flatten {α : Type} {n : Nat} {es : List (List α)} (h : ∀ r ∈ es, r.length = n) {off m : Nat} (hm : off + m ≤ es.length) {i : Nat} {c : α} (hc : ((es.drop off).take m).flatten[i]? = some c) : es.flatten[off * n + i]? = some c := by
  have h4 : es.flatten = (es.take off).flatten ++ ((es.drop off).take m).flatten ++ ((es.drop off).drop m).flatten := by
    rw [← List.flatten_append, ← List.flatten_append, List.append_assoc, List.take_append_drop, List.take_append_drop]
  have h5 : (es.take off).flatten.length = off * n := by
    rw [flat_length (n := n) (fun r hr' => h r (List.mem_of_mem_take hr')), List.length_take, Nat.min_eq_left (by omega)]
  rw [h4, List.append_assoc, List.getElem?_append_right (by omega), h5, show off * n + i - off * n = i by omega, List.getElem?_append_left (List.getElem?_eq_some_iff.1 hc).1]
  exact hc

theorem rows_ok {g : G} {w : World} {a : Act} (hr : Rel E B g σ w a) {v : AV} {x : Value} {rows : List (List AV)} (h : rowsOf σ.h v = some rows) (hx : VR w g σ.nx v x) :
    ∃ a c, x = .slice a rows.length c ∧ (rows.length = 0 ∨ ∃ b off, a = some ⟨b, off, none⟩ ∧ ∃ f : Nat → Value, ∀ (i : Nat) c, rows.flatten[i]? = some c → w.cell? ⟨b, off + i, none⟩ = some (f i) ∧ VR w g σ.nx c (f i)) := by
  cases hx with
  | d c x hd =>
    cases hd with
    | v x =>
      have : x = .slice none 0 0 ∧ rows = [] := by
        unfold rowsOf at h
        split at h <;> simp_all
      obtain ⟨rfl, rfl⟩ := this
      exact ⟨_, _, rfl, .inl rfl⟩
    | agg => simp [rowsOf] at h
    | map => simp [rowsOf] at h
    | nil s a n => simp [rowsOf] at h; subst h; exact ⟨_, _, rfl, .inl rfl⟩
    | sl s es b off n f h1 h2 h3 h4 h5 =>
      simp [rowsOf] at h; subst h
      refine ⟨_, _, by rw [List.length_map], .inr ⟨b, off, rfl, f, fun i c hc => ?_⟩⟩
      rw [← List.map_flatten, List.getElem?_map, Option.map_eq_some_iff] at hc
      obtain ⟨d, hd, rfl⟩ := hc
      exact ⟨h4 i d hd, .d _ _ (h5 i d hd)⟩
  | own l k sz off n x g0 g1 g2 g3 =>
    simp only [rowsOf] at h
    cases ho : σ.h l with
    | arr k' e sz' es =>
      rw [ho] at h
      simp only at h
      cases hb : (Nat.beq k k' && Nat.beq sz sz' && Nat.ble (off + n) es.length) with
      | false => rw [hb] at h; cases h
      | true =>
        rw [hb, cond_true, Option.some.injEq] at h
        subst h
        simp only [Bool.and_eq_true] at hb
        obtain ⟨⟨hk, hsz⟩, hle⟩ := hb
        obtain rfl : k = k' := Nat.eq_of_beq_eq_true hk
        obtain rfl : sz = sz' := Nat.eq_of_beq_eq_true hsz
        have hle : off + n ≤ es.length := Nat.le_of_ble_eq_true hle
        have hor := hr.hr.hp l g1
        rw [ho] at hor
        obtain ⟨f1, f2, f3, f4, xs, f5, f6⟩ := hor
        have hown := g3 f1
        have hn : ((es.drop off).take n).length = n := by simp; omega
        rw [hn]
        by_cases hn0 : n = 0
        · subst hn0
          unfold OwnV at hown
          split at hown
          · exact ⟨_, _, hown, .inl rfl⟩
          · obtain ⟨b, c, h1, _⟩ := hown; exact ⟨b, c, h1, .inl rfl⟩
        · have hvt : g.vt l = false := by
            cases hv : g.vt l with
            | false => rfl
            | true => obtain ⟨h, _⟩ := f4 hv; subst h; simp at hle; omega
          obtain ⟨a1, a2, a3, cur, a4, a5, a6⟩ := owns_block hvt f5
          have : ∃ c, x = .slice (some ⟨g.ρ l, off * sz, none⟩) n c := by
            unfold OwnV at hown
            split at hown
            · rename_i h; subst h; exact ⟨g.cap l, by simp [hown, handle, hvt]⟩
            · obtain ⟨b, c, h, _, h'⟩ := hown; exact ⟨c, by rw [h, h' (by omega)]⟩
          obtain ⟨c, rfl⟩ := this
          refine ⟨_, _, rfl, .inr ⟨g.ρ l, off * sz, rfl, fun i => xs.getD (off * sz + i) undef, fun i c hc => ?_⟩⟩
          have hfl := drop_flatten f3 hle hc
          have hlt : off * sz + i < xs.length := by rw [a1, ← flat_length f3]; exact (List.getElem?_eq_some_iff.1 hfl).1
          have hx : xs[off * sz + i]? = some (xs.getD (off * sz + i) undef) := by simp [List.getD, hlt]
          refine ⟨?_, f6 _ _ _ hfl hx⟩
          have hcu : cur[off * sz + i]? = some (xs.getD (off * sz + i) undef) := by
            rw [← hx, ← a6, List.getElem?_take_of_lt (by rw [← a1]; exact hlt), Array.getElem?_toList]
          simp only [World.cell?, a4, Option.isSome_none, Bool.false_eq_true, if_false]
          exact hcu
    | _ => rw [ho] at h; cases h
  | _ => simp [rowsOf] at h

def G.re (g : G) (l b k c : Nat) (v : Bool) : G := { g with ρ := upd g.ρ l b, κ := upd g.κ l k, cap := upd g.cap l c, vt := upd g.vt l v }

/-- A row of ours has grown, and may have moved. -/
theorem rel_regrow {g : G} {w w' : World} {a : Act} (hr : Rel E B g σ w a) {l k e sz : Nat} {es rows : List (List AV)} (hl : l < σ.nx) (ho : σ.h l = .arr k e sz es) {v' : Value} {xs' : List Value}
    (hgrow : w.grownBy w' (handle g l es.length).ownBlock) (hown : w'.ownsRow 0 e sz v' rows.length xs') (hplace : v'.ownBlock = (handle g l es.length).ownBlock ∨ ∃ b, v'.ownBlock = some b ∧ w.heap.size ≤ b)
    (hlen : ∀ r ∈ rows, r.length = sz) (hmax : rows.length ≤ maxLen) (hvals : ∀ (i : Nat) c x, rows.flatten[i]? = some c → xs'[i]? = some x → VR w g σ.nx c x) :
    ∃ g', Rel E B g' { σ with h := upd σ.h l (.arr (k + 1) e sz rows) } w' a ∧ VR w' g' σ.nx (.own l (k + 1) sz 0 rows.length) v' := by
  have hor := hr.hr.hp l hl
  rw [ho] at hor
  obtain ⟨f1, f2, f3, f4, xs, f5, f6⟩ := hor
  obtain ⟨b', c', vt', hv'⟩ : ∃ b' c' vt', v' = (if vt' = true then Value.slice none rows.length 0 else .slice (some ⟨b', 0, none⟩) rows.length c') ∧ (vt' = true → rows.length = 0) := by
    rcases hown.2 with ⟨h1, h2⟩ | ⟨b, c, cur, h1, _⟩
    · exact ⟨0, 0, true, by rw [h1, h2]; rfl, fun _ => h2⟩
    · exact ⟨b, c, false, by rw [h1]; rfl, fun h => by cases h⟩
  obtain ⟨hv', hnil⟩ := hv'
  have hh : (handle g l es.length).ownBlock = if g.vt l = true then none else some (g.ρ l) := by
    unfold handle
    cases g.vt l <;> rfl
  -- the row's own block, if it has one, is one of ours
  have hownl : ∀ b, some b = (handle g l es.length).ownBlock → Owned g σ.nx σ.h b := fun b hb => by
    rw [hh] at hb
    cases hvt : g.vt l with
    | true => rw [hvt] at hb; cases hb
    | false =>
      rw [hvt] at hb
      simp at hb
      exact ⟨l, hl, by rw [ho]; simp, hvt, hb.symm⟩
  have hJ : ∀ b, g.J b → w'.heap[b]? = w.heap[b]? := fun b hb => hgrow.block b (hr.hr.Jlt b hb) (fun e => hr.hr.dis b hb (hownl b e))
  have hg : GLe g σ.nx (g.re l b' (k + 1) (if vt' = true then 0 else c') vt') := by
    refine ⟨fun _ h => h, fun _ h => h, fun l' hl' => ?_, fun l' hl' he => ?_⟩
    · by_cases e : l' = l
      · subst e; simp [G.re, upd, f1]
      · simp [G.re, upd, e]
    · by_cases e : l' = l
      · subst e; simp [G.re, upd, f1] at he
      · simp [G.re, upd, e]
  have hnew : vt' = false → v'.ownBlock = some b' := fun h => by rw [hv', h]; rfl
  have hcase : vt' = false → (g.vt l = false ∧ b' = g.ρ l) ∨ w.heap.size ≤ b' := fun h => by
    rcases hplace with hp | ⟨b, hp, hb⟩
    · rw [hnew h, hh] at hp
      cases hvt : g.vt l with
      | true => rw [hvt] at hp; cases hp
      | false => rw [hvt] at hp; simp at hp; exact .inl ⟨rfl, hp⟩
    · rw [hnew h] at hp; cases hp; exact .inr hb
  have hold : ∀ b, Owned (g.re l b' (k + 1) (if vt' = true then 0 else c') vt') σ.nx (upd σ.h l (.arr (k + 1) e sz rows)) b → Owned g σ.nx σ.h b ∨ w.heap.size ≤ b := by
    rintro b ⟨l', hl', hd, hv, hb⟩
    by_cases e : l' = l
    · subst e
      have hvf : vt' = false := by simpa [G.re, upd] using hv
      have hbe : b' = b := by simpa [G.re, upd] using hb
      subst hbe
      rcases hcase hvf with ⟨h1, h2⟩ | h
      · left; exact ⟨l', hl', by rw [ho]; simp, h1, h2.symm⟩
      · exact .inr h
    · left; exact ⟨l', hl', by simpa [upd, e] using hd, by simpa [G.re, upd, e] using hv, by simpa [G.re, upd, e] using hb⟩
  have hhand : handle (g.re l b' (k + 1) (if vt' = true then 0 else c') vt') l rows.length = v' := by
    rw [hv']
    unfold handle
    cases vt' <;> simp [G.re, upd]
  refine ⟨g.re l b' (k + 1) (if vt' = true then 0 else c') vt', ⟨hr.size, tm_mono (σ := σ) hr hg (Nat.le_refl _) hJ, ⟨fun l' hl' => ?_, fun l' hl' => ?_, fun l1 l2 h1 h2 hd1 hd2 hv1 hv2 he => ?_, fun b hb => ?_, hr.hr.IJ, fun b hb h => ?_, gl_mono hr.hr (fun _ h => h) (fun _ h => h) hJ⟩, ?_, hr.df⟩, ?_⟩
  · by_cases e' : l' = l
    · subst e'
      simp only [upd, if_true]
      refine ⟨by simp [G.re, upd], hmax, hlen, fun hv => ?_, xs', by rw [hhand]; exact hown, fun i c x hc hx => (hvals i c x hc hx).mono hg (Nat.le_refl _) hJ⟩
      have : vt' = true := by simpa [G.re, upd] using hv
      exact ⟨List.eq_nil_of_length_eq_zero (hnil this), by simp [G.re, upd, this]⟩
    · simp only [upd, e', if_false]
      refine (hr.hr.hp l' hl').mono hg (Nat.le_refl _) hJ hl' (by simp [G.re, upd, e']) (fun hd hv => hgrow.block _ (Owned.lt hr.hr ⟨l', hl', hd, hv, rfl⟩) (fun e => e' ?_))
      rw [hh] at e
      cases hvt : g.vt l with
      | true => rw [hvt] at e; cases e
      | false =>
        rw [hvt] at e
        simp at e
        exact hr.hr.inj l' l hl' hl hd (by rw [ho]; simp) hv hvt e
  · simp only [upd]
    rw [if_neg (by simp at hl'; omega)]; exact hr.hr.hd l' hl'
  · simp only at h1 h2
    have lt : ∀ l', l' < σ.nx → l' ≠ l → upd σ.h l (.arr (k + 1) e sz rows) l' ≠ .dead → (g.re l b' (k + 1) (if vt' = true then 0 else c') vt').vt l' = false → g.ρ l' ≠ b' ∨ vt' = true := by
      intro l' hl' hne hd hv
      cases hvf : vt' with
      | true => exact .inr rfl
      | false =>
        left
        have hd' : σ.h l' ≠ .dead := by simpa [upd, hne] using hd
        have hv' : g.vt l' = false := by simpa [G.re, upd, hne] using hv
        rcases hcase hvf with ⟨h3, h4⟩ | h3
        · rw [h4]; exact fun h => hne (hr.hr.inj l' l hl' hl hd' (by rw [ho]; simp) hv' h3 h)
        · have := Owned.lt hr.hr ⟨l', hl', hd', hv', rfl⟩; omega
    by_cases e1 : l1 = l
    · by_cases e2 : l2 = l
      · rw [e1, e2]
      · exfalso
        have hvf : vt' = false := by subst e1; simpa [G.re, upd] using hv1
        rcases lt l2 h2 e2 hd2 hv2 with h | h
        · subst e1; simp [G.re, upd, e2] at he; exact h he.symm
        · rw [hvf] at h; cases h
    · by_cases e2 : l2 = l
      · exfalso
        have hvf : vt' = false := by subst e2; simpa [G.re, upd] using hv2
        rcases lt l1 h1 e1 hd1 hv1 with h | h
        · subst e2; simp [G.re, upd, e1] at he; exact h he
        · rw [hvf] at h; cases h
      · exact hr.hr.inj l1 l2 h1 h2 (by simpa [upd, e1] using hd1) (by simpa [upd, e2] using hd2) (by simpa [G.re, upd, e1] using hv1) (by simpa [G.re, upd, e2] using hv2) (by simpa [G.re, upd, e1, e2] using he)
  · have := hr.hr.Jlt b hb; have := hgrow.size; omega
  · rcases hold b h with h | h
    · exact hr.hr.dis b hb h
    · have := hr.hr.Jlt b hb; omega
  · have hx := hr.ext
    refine ⟨hgrow.os.trans hx.os, hgrow.tape.trans hx.tape, hgrow.output.trans hx.output, by have := hx.size; have := hgrow.size; omega, fun b hb hn => ?_, hx.gle.trans hx.nle hg, hx.nle, hx.inew, fun b hb => ?_⟩
    · rw [hgrow.block b (by have := hx.size; omega) (fun e => ?_)]
      · exact hx.block b hb hn
      · rcases hx.own b (hownl b e) with h | h
        · exact hn h
        · omega
    · rcases hold b hb with h | h
      · exact hx.own b h
      · have := hx.size; right; omega
  · refine .own _ _ _ _ _ _ ?_ hl (by simp [G.re, upd]) (fun _ => ?_)
    · rw [hv']; cases vt' <;> rfl
    · unfold OwnV; rw [if_pos rfl]; exact hhand.symm

theorem take_flatten {α : Type} {n : Nat} : ∀ {es : List (List α)}, (∀ r ∈ es, r.length = n) → ∀ m, (es.take m).flatten = es.flatten.take (m * n)
  | es, _, 0 => by simp
  | [], _, m + 1 => by simp
  | r :: es, h, m + 1 => by
    have h0 := h r (by simp)
    rw [List.take_succ_cons, List.flatten_cons, List.flatten_cons, take_flatten (fun r hr => h r (by simp [hr])) m, List.take_append, h0, Nat.add_mul, Nat.one_mul, List.take_of_length_le (l := r) (by rw [h0]; omega), Nat.add_sub_cancel]
theorem own_handle (g : G) (l m n : Nat) : (handle g l m).ownBlock = (handle g l n).ownBlock := by
  unfold handle
  cases g.vt l <;> rfl
theorem owns_take {w : World} {g : G} {l e sz m n : Nat} {xs : List Value} (h : w.ownsRow 0 e sz (handle g l m) m xs) (hn : n ≤ m) (hv : g.vt l = true → m = 0) : w.ownsRow 0 e sz (handle g l n) n (xs.take (n * sz)) := by
  cases hvt : g.vt l with
  | true =>
    have := hv hvt
    subst this
    obtain rfl : n = 0 := by omega
    refine ⟨by simp, ?_⟩
    have hx : xs = [] := List.eq_nil_of_length_eq_zero (by simpa using h.1)
    subst hx
    rcases h.2 with h | h
    · exact .inl h
    · exact .inr (by simpa using h)
  | false =>
    obtain ⟨a1, a2, a3, cur, a4, a5, a6⟩ := owns_block hvt h
    have hle : n * sz ≤ m * sz := Nat.mul_le_mul_right _ hn
    refine ⟨by rw [List.length_take, a1]; exact Nat.min_eq_left hle, .inr ⟨g.ρ l, g.cap l, cur, by simp [handle, hvt], Nat.zero_le _, a4, by omega, a3, a5, ?_⟩⟩
    rw [← a6, List.take_take, Nat.min_eq_left hle]

theorem so_appendCut {x y : Operand} {t : TypeId} (ho : o.op = .call { callee := .builtin .append, args := #[x, y], argTypes := #[t, t] }) {i : TI} (hi : E.ti t = some i) {e : TypeId} (ht : i.desc = .slice e) {j : TI} (hj : E.ti e = some j)
    (hz : Nat.beq j.zero.cells.size j.size = true) (hsz : Nat.blt 0 j.size = true) {l k n : Nat} (hx : ev E σ x = .own l k j.size 0 n) {es : List (List AV)} (hl : σ.h l = .arr k e j.size es) (hn : n ≤ es.length)
    {news : List (List AV)} (hy : rowsOf σ.h (ev E σ y) = some news) (hd : dlt o.dst σ.n = true) (hrow : ∀ r ∈ news, r.length = j.size ∧ r.all cellOk = true) (hb : (n + news.length) * j.bytes ≤ 140737488355328) (h63 : n + news.length ≤ 9223372036854775807)
    (hK : K (St.put { σ with h := upd σ.h l (.arr (k + 1) e j.size (es.take n ++ news)) } o.dst (.own l (k + 1) j.size 0 (es.take n ++ news).length))) : Step .all E B o K Q σ := by
  refine step_obj _ _ _ (fun g w a hr => ?_) hd hK
  have hz : j.zero.cells.size = j.size := Nat.eq_of_beq_eq_true hz
  have hsz : 0 < j.size := Nat.le_of_ble_eq_true hsz
  obtain ⟨hu, _⟩ := E.ok t i hi
  obtain ⟨_, f, hf1, hf2, hf3, hf4⟩ := E.ok e j hj
  have hx' := ev_ok hr x
  rw [hx] at hx'
  have hy' := ev_ok hr y
  obtain ⟨ad, c, hye, hcells⟩ := rows_ok hr hy hy'
  generalize hax : a.eval x = ax at hx'
  cases hx' with
  | own _ _ _ _ _ _ g0 g1 g2 g3 =>
    have hor := hr.hr.hp l g1
    rw [hl] at hor
    obtain ⟨f1, f2, f3, f4, xs, f5, f6⟩ := hor
    have hown := g3 f1
    unfold OwnV at hown
    rw [if_pos rfl] at hown
    subst hown
    have hfl : news.flatten.length = news.length * j.size := flat_length (fun r hr => (hrow r hr).1)
    have hval : ∃ vals : List Value, vals.length = news.length * j.size ∧ (0 < news.length → ∃ b : Addr, ad = some b ∧ ∀ m u, vals[m]? = some u → w.cell? (b.add m) = some u) ∧ ∀ (m : Nat) c u, news.flatten[m]? = some c → vals[m]? = some u → VR w g σ.nx c u := by
      rcases hcells with h0 | ⟨b, off, rfl, fv, hf⟩
      · exact ⟨[], by simp [h0], fun h => by omega, fun m c u _ hu => by simp at hu⟩
      · refine ⟨(List.range (news.length * j.size)).map fv, by simp, fun _ => ⟨_, rfl, fun m u hu => ?_⟩, fun m c u hc hu => ?_⟩
        · simp only [List.getElem?_map, Option.map_eq_some_iff] at hu
          obtain ⟨m', hm, rfl⟩ := hu
          have hm1 := (List.getElem?_eq_some_iff.1 hm)
          obtain ⟨hm2, hm3⟩ := hm1
          simp at hm2 hm3
          subst hm3
          rw [add_mk]
          exact (hf m _ (List.getElem?_eq_getElem (by rw [hfl]; exact hm2))).1
        · have hm : m < news.length * j.size := by rw [← hfl]; exact (List.getElem?_eq_some_iff.1 hc).1
          have : u = fv m := by simp [hm] at hu; exact hu.symm
          rw [this]; exact (hf m c hc).2
    obtain ⟨vals, hv1, hv2, hv3⟩ := hval
    have h1 : ∀ u ∈ vals, u.oneCell' = true := fun u hu => by
      obtain ⟨m, hm, rfl⟩ := List.mem_iff_getElem.1 hu
      have hm' : m < news.flatten.length := by rw [hfl, ← hv1]; exact hm
      refine cellOk_ok (hv3 m news.flatten[m] _ (List.getElem?_eq_getElem hm') (List.getElem?_eq_getElem hm)) ?_
      obtain ⟨r, hr1, hr2⟩ := List.mem_flatten.1 (List.getElem_mem hm')
      exact List.all_eq_true.1 (hrow r hr1).2 _ hr2
    obtain ⟨v', w', r1, r2, r3, r4⟩ := run_app w t o.type e f j.zero (by rw [hu, ht]) hf1 hf4 (by rw [hf2]; exact hz) (by rw [hf2]; exact hsz) _ _ _ (by rw [hf2]; exact owns_take f5 hn (fun h => by have := (f4 h).1; simp [this])) ad news.length c vals (by rw [hf2]; exact hv1) hv2 h1 h63 (by rw [hf3]; exact hb)
    rw [hf2] at r2
    obtain ⟨g', q1, q2⟩ := rel_regrow hr g1 hl (by rw [own_handle g l es.length n]; exact r3) (rows := es.take n ++ news) (by rw [List.length_append, List.length_take, Nat.min_eq_left hn]; exact r2) (by rw [own_handle g l es.length n]; exact r4) (fun r hr => by
      rcases List.mem_append.1 hr with h | h
      · exact f3 r (List.mem_of_mem_take h)
      · exact (hrow r h).1) (by rw [List.length_append, List.length_take, Nat.min_eq_left hn]; exact h63) (fun m c u hc hu => by
      rw [List.flatten_append] at hc
      have hte : (es.take n).flatten = es.flatten.take (n * j.size) := take_flatten f3 n
      have htl : (es.take n).flatten.length = n * j.size := by rw [flat_length (fun r hr => f3 r (List.mem_of_mem_take hr)), List.length_take, Nat.min_eq_left hn]
      have hxl : (xs.take (n * j.size)).length = (es.take n).flatten.length := by rw [htl, List.length_take, f5.1]; exact Nat.min_eq_left (Nat.mul_le_mul_right _ hn)
      by_cases hm : m < (es.take n).flatten.length
      · rw [List.getElem?_append_left hm] at hc
        rw [List.getElem?_append_left (by omega)] at hu
        rw [hte, List.getElem?_take_of_lt (by omega)] at hc
        rw [List.getElem?_take_of_lt (by omega)] at hu
        exact f6 m c u hc hu
      · rw [List.getElem?_append_right (by omega)] at hc
        rw [List.getElem?_append_right (by omega), hxl] at hu
        exact hv3 _ c u hc hu)
    refine ⟨v', w', g', ?_, q1, q2⟩
    rw [exec_builtin ho]
    simp only [builtin]
    refine run_v ?_
    have hm : (#[x, y].map a.eval) = #[handle g l n, .slice ad news.length c] := by simp [hax, hye]
    rw [hm]; exact r1

theorem so_append {x y : Operand} {t : TypeId} (ho : o.op = .call { callee := .builtin .append, args := #[x, y], argTypes := #[t, t] }) {i : TI} (hi : E.ti t = some i) {e : TypeId} (ht : i.desc = .slice e) {j : TI} (hj : E.ti e = some j)
    (hz : Nat.beq j.zero.cells.size j.size = true) (hsz : Nat.blt 0 j.size = true) {l k n : Nat} (hx : ev E σ x = .own l k j.size 0 n) {es : List (List AV)} (hl : σ.h l = .arr k e j.size es)
    {news : List (List AV)} (hy : rowsOf σ.h (ev E σ y) = some news) (hd : dlt o.dst σ.n = true) (hn : n = es.length) (hrow : ∀ r ∈ news, r.length = j.size ∧ r.all cellOk = true) (hb : (es.length + news.length) * j.bytes ≤ 140737488355328) (h63 : es.length + news.length ≤ 9223372036854775807)
    (hK : K (St.put { σ with h := upd σ.h l (.arr (k + 1) e j.size (es ++ news)) } o.dst (.own l (k + 1) j.size 0 (es ++ news).length))) : Step .all E B o K Q σ := by
  subst hn
  exact so_appendCut ho hi ht hj hz hsz hx hl (Nat.le_refl _) hy hd hrow hb h63 (by rw [List.take_length]; exact hK)
end
end Go.Proofs.YtdcpnpcmgfmenaaDoor.Lg
