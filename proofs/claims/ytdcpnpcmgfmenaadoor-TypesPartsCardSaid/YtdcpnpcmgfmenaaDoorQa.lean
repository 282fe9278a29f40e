/-
  Plain law: parts of types, and their values. Conditions: none.
-/
import Derived.Test.YtdcpnpcmgfmenaaDoorHg
set_option linter.unusedVariables false
set_option linter.unusedSimpArgs false
namespace Go.Proofs.YtdcpnpcmgfmenaaDoor
open Go Go.Proofs.YtdcpnpcmgfmenaaDoor.Lg

theorem text_eq {x y : ByteArray} (h : x.toList = y.toList) : x = y := by
  rw [ByteArray.toList_eq, ByteArray.toList_eq] at h
  cases x; cases y; congr; exact Array.toList_inj.1 h
theorem strEq_iff (x y : ByteArray) : strEq x y = true ↔ x = y := by
  unfold strEq
  constructor
  · intro h; exact text_eq (by simpa using h)
  · rintro rfl; simp
theorem rowsEq_str : ∀ (a b : List ByteArray), rowsEq strEq a b = true ↔ a = b
  | [], [] => by simp [rowsEq]
  | [], _ :: _ => by simp [rowsEq]
  | _ :: _, [] => by simp [rowsEq]
  | x :: a, y :: b => by simp only [rowsEq, Bool.and_eq_true, strEq_iff, rowsEq_str a b, List.cons.injEq]
theorem rowsEq_iff {α : Type} (p : α → α → Bool) : ∀ (a b : List α), rowsEq p a b = true ↔ a.length = b.length ∧ ∀ (i : Nat) (h : i < a.length) (h' : i < b.length), p a[i] b[i] = true
  | [], [] => by simp [rowsEq]
  | [], _ :: _ => by simp [rowsEq]
  | _ :: _, [] => by simp [rowsEq]
  | x :: a, y :: b => by
    simp only [rowsEq, Bool.and_eq_true, rowsEq_iff p a b, List.length_cons, Nat.add_right_cancel_iff]
    constructor
    · rintro ⟨h0, h1, h2⟩
      refine ⟨h1, fun i h h' => ?_⟩
      cases i with
      | zero => exact h0
      | succ i => exact h2 i (by omega) (by omega)
    · rintro ⟨h1, h2⟩
      exact ⟨h2 0 (by omega) (by omega), h1, fun i h h' => h2 (i + 1) (by omega) (by omega)⟩

/-! ### Where names stand -/
theorem mput_len (es : List (ByteArray × Nat)) (s : ByteArray) (i : Nat) : (mput es s i).length ≤ es.length + 1 ∧ ((mput es s i).length = es.length + 1 → mput es s i = es ++ [(s, i)]) := by
  induction es with
  | nil => simp [mput]
  | cons p r ih =>
    unfold mput
    split
    · refine ⟨by simp, fun h => by simp at h⟩
    · refine ⟨by simp; exact ih.1, fun h => ?_⟩
      rw [ih.2 (by simpa using h)]; rfl
theorem placesFrom_len : ∀ (l : List ByteArray) (i : Nat) (es : List (ByteArray × Nat)), (placesFrom l i es).length ≤ es.length + l.length
  | [], _, _ => by simp [placesFrom]
  | s :: r, i, es => by
    have := placesFrom_len r (i + 1) (mput es s i)
    have := (mput_len es s i).1
    simp only [placesFrom, List.length_cons]; omega
theorem placesFrom_all : ∀ (l : List ByteArray) (i : Nat) (es : List (ByteArray × Nat)), (placesFrom l i es).length = es.length + l.length → placesFrom l i es = es ++ l.zipIdx i
  | [], _, _, _ => by simp [placesFrom]
  | s :: r, i, es, h => by
    have h1 := placesFrom_len r (i + 1) (mput es s i)
    have h2 := (mput_len es s i).1
    simp only [placesFrom, List.length_cons] at h ⊢
    have h3 := (mput_len es s i).2 (by omega)
    rw [placesFrom_all r (i + 1) (mput es s i) (by omega), h3]
    simp
theorem placesOf_all {l : List ByteArray} (h : (placesOf l).length = l.length) : placesOf l = l.zipIdx := by
  have := placesFrom_all l 0 [] (by simpa [placesOf] using h)
  simpa [placesOf] using this
theorem placesOf_nd {l : List ByteArray} (h : (placesOf l).length = l.length) : l.Nodup := by
  have := placesOf_nodup l
  rw [placesOf_all h] at this
  have e : (l.zipIdx).map (·.1) = l := by simp
  rwa [e] at this
theorem pget_get {es : List (ByteArray × Nat)} (hn : (es.map (·.1)).Nodup) {j : Nat} {s : ByteArray} {n : Nat} (h : es[j]? = some (s, n)) : pget es s = some n := by
  induction es generalizing j with
  | nil => simp at h
  | cons p r ih =>
    unfold pget
    cases j with
    | zero => simp at h; subst h; simp
    | succ j =>
      have h' : r[j]? = some (s, n) := by simpa using h
      have hm := List.mem_of_getElem? h'
      simp only [List.map_cons, List.nodup_cons] at hn
      rw [if_neg (fun e => hn.1 (List.mem_map.2 ⟨(s, n), hm, e.symm⟩))]
      exact ih hn.2 h'
theorem place_iff {l : List ByteArray} (h : (placesOf l).length = l.length) {s : ByteArray} {k : Nat} : pget (placesOf l) s = some k ↔ l[k]? = some s := by
  have hnd := placesOf_nodup l
  have hall := placesOf_all h
  constructor
  · intro hp
    obtain ⟨j, hj⟩ := pget_some _ _ _ hp
    rw [hall, List.getElem?_zipIdx] at hj
    obtain ⟨x, hx, he⟩ := Option.map_eq_some_iff.1 hj
    simp only [Prod.mk.injEq, Nat.zero_add] at he
    rw [← he.2, hx, he.1]
  · intro hk
    refine pget_get hnd (j := k) ?_
    rw [hall, List.getElem?_zipIdx, hk]; simp
theorem nd_inj {l : List ByteArray} (hn : l.Nodup) {i j : Nat} {s : ByteArray} (h1 : l[i]? = some s) (h2 : l[j]? = some s) : i = j := by
  obtain ⟨g1, e1⟩ := List.getElem?_eq_some_iff.1 h1
  obtain ⟨g2, e2⟩ := List.getElem?_eq_some_iff.1 h2
  rcases Nat.lt_trichotomy i j with h | h | h
  · exact absurd (e1.trans e2.symm) (List.pairwise_iff_getElem.1 hn i j g1 g2 h)
  · exact h
  · exact absurd (e2.trans e1.symm) (List.pairwise_iff_getElem.1 hn j i g2 g1 h)

theorem firstAt_ge {α : Type} (p : α → Bool) : ∀ (l : List α) (i : Int), 0 ≤ i → 0 ≤ firstAt p l i → ∃ k : Nat, firstAt p l i = i + k ∧ ∃ h : k < l.length, p l[k] = true
  | [], _, _, h => by simp [firstAt] at h
  | x :: r, i, h0, h => by
    unfold firstAt at h ⊢
    by_cases hp : p x = true
    · rw [if_pos hp]; exact ⟨0, by simp, by simp, by simpa using hp⟩
    · rw [if_neg hp] at h ⊢
      obtain ⟨k, h1, h2, h3⟩ := firstAt_ge p r (i + 1) (by omega) h
      exact ⟨k + 1, by rw [h1]; omega, by simpa using h2, by simpa using h3⟩
theorem idxOf_ge {names : List ByteArray} {s : ByteArray} (h : 0 ≤ idxOf names s) : ∃ k : Nat, idxOf names s = k ∧ names[k]? = some s := by
  obtain ⟨k, h1, h2, h3⟩ := firstAt_ge (fun y : ByteArray => s.toList == y.toList) names 0 (by omega) h
  refine ⟨k, by unfold idxOf; omega, ?_⟩
  rw [List.getElem?_eq_getElem h2, text_eq (by simpa using h3 : s.toList = names[k].toList)]
theorem idxOf_at {names : List ByteArray} (hn : names.Nodup) {s : ByteArray} {k : Nat} (h : names[k]? = some s) : idxOf names s = k := by
  have h0 : 0 ≤ idxOf names s := by
    have := firstAt_any (fun y : ByteArray => s.toList == y.toList) names 0 (by omega)
    have ha : names.any (fun y : ByteArray => s.toList == y.toList) = true := List.any_eq_true.2 ⟨s, List.mem_of_getElem? h, by simp⟩
    rw [ha] at this
    exact of_decide_eq_true this
  obtain ⟨k', h1, h2⟩ := idxOf_ge h0
  rw [h1, nd_inj hn h2 h]

/-! ### What it takes to be part, to have -/
theorem T.subU_iff : ∀ (la : List T) (na : List ByteArray) (pl : List (ByteArray × Nat)) (lb : List T), la.length = na.length →
    (T.subU la na pl lb = true ↔ ∀ (i : Nat) (h : i < la.length) (h' : i < na.length), ∃ k y, pget pl na[i] = some k ∧ lb[k]? = some y ∧ la[i].sub y = true)
  | [], [], _, _, _ => by rw [T.subU]; simp; simp
  | [], _ :: _, _, _, h => by simp at h
  | _ :: _, [], _, _, h => by simp at h
  | x :: r, n :: ns, pl, lb, h => by
    rw [T.subU, Bool.and_eq_true, T.subU_iff r ns pl lb (by simpa using h)]
    constructor
    · rintro ⟨h1, h2⟩ i hi hi'
      cases i with
      | succ i => exact h2 i (by simpa using hi) (by simpa using hi')
      | zero =>
        simp only [List.getElem_cons_zero]
        cases hp : pget pl n with
        | none => rw [hp] at h1; simp at h1
        | some k =>
          rw [hp] at h1
          cases hl : lb[k]? with
          | none => simp [hl] at h1
          | some y => simp [hl] at h1; exact ⟨k, y, rfl, hl, h1⟩
    · intro h1
      refine ⟨?_, fun i hi hi' => h1 (i + 1) (by simpa using hi) (by simpa using hi')⟩
      obtain ⟨k, y, e1, e2, e3⟩ := h1 0 (by simp) (by simp)
      simp only [List.getElem_cons_zero] at e1 e3
      simp [e1, e2, e3]
theorem T.hasL_iff : ∀ (l : List T) (vl : List V), l.length = vl.length → (T.hasL l vl = true ↔ ∀ (i : Nat) (h : i < l.length) (h' : i < vl.length), l[i].has vl[i] = true)
  | [], [], _ => by rw [T.hasL]; simp; simp
  | [], _ :: _, h => by simp at h
  | _ :: _, [], h => by simp at h
  | x :: r, y :: s, h => by
    rw [T.hasL, Bool.and_eq_true, T.hasL_iff r s (by simpa using h)]
    constructor
    · rintro ⟨h1, h2⟩ i hi hi'
      cases i with
      | succ i => exact h2 i (by simpa using hi) (by simpa using hi')
      | zero => exact h1
    · intro h1
      exact ⟨h1 0 (by simp) (by simp), fun i hi hi' => h1 (i + 1) (by simpa using hi) (by simpa using hi')⟩
theorem T.hasAt_get : ∀ (l : List T) (n : Nat) (v : V), T.hasAt l n v = true ↔ ∃ x, l[n]? = some x ∧ x.has v = true
  | [], n, v => by rw [T.hasAt]; simp
  | x :: r, 0, v => by rw [T.hasAt]; simp
  | x :: r, n + 1, v => by rw [T.hasAt, T.hasAt_get r n v]; simp

/-- How one type is part of another. -/
inductive SubW (ka : Int) (na : List ByteArray) (la : List T) (kb : Int) (nb : List ByteArray) (lb : List T) : Prop
  | any : kb = 1 → SubW ka na la kb nb lb
  | num : ka = 5 → kb = 4 → SubW ka na la kb nb lb
  | union : ka = 11 → kb = 11 → (∀ (i : Nat) n x, na[i]? = some n → la[i]? = some x → ∃ (k : Nat) (y : T), nb[k]? = some n ∧ lb[k]? = some y ∧ x.sub y = true) → SubW ka na la kb nb lb
  | same : ka = kb → ka ≠ 11 → na = nb → la.length = lb.length → (∀ (i : Nat) x y, la[i]? = some x → lb[i]? = some y → x.sub y = true) → SubW ka na la kb nb lb

theorem T.sub_w {ka kb : Int} {na nb : List ByteArray} {la lb : List T} (ha : TInv ka na la) (hb : TInv kb nb lb) : (T.mk ka na la).sub (T.mk kb nb lb) = true ↔ SubW ka na la kb nb lb := by
  have hS : (T.mk ka na la).sub (T.mk kb nb lb) = if ((kb == 1) || ((ka == 5) && (kb == 4))) = true then true
    else if (ka != kb) = true then false
    else if (ka == 11) = true then T.subU la na (placesOf nb) lb
    else rowsEq strEq na nb && T.subR la lb := by rw [T.sub]; rfl
  rw [hS]
  by_cases h1 : ((kb == 1) || ((ka == 5) && (kb == 4))) = true
  · rw [if_pos h1]
    simp only [true_iff]
    rcases Bool.or_eq_true_iff.1 h1 with h | h
    · exact .any (by simpa using h)
    · simp only [Bool.and_eq_true, beq_iff_eq] at h; exact .num h.1 h.2
  · rw [if_neg h1]
    have h1' : kb ≠ 1 ∧ (ka = 5 → kb ≠ 4) := by
      refine ⟨fun e => h1 (by rw [e]; rfl), fun e1 e2 => h1 (by rw [e1, e2]; rfl)⟩
    by_cases h2 : (ka != kb) = true
    · rw [if_pos h2]
      have hne : ka ≠ kb := by simpa using h2
      refine ⟨fun h => by simp at h, fun h => ?_⟩
      cases h with
      | any h => exact absurd h h1'.1
      | num e1 e2 => exact absurd e2 (h1'.2 e1)
      | union e1 e2 _ => exact absurd (e1.trans e2.symm) hne
      | same e _ _ _ _ => exact absurd e hne
    · rw [if_neg h2]
      have he : ka = kb := by simpa using h2
      by_cases h3 : (ka == 11) = true
      · rw [if_pos h3]
        have h11 : ka = 11 := by simpa using h3
        have h11b : kb = 11 := by omega
        have hla := ha.same (.inr h11)
        have hpl := hb.some (.inr h11b)
        rw [T.subU_iff la na (placesOf nb) lb hla.symm]
        constructor
        · intro h
          refine .union h11 h11b fun i n x hn hx => ?_
          obtain ⟨g1, e1⟩ := List.getElem?_eq_some_iff.1 hn
          obtain ⟨g2, e2⟩ := List.getElem?_eq_some_iff.1 hx
          obtain ⟨k, y, r1, r2, r3⟩ := h i g2 g1
          rw [e1] at r1
          rw [e2] at r3
          exact ⟨k, y, (place_iff hpl).1 r1, r2, r3⟩
        · intro h i hi hi'
          cases h with
          | any h => exact absurd h h1'.1
          | num e1 e2 => exact absurd e2 (h1'.2 e1)
          | same _ h _ _ _ => exact absurd h11 h
          | union _ _ h =>
            obtain ⟨k, y, r1, r2, r3⟩ := h i na[i] la[i] (List.getElem?_eq_getElem hi') (List.getElem?_eq_getElem hi)
            exact ⟨k, y, (place_iff hpl).2 r1, r2, r3⟩
      · rw [if_neg h3, T.subR_eq, Bool.and_eq_true, rowsEq_str, rowsEq_iff]
        have h11 : ka ≠ 11 := by simpa using h3
        constructor
        · rintro ⟨r1, r2, r3⟩
          refine .same he h11 r1 r2 fun i x y hx hy => ?_
          obtain ⟨g1, e1⟩ := List.getElem?_eq_some_iff.1 hx
          obtain ⟨g2, e2⟩ := List.getElem?_eq_some_iff.1 hy
          have := r3 i g1 g2
          rwa [e1, e2] at this
        · intro h
          cases h with
          | any h => exact absurd h h1'.1
          | num e1 e2 => exact absurd e2 (h1'.2 e1)
          | union h _ _ => exact absurd h h11
          | same _ _ r1 r2 r3 => exact ⟨r1, r2, fun i h h' => r3 i _ _ (List.getElem?_eq_getElem h) (List.getElem?_eq_getElem h')⟩

/-- How a type has a value. -/
inductive HasW (kind : Int) (names : List ByteArray) (list : List T) (vk exp : Int) (text : ByteArray) (vnames : List ByteArray) (vlist : List V) : Prop
  | any : kind = 1 → HasW kind names list vk exp text vnames vlist
  | list : kind = 9 → vk = 7 → (∀ x t, x ∈ vlist → t ∈ list → t.has x = true) → HasW kind names list vk exp text vnames vlist
  | record : kind = 10 → vk = 8 → vnames = names → vlist.length = list.length → (∀ (i : Nat) t x, list[i]? = some t → vlist[i]? = some x → t.has x = true) → HasW kind names list vk exp text vnames vlist
  | union (k : Nat) (t : T) (x : V) : kind = 11 → vk = 9 → names[k]? = some text → list[k]? = some t → vlist = [x] → t.has x = true → HasW kind names list vk exp text vnames vlist
  | leaf : 2 ≤ kind → kind ≤ 8 → vk = kindOf kind → (kind = 5 → 0 ≤ exp) → HasW kind names list vk exp text vnames vlist

theorem T.has_w {kind vk exp bits : Int} {flag neg : Bool} {digits text : ByteArray} {names vnames : List ByteArray} {list : List T} {vlist : List V} (ht : TInv kind names list) (hv : VInv vk vnames vlist) :
    (T.mk kind names list).has (V.mk vk flag neg digits exp bits text vnames vlist) = true ↔ HasW kind names list vk exp text vnames vlist := by
  have hS : (T.mk kind names list).has (V.mk vk flag neg digits exp bits text vnames vlist) = if (kind == 1) = true then true
    else if (kind == 9) = true then (vk == 7) && !(vlist.any fun x => !(T.hasAt list 0 x))
    else if (kind == 10) = true then (if (vk != 8 || !(rowsEq strEq vnames names)) = true then false else T.hasL list vlist)
    else if (kind == 11) = true then ((vk == 9) && decide (idxOf names text ≥ 0)) && headB (fun y => T.hasAt list (idxOf names text).toNat y) vlist
    else (vk == kindOf kind) && ((kind != 5) || decide (exp ≥ 0)) := by rw [T.has]; rfl
  rw [hS]
  by_cases h1 : (kind == 1) = true
  · rw [if_pos h1]; simp only [true_iff]; exact .any (by simpa using h1)
  · rw [if_neg h1]
    have h1' : kind ≠ 1 := by simpa using h1
    by_cases h9 : (kind == 9) = true
    · rw [if_pos h9]
      have h9' : kind = 9 := by simpa using h9
      obtain ⟨t, rfl⟩ : ∃ t, list = [t] := List.length_eq_one_iff.1 (ht.one h9')
      have e : ∀ x : V, T.hasAt [t] 0 x = t.has x := fun x => by rw [T.hasAt]
      simp only [e, Bool.and_eq_true, beq_iff_eq, Bool.not_eq_true', List.any_eq_false, Bool.not_eq_true, Bool.not_eq_false']
      constructor
      · rintro ⟨r1, r2⟩
        refine .list h9' r1 fun x u hx hu => ?_
        rw [List.mem_singleton.1 hu]
        simpa using r2 x hx
      · intro h
        cases h with
        | any h => exact absurd h h1'
        | record h _ _ _ _ => omega
        | union _ _ _ h _ _ _ _ _ => omega
        | leaf _ h _ _ => omega
        | list _ r1 r2 => exact ⟨r1, fun x hx => by simpa using r2 x t hx (by simp)⟩
    · rw [if_neg h9]
      have h9' : kind ≠ 9 := by simpa using h9
      by_cases h10 : (kind == 10) = true
      · rw [if_pos h10]
        have h10' : kind = 10 := by simpa using h10
        constructor
        · intro h
          split at h
          · simp at h
          · rename_i hc
            have hc' := Bool.or_eq_false_iff.1 (Bool.not_eq_true _ ▸ hc)
            have r1 : vk = 8 := by simpa using hc'.1
            have r2 : vnames = names := (rowsEq_str _ _).1 (by simpa using hc'.2)
            have r3 : vlist.length = list.length := by rw [← hv.same r1, ← ht.same (.inl h10'), r2]
            refine .record h10' r1 r2 r3 fun i t x hi hx => ?_
            obtain ⟨g1, e1⟩ := List.getElem?_eq_some_iff.1 hi
            obtain ⟨g2, e2⟩ := List.getElem?_eq_some_iff.1 hx
            have := (T.hasL_iff list vlist r3.symm).1 h i g1 g2
            rwa [e1, e2] at this
        · intro h
          cases h with
          | any h => exact absurd h h1'
          | list h _ _ => omega
          | union _ _ _ h _ _ _ _ _ => omega
          | leaf _ h _ _ => omega
          | record _ r1 r2 r3 r4 =>
            rw [if_neg (by rw [r1, (rowsEq_str vnames names).2 r2]; simp), T.hasL_iff list vlist r3.symm]
            exact fun i h h' => r4 i _ _ (List.getElem?_eq_getElem h) (List.getElem?_eq_getElem h')
      · rw [if_neg h10]
        have h10' : kind ≠ 10 := by simpa using h10
        by_cases h11 : (kind == 11) = true
        · rw [if_pos h11]
          have h11' : kind = 11 := by simpa using h11
          have hnd := placesOf_nd (ht.some (.inr h11'))
          simp only [Bool.and_eq_true, beq_iff_eq, decide_eq_true_eq]
          constructor
          · rintro ⟨⟨r1, r2⟩, r3⟩
            obtain ⟨x, rfl⟩ : ∃ x, vlist = [x] := List.length_eq_one_iff.1 (hv.one r1)
            obtain ⟨k, e1, e2⟩ := idxOf_ge r2
            simp only [headB] at r3
            rw [e1, T.hasAt_get] at r3
            obtain ⟨t, g1, g2⟩ := r3
            exact .union k t x h11' r1 e2 (by simpa using g1) rfl g2
          · intro h
            cases h with
            | any h => exact absurd h h1'
            | list h _ _ => omega
            | record h _ _ _ _ => omega
            | leaf _ h _ _ => omega
            | union k t x _ r1 r2 r3 r4 r5 =>
              have e := idxOf_at hnd r2
              refine ⟨⟨r1, by omega⟩, ?_⟩
              rw [r4, e]
              simp only [headB]
              rw [T.hasAt_get]
              exact ⟨t, by simpa using r3, r5⟩
        · rw [if_neg h11]
          have h11' : kind ≠ 11 := by simpa using h11
          have hl := ht.leaf (by omega)
          simp only [Bool.and_eq_true, Bool.or_eq_true, beq_iff_eq, bne_iff_ne, decide_eq_true_eq]
          constructor
          · rintro ⟨r1, r2⟩
            exact .leaf (by omega) hl.2.2.2 r1 (fun e => by rcases r2 with r2 | r2; exact absurd e r2; exact r2)
          · intro h
            cases h with
            | any h => exact absurd h h1'
            | list h _ _ => omega
            | record h _ _ _ _ => omega
            | union _ _ _ h _ _ _ _ _ => omega
            | leaf _ _ r1 r2 =>
              refine ⟨r1, ?_⟩
              by_cases h5 : kind = 5
              · exact .inr (r2 h5)
              · exact .inl h5

/-- What is part of a type has no other values. -/
theorem T.sub_has (a : T) : ∀ (b : T) (v : V), a.formed = true → b.formed = true → v.formed = true → a.sub b = true → a.has v = true → b.has v = true := by
  revert a
  apply T.ind
  intro ka na la ih b v ha hb hv hs hh
  obtain ⟨kb, nb, lb⟩ := b
  obtain ⟨vk, flag, neg, digits, exp, bits, text, vnames, vlist⟩ := v
  have ia := T.inv ha
  have ib := T.inv hb
  have iv := V.inv hv
  rw [T.has_w ib iv]
  rw [T.has_w ia iv] at hh
  rw [T.sub_w ia ib] at hs
  cases hs with
  | any h => exact .any h
  | num h1 h2 =>
    cases hh with
    | leaf _ _ r1 r2 => exact .leaf (by omega) (by omega) (by rw [r1, h1, h2]; rfl) (fun e => by omega)
    | any h => omega
    | list h _ _ => omega
    | record h _ _ _ _ => omega
    | union _ _ _ h _ _ _ _ _ => omega
  | union h1 h2 h3 =>
    cases hh with
    | leaf _ h _ _ => omega
    | any h => omega
    | list h _ _ => omega
    | record h _ _ _ _ => omega
    | union k t x _ r1 r2 r3 r4 r5 =>
      obtain ⟨k', y, e1, e2, e3⟩ := h3 k text t r2 r3
      refine .union k' y x h2 r1 e1 e2 r4 ?_
      exact ih t (List.mem_of_getElem? r3) y x (ia.all t (List.mem_of_getElem? r3)) (ib.all y (List.mem_of_getElem? e2)) (iv.all x (by rw [r4]; simp)) e3 r5
  | same h1 h2 h3 h4 h5 =>
    cases hh with
    | leaf r0 r0' r1 r2 => exact .leaf (by omega) (by omega) (by rw [r1, h1]) (fun e => r2 (by omega))
    | any h => exact .any (by omega)
    | union _ _ _ h _ _ _ _ _ => exact absurd h h2
    | list h r1 r2 =>
      refine .list (by omega) r1 fun x u hx hu => ?_
      obtain ⟨t, rfl⟩ : ∃ t, la = [t] := List.length_eq_one_iff.1 (ia.one h)
      obtain ⟨y, rfl⟩ : ∃ y, lb = [y] := List.length_eq_one_iff.1 (ib.one (by omega))
      rw [List.mem_singleton.1 hu]
      exact ih t (by simp) y x (ia.all t (by simp)) (ib.all y (by simp)) (iv.all x hx) (h5 0 t y rfl rfl) (r2 x t hx (by simp))
    | record h r1 r2 r3 r4 =>
      refine .record (by omega) r1 (r2.trans h3) (by omega) fun i y x hy hx => ?_
      have hi : i < la.length := by have := (List.getElem?_eq_some_iff.1 hy).1; omega
      have ht : la[i]? = some la[i] := List.getElem?_eq_getElem hi
      exact ih _ (List.getElem_mem hi) y x (ia.all _ (List.getElem_mem hi)) (ib.all y (List.mem_of_getElem? hy)) (iv.all x (List.mem_of_getElem? hx)) (h5 i _ y ht hy) (r4 i _ x ht hx)
end Go.Proofs.YtdcpnpcmgfmenaaDoor
