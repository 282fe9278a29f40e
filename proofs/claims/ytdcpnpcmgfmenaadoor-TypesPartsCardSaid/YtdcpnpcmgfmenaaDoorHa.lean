/-
  Walks: is a value one of a type's? Conditions: none.
-/
import Derived.Test.YtdcpnpcmgfmenaaDoorVf
import Derived.Test.YtdcpnpcmgfmenaaDoorPp
set_option linter.unusedVariables false
set_option maxRecDepth 100000
namespace Go.Proofs.YtdcpnpcmgfmenaaDoor
open Go Go.Proofs.YtdcpnpcmgfmenaaDoor.Lg

def V.kind : V → Int | .mk k _ _ _ _ _ _ _ _ => k
def V.exp : V → Int | .mk _ _ _ _ e _ _ _ _ => e
def V.text : V → ByteArray | .mk _ _ _ _ _ _ t _ _ => t
def V.names : V → List ByteArray | .mk _ _ _ _ _ _ _ n _ => n
def V.list : V → List V | .mk _ _ _ _ _ _ _ _ l => l

/-- The kind of the values of a type without parts. -/
def kindOf (k : Int) : Int := if k = 2 then 1 else if k = 3 then 2 else if k = 4 then 3 else if k = 5 then 3 else if k = 6 then 4 else if k = 7 then 5 else if k = 8 then 6 else 0
def idxOf (names : List ByteArray) (s : ByteArray) : Int := firstAt (fun y => s.toList == y.toList) names 0
def headB {α : Type} (f : α → Bool) : List α → Bool
  | [] => false
  | y :: _ => f y
mutual
def T.has : T → V → Bool
  | .mk kind names list, v =>
    if (kind == 1) = true then true
    else if (kind == 9) = true then (v.kind == 7) && !(v.list.any fun x => !(T.hasAt list 0 x))
    else if (kind == 10) = true then (if (v.kind != 8 || !(rowsEq strEq v.names names)) = true then false else T.hasL list v.list)
    else if (kind == 11) = true then ((v.kind == 9) && decide (idxOf names v.text ≥ 0)) && headB (fun y => T.hasAt list (idxOf names v.text).toNat y) v.list
    else (v.kind == kindOf kind) && ((kind != 5) || decide (v.exp ≥ 0))
def T.hasAt : List T → Nat → V → Bool
  | [], _, _ => false
  | x :: _, 0, v => x.has v
  | _ :: r, n + 1, v => T.hasAt r n v
def T.hasL : List T → List V → Bool
  | x :: r, y :: s => x.has y && T.hasL r s
  | _, _ => true
end
theorem T.hasAt_eq : ∀ (l : List T) (n : Nat) (h : n < l.length) (v : V), T.hasAt l n v = (l[n]).has v
  | x :: r, 0, _, v => by rw [T.hasAt]; rfl
  | x :: r, n + 1, h, v => by rw [T.hasAt, T.hasAt_eq r n (by simpa using h) v]; rfl

theorem T.formedL_iff (l : List T) : T.formedL l = true ↔ ∀ x ∈ l, x.formed = true := by rw [T.formedL_any]; simp
theorem V.formedL_iff (l : List V) : V.formedL l = true ↔ ∀ x ∈ l, x.formed = true := by rw [V.formedL_any]; simp

structure TInv (kind : Int) (names : List ByteArray) (list : List T) : Prop where
  one : kind = 9 → list.length = 1
  same : kind = 10 ∨ kind = 11 → names.length = list.length
  some : kind = 10 ∨ kind = 11 → (placesOf names).length = names.length
  utf : kind = 10 ∨ kind = 11 → ∀ n ∈ names, utfOk n = true
  leaf : ¬ (kind = 9 ∨ kind = 10 ∨ kind = 11) → names = [] ∧ list = [] ∧ 1 ≤ kind ∧ kind ≤ 8
  bare : kind = 9 → names = []
  all : ∀ x ∈ list, x.formed = true
theorem T.inv {kind : Int} {names : List ByteArray} {list : List T} (h : (T.mk kind names list).formed = true) : TInv kind names list := by
  rw [T.formed] at h
  by_cases h9 : kind = 9
  · rw [if_pos h9] at h
    simp only [Bool.and_eq_true, beq_iff_eq] at h
    exact ⟨fun _ => h.1.2, fun e => by omega, fun e => by omega, fun e => by omega, fun e => absurd (.inl h9) e, fun _ => List.eq_nil_of_length_eq_zero h.1.1, (T.formedL_iff _).1 h.2⟩
  · rw [if_neg h9] at h
    by_cases h1 : kind = 10 ∨ kind = 11
    · rw [if_pos h1] at h
      simp only [Bool.and_eq_true, beq_iff_eq] at h
      refine ⟨fun e => absurd e h9, fun _ => h.1.1.1, fun _ => h.1.1.2, fun _ n hn => ?_, fun e => absurd (.inr h1) e, fun e => absurd e h9, (T.formedL_iff _).1 h.2⟩
      have := h.1.2
      simp only [Bool.not_eq_true', List.any_eq_false, Bool.not_eq_true, Bool.not_eq_false'] at this
      simpa using this n hn
    · rw [if_neg h1] at h
      simp only [Bool.and_eq_true, decide_eq_true_eq, beq_iff_eq] at h
      have e1 : names = [] := List.eq_nil_of_length_eq_zero (by omega)
      have e2 : list = [] := List.eq_nil_of_length_eq_zero (by omega)
      exact ⟨fun e => absurd e h9, fun e => absurd e h1, fun e => absurd e h1, fun e => absurd e h1, fun _ => ⟨e1, e2, h.1.1, h.1.2⟩, fun e => absurd e h9, fun x hx => by rw [e2] at hx; cases hx⟩
structure VInv (kind : Int) (names : List ByteArray) (list : List V) : Prop where
  same : kind = 8 → names.length = list.length
  one : kind = 9 → list.length = 1
  all : ∀ x ∈ list, x.formed = true
theorem V.inv {kind : Int} {flag neg : Bool} {digits : ByteArray} {exp bits : Int} {text : ByteArray} {names : List ByteArray} {list : List V} (h : (V.mk kind flag neg digits exp bits text names list).formed = true) : VInv kind names list := by
  rw [V.formed] at h
  simp only [Bool.and_eq_true] at h
  obtain ⟨h1, h2⟩ := h
  refine ⟨fun e => ?_, fun e => ?_, (V.formedL_iff _).1 h2⟩
  · subst e
    have h1 : (!(V.bad (((names.length : Int) == (list.length : Int)) && namesOk names []) flag neg digits exp bits text 0 0)) = true := h1
    cases hb : ((names.length : Int) == (list.length : Int)) with
    | true => have : (names.length : Int) = (list.length : Int) := by simpa using hb
              omega
    | false => rw [hb] at h1; simp [V.bad] at h1
  · subst e
    have h1 : (!(V.bad (((list.length : Int) == 1) && utfOk text) flag neg digits exp bits noText names.length 0)) = true := h1
    cases hb : ((list.length : Int) == 1) with
    | true => have : (list.length : Int) = 1 := by simpa using hb
              omega
    | false => rw [hb] at h1; simp [V.bad] at h1

theorem firstAt_lt {α : Type} (p : α → Bool) : ∀ (l : List α) (i : Int), 0 ≤ i → 0 ≤ firstAt p l i → firstAt p l i < i + l.length
  | [], _, _, h => by simp [firstAt] at h
  | x :: r, i, h0, h => by
    unfold firstAt at h ⊢
    split
    · simp only [List.length_cons]; omega
    · rename_i hp
      rw [if_neg hp] at h
      have := firstAt_lt p r (i + 1) (by omega) h
      simp only [List.length_cons]; omega
theorem T.hasL_nil (l : List T) : T.hasL l [] = true := by cases l <;> rw [T.hasL] <;> simp

theorem has1_pure (kind : Int) (names : List ByteArray) (list : List T) (s : Bool) (h1 : list.length = 1) (x : V) (hx : ∀ t ∈ list, Pure env 31 [.d t.d, .d x.d] (.d (.v (.bool (t.has x))))) :
    Pure env 49 [.d x.d, .dp [.v (.int .i64 kind), .sl s (strRows names), .sl s (T.rows list)] 0] (.d (.v (.bool (!(T.hasAt list 0 x))))) := by
  obtain ⟨t0, rfl⟩ : ∃ y, list = [y] := List.length_eq_one_iff.1 h1
  have hx := hx t0 (by simp)
  have e : T.hasAt [t0] 0 x = t0.has x := by rw [T.hasAt]
  rw [e]
  generalize t0.has x = r at hx
  rw [T.df_d, V.df_d] at hx
  rw [V.df_d]
  obtain ⟨a1, a2, a3⟩ := t0
  obtain ⟨vk, flag, neg, digits, exp, bits, text, vnames, vlist⟩ := x
  refine pure_of_body Tryd.func49 rfl rfl rfl fun B hB => ?_
  refine swp_seq ?_
  refine swp_region ?_
  refine sops_go rfl (so_box (cs := [_, _, _, _, _, _, _, _, _]) rfl rfl rfl ?_)
  refine sops_go rfl (st_assign (v := .d _) rfl rfl rfl ?_)
  refine sops_nil ?_
  refine swp_seq ?_
  refine swp_regionQ 5 (by kernel_rfl) rfl rfl rfl ?_
  first | refine h0_go rfl (so_fieldAddr (v := .p _ _ _) rfl rfl rfl rfl rfl rfl rfl rfl rfl rfl ⟨_, rfl, ?_⟩) | refine h0_go rfl (so_fieldAddr (v := .dp _ _) rfl rfl rfl rfl rfl rfl rfl rfl rfl rfl ⟨_, rfl, ?_⟩) | refine h0_go rfl (so_fieldAddr (v := .pe _ _ _ _ _) rfl rfl rfl rfl rfl rfl rfl rfl rfl rfl ⟨_, rfl, ?_⟩)
  first | refine h0_go rfl (so_load (v := .d _) rfl rfl rfl rfl rfl rfl rfl rfl ⟨_, rfl, ?_⟩) | refine h0_go rfl (so_load (v := .own _ _ _ _ _) rfl rfl rfl rfl rfl rfl rfl rfl ⟨_, rfl, ?_⟩)
  refine h0_go rfl (so_indexSl rfl rfl rfl rfl rfl rfl rfl (T.rows_all _) (by omega) (by simp [T.rows]) rfl ⟨_, rfl, ?_⟩)
  first | refine h0_go rfl (so_load (v := .d (.agg [_, _, _])) rfl rfl rfl rfl rfl rfl rfl rfl ⟨_, rfl, ?_⟩) | refine h0_go rfl (so_load (v := .agg [_, _, _]) rfl rfl rfl rfl rfl rfl rfl rfl ⟨_, rfl, ?_⟩)
  first | refine h0_go rfl (so_load (v := .d (.agg [_, _, _, _, _, _, _, _, _])) rfl rfl rfl rfl rfl rfl rfl rfl ⟨_, rfl, ?_⟩) | refine h0_go rfl (so_load (v := .agg [_, _, _, _, _, _, _, _, _]) rfl rfl rfl rfl rfl rfl rfl rfl ⟨_, rfl, ?_⟩)
  refine h0_nil ?_
  refine sops_go rfl (st_call rfl rfl (hx) ⟨na_d _, na_d _, trivial⟩ rfl ?_)
  refine sops_go rfl (st_not rfl rfl rfl ?_)
  refine sops_go rfl (st_assign (v := .d _) rfl rfl rfl ?_)
  refine sops_nil ?_
  refine swp_ret ?_
  exact fin_b rfl rfl rfl

theorem has_pure (t : T) : ∀ v : V, t.formed = true → v.formed = true → ∀ s s', Pure env 31 [.d (t.df s), .d (v.df s')] (.d (.v (.bool (t.has v)))) := by
  revert t
  apply T.ind
  intro kind names list ih v ht hv s s'
  obtain ⟨vk, flag, neg, digits, exp, bits, text, vnames, vlist⟩ := v
  have ti := T.inv ht
  have vi := V.inv hv
  have hS : (T.mk kind names list).has (V.mk vk flag neg digits exp bits text vnames vlist) = if (kind == 1) = true then true
    else if (kind == 9) = true then (vk == 7) && !(vlist.any fun x => !(T.hasAt list 0 x))
    else if (kind == 10) = true then (if (vk != 8 || !(rowsEq strEq vnames names)) = true then false else T.hasL list vlist)
    else if (kind == 11) = true then ((vk == 9) && decide (idxOf names text ≥ 0)) && headB (fun y => T.hasAt list (idxOf names text).toNat y) vlist
    else (vk == kindOf kind) && ((kind != 5) || decide (exp ≥ 0)) := by rw [T.has]; rfl
  refine pure_of_body Tryd.func31 rfl rfl rfl fun B hB => ?_
  refine swp_seq ?_
  refine swp_region ?_
  refine sops_go rfl (so_box (cs := [_, _, _]) rfl rfl rfl ?_)
  refine sops_go rfl (so_box (cs := [_, _, _, _, _, _, _, _, _]) rfl rfl rfl ?_)
  refine sops_go rfl (st_assign (v := .d _) rfl rfl rfl ?_)
  refine sops_nil ?_
  refine swp_seq ?_
  refine swp_seq ?_
  refine swp_region ?_
  first | refine sops_go rfl (so_fieldAddr (v := .p _ _ _) rfl rfl rfl rfl rfl rfl rfl rfl rfl rfl ?_) | refine sops_go rfl (so_fieldAddr (v := .dp _ _) rfl rfl rfl rfl rfl rfl rfl rfl rfl rfl ?_) | refine sops_go rfl (so_fieldAddr (v := .pe _ _ _ _ _) rfl rfl rfl rfl rfl rfl rfl rfl rfl rfl ?_)
  refine sops_go rfl (so_load (v := .d _) rfl rfl rfl rfl rfl rfl rfl rfl ?_)
  refine sops_nil ?_
  refine swp_block ?_
  refine swp_seq ?_
  refine swp_region ?_
  refine sops_go rfl (st_bin rfl rfl rfl rfl rfl ?_)
  refine sops_go rfl (st_assign (v := .d _) rfl rfl rfl ?_)
  refine sops_nil ?_
  refine swp_cond _ rfl (fun hc10 => ?_) (fun hc10 => ?_)
  · rw [if_pos hc10] at hS
    refine swp_seq ?_
    refine swp_region ?_
    refine sops_go rfl (st_assign (v := .d _) rfl rfl rfl ?_)
    refine sops_nil ?_
    refine swp_ret ?_
    with_reducible refine inblk_ret ?_
    with_reducible refine after_ret ?_
    exact fin_b rfl rfl hS
  · rw [if_neg (by rw [hc10]; simp)] at hS
    refine swp_seq ?_
    refine swp_region ?_
    refine sops_go rfl (st_bin rfl rfl rfl rfl rfl ?_)
    refine sops_go rfl (st_assign (v := .d _) rfl rfl rfl ?_)
    refine sops_nil ?_
    refine swp_cond _ rfl (fun hc12 => ?_) (fun hc12 => ?_)
    · rw [if_pos hc12] at hS
      have h9 : kind = 9 := by simpa using hc12
      have hrec : ∀ x ∈ vlist, Pure env 49 [.d x.d, .dp [.v (.int .i64 kind), .sl s (strRows names), .sl s (T.rows list)] 0] (.d (.v (.bool (!(T.hasAt list 0 x))))) :=
        fun x hx => has1_pure kind names list s (ti.one h9) x (fun t ht' => by have := ih t ht' x (ti.all t ht') (vi.all x hx) true true; rwa [← T.df_d, ← V.df_d] at this)
      refine swp_seq ?_
      refine swp_region ?_
      first | refine sops_go rfl (so_fieldAddr (v := .p _ _ _) rfl rfl rfl rfl rfl rfl rfl rfl rfl rfl ?_) | refine sops_go rfl (so_fieldAddr (v := .dp _ _) rfl rfl rfl rfl rfl rfl rfl rfl rfl rfl ?_) | refine sops_go rfl (so_fieldAddr (v := .pe _ _ _ _ _) rfl rfl rfl rfl rfl rfl rfl rfl rfl rfl ?_)
      refine sops_go rfl (so_load (v := .d _) rfl rfl rfl rfl rfl rfl rfl rfl ?_)
      refine sops_go rfl (st_bin rfl rfl rfl rfl rfl ?_)
      refine sops_go rfl (st_move (v := .d _) rfl rfl rfl ?_)
      refine' sops_and (d := 17) (p := 23) [18, 19, 20, 21, 22] 6 rfl rfl rfl (fun hb17 => ?a17) (fun hb17 => ?b17) ?_
      case a17 =>
        first | refine sops_yes rfl rfl rfl rfl (so_fieldAddr (v := .p _ _ _) rfl rfl rfl rfl rfl rfl rfl rfl rfl rfl ?_) | refine sops_yes rfl rfl rfl rfl (so_fieldAddr (v := .dp _ _) rfl rfl rfl rfl rfl rfl rfl rfl rfl rfl ?_) | refine sops_yes rfl rfl rfl rfl (so_fieldAddr (v := .pe _ _ _ _ _) rfl rfl rfl rfl rfl rfl rfl rfl rfl rfl ?_)
        first | refine sops_yes rfl rfl rfl rfl (so_load (v := .d _) rfl rfl rfl rfl rfl rfl rfl rfl ?_) | refine sops_yes rfl rfl rfl rfl (so_load (v := .own _ _ _ _ _) rfl rfl rfl rfl rfl rfl rfl rfl ?_)
        refine sops_yes rfl rfl rfl rfl (st_makeFunc rfl rfl ?_)
        refine sops_yes rfl rfl rfl rfl (st_call rfl rfl (containsFuncV_pure s' vlist 49 [.dp [.v (.int .i64 kind), .sl s (strRows names), .sl s (T.rows list)] 0] (fun x => !(T.hasAt list 0 x)) hrec rfl) ⟨na_d _, na_fn ⟨na_p (ds := [.v (.int .i64 kind), .sl s (strRows names), .sl s (T.rows list)]) rfl, trivial⟩, trivial⟩ rfl ?_)
        refine sops_yes rfl rfl rfl rfl (st_not rfl rfl rfl ?_)
        refine sops_go rfl (st_pick (v := .d _) rfl rfl rfl rfl ?_)
        refine sops_nil ?_
        exact ⟨rfl, rfl, rfl, rfl, [_, _, _, _, _], rfl, rfl⟩
      case b17 =>
        refine sops_no rfl rfl rfl rfl rfl ?_
        refine sops_no rfl rfl rfl rfl rfl ?_
        refine sops_no rfl rfl rfl rfl rfl ?_
        refine sops_no rfl rfl rfl rfl rfl ?_
        refine sops_no rfl rfl rfl rfl rfl ?_
        refine sops_go rfl (st_pick (v := .d _) rfl rfl rfl rfl ?_)
        refine sops_nil ?_
        exact ⟨rfl, rfl, rfl, rfl, [_, _, _, _, _], rfl, rfl⟩
      refine sops_go rfl (st_assign (v := .d _) rfl rfl rfl ?_)
      refine sops_nil ?_
      refine swp_ret ?_
      with_reducible refine inblk_ret ?_
      with_reducible refine after_ret ?_
      exact fin_b rfl rfl hS
    · rw [if_neg (by rw [hc12]; simp)] at hS
      refine swp_seq ?_
      refine swp_region ?_
      refine sops_go rfl (st_bin rfl rfl rfl rfl rfl ?_)
      refine sops_go rfl (st_assign (v := .d _) rfl rfl rfl ?_)
      refine sops_nil ?_
      refine swp_cond _ rfl (fun hc24 => ?_) (fun hc24 => ?_)
      · rw [if_pos hc24] at hS
        refine swp_seq ?_
        refine swp_seq ?_
        refine swp_region ?_
        first | refine sops_go rfl (so_fieldAddr (v := .p _ _ _) rfl rfl rfl rfl rfl rfl rfl rfl rfl rfl ?_) | refine sops_go rfl (so_fieldAddr (v := .dp _ _) rfl rfl rfl rfl rfl rfl rfl rfl rfl rfl ?_) | refine sops_go rfl (so_fieldAddr (v := .pe _ _ _ _ _) rfl rfl rfl rfl rfl rfl rfl rfl rfl rfl ?_)
        refine sops_go rfl (so_load (v := .d _) rfl rfl rfl rfl rfl rfl rfl rfl ?_)
        refine sops_go rfl (st_bin rfl rfl rfl rfl rfl ?_)
        refine sops_go rfl (st_move (v := .d _) rfl rfl rfl ?_)
        refine' sops_or (d := 29) (p := 36) [30, 31, 32, 33, 34, 35] 7 rfl rfl rfl (fun hb29 => ?a29) (fun hb29 => ?b29) ?_
        case a29 =>
          first | refine sops_yes rfl rfl rfl rfl (so_fieldAddr (v := .p _ _ _) rfl rfl rfl rfl rfl rfl rfl rfl rfl rfl ?_) | refine sops_yes rfl rfl rfl rfl (so_fieldAddr (v := .dp _ _) rfl rfl rfl rfl rfl rfl rfl rfl rfl rfl ?_) | refine sops_yes rfl rfl rfl rfl (so_fieldAddr (v := .pe _ _ _ _ _) rfl rfl rfl rfl rfl rfl rfl rfl rfl rfl ?_)
          first | refine sops_yes rfl rfl rfl rfl (so_load (v := .d _) rfl rfl rfl rfl rfl rfl rfl rfl ?_) | refine sops_yes rfl rfl rfl rfl (so_load (v := .own _ _ _ _ _) rfl rfl rfl rfl rfl rfl rfl rfl ?_)
          first | refine sops_yes rfl rfl rfl rfl (so_fieldAddr (v := .p _ _ _) rfl rfl rfl rfl rfl rfl rfl rfl rfl rfl ?_) | refine sops_yes rfl rfl rfl rfl (so_fieldAddr (v := .dp _ _) rfl rfl rfl rfl rfl rfl rfl rfl rfl rfl ?_) | refine sops_yes rfl rfl rfl rfl (so_fieldAddr (v := .pe _ _ _ _ _) rfl rfl rfl rfl rfl rfl rfl rfl rfl rfl ?_)
          first | refine sops_yes rfl rfl rfl rfl (so_load (v := .d _) rfl rfl rfl rfl rfl rfl rfl rfl ?_) | refine sops_yes rfl rfl rfl rfl (so_load (v := .own _ _ _ _ _) rfl rfl rfl rfl rfl rfl rfl rfl ?_)
          refine sops_yes rfl rfl rfl rfl (st_call rfl rfl (equalS_pure s' s vnames names) ⟨na_d _, na_d _, trivial⟩ rfl ?_)
          refine sops_yes rfl rfl rfl rfl (st_not rfl rfl rfl ?_)
          refine sops_go rfl (st_pick (v := .d _) rfl rfl rfl rfl ?_)
          refine sops_nil ?_
          exact ⟨rfl, rfl, rfl, rfl, [_, _, _, _, _, _], rfl, rfl⟩
        case b29 =>
          refine sops_no rfl rfl rfl rfl rfl ?_
          refine sops_no rfl rfl rfl rfl rfl ?_
          refine sops_no rfl rfl rfl rfl rfl ?_
          refine sops_no rfl rfl rfl rfl rfl ?_
          refine sops_no rfl rfl rfl rfl rfl ?_
          refine sops_no rfl rfl rfl rfl rfl ?_
          refine sops_go rfl (st_pick (v := .d _) rfl rfl rfl rfl ?_)
          refine sops_nil ?_
          exact ⟨rfl, rfl, rfl, rfl, [_, _, _, _, _, _], rfl, rfl⟩
        refine sops_nil ?_
        refine swp_cond _ rfl (fun hc36 => ?_) (fun hc36 => ?_)
        · rw [if_pos hc36] at hS
          refine swp_seq ?_
          refine swp_region ?_
          refine sops_go rfl (st_assign (v := .d _) rfl rfl rfl ?_)
          refine sops_nil ?_
          refine swp_ret ?_
          with_reducible refine after_ret ?_
          with_reducible refine inblk_ret ?_
          with_reducible refine after_ret ?_
          exact fin_b rfl rfl hS
        · rw [if_neg (by rw [hc36]; simp)] at hS
          have hll : vlist.length = list.length := by
            have h10 : kind = 10 := by simpa using hc24
            have e := Bool.or_eq_false_iff.1 hc36
            have e1 : vk = 8 := by simpa using e.1
            have e2 : vnames.length = names.length := by
              rcases Nat.lt_trichotomy vnames.length names.length with h | h | h
              · rw [rowsEq_len _ _ _ (by omega)] at e; simp at e
              · exact h
              · rw [rowsEq_len _ _ _ (by omega)] at e; simp at e
            have := vi.same e1
            have := ti.same (.inl h10)
            omega
          refine swp_skip ?_
          refine swp_seq ?_
          refine swp_seq ?_
          refine swp_region ?_
          first | refine sops_go rfl (so_fieldAddr (v := .p _ _ _) rfl rfl rfl rfl rfl rfl rfl rfl rfl rfl ?_) | refine sops_go rfl (so_fieldAddr (v := .dp _ _) rfl rfl rfl rfl rfl rfl rfl rfl rfl rfl ?_) | refine sops_go rfl (so_fieldAddr (v := .pe _ _ _ _ _) rfl rfl rfl rfl rfl rfl rfl rfl rfl rfl ?_)
          first | refine sops_go rfl (so_load (v := .d _) rfl rfl rfl rfl rfl rfl rfl rfl ?_) | refine sops_go rfl (so_load (v := .own _ _ _ _ _) rfl rfl rfl rfl rfl rfl rfl rfl ?_)
          refine sops_go rfl (so_lenSl rfl rfl rfl rfl rfl ?_)
          refine sops_go rfl (st_move (v := .d _) rfl rfl rfl ?_)
          refine sops_nil ?_
          refine swp_block ?_
          refine swp_lenT (i := 38) rfl fun hvl => ?_
          rw [V.rows_len] at hvl
          refine swp_loopF (F := fun k : Nat => { t := upd (upd (upd (upd (fun _ => .any) 2 (.p 0 0 0)) 38 (.d (.sl s' (V.rows vlist)))) 39 (.d (.v (.int .i64 vlist.length)))) 40 (.d (.v (.int .i64 k))), n := 98, h := upd (fun _ => .dead) 0 (.cells [.any, .any, .d (.sl s (T.rows list))]), nx := 1 })
            (fun k => k ≤ vlist.length ∧ (T.mk kind names list).has (V.mk vk flag neg digits exp bits text vnames vlist) = T.hasL (list.drop k) (vlist.drop k)) (fun k => vlist.length - k) 0 ⟨Nat.zero_le _, hS⟩ ?_ ?_
          · refine wk_of rfl (Nat.le_of_ble_eq_true rfl) (by rw [hB]; exact Nat.zero_le _) (tle_upd (le_eq rfl rfl) (tle_upd (le_eq (int_eq (by rw [V.rows_len])) rfl) (tle_upd (le_eq rfl rfl) (tle_upd (le_eq rfl rfl) (tle_any _))))) (hle_upd (.cells _ _ ⟨le_any _, le_any _, le_eq rfl rfl, trivial⟩) (hle_dead _)) (dead_upd (Nat.le_of_ble_eq_true rfl) (dead_none))
          rintro k ⟨hk, ha⟩
          refine swp_seq ?_
          refine swp_region ?_
          refine sops_go rfl (st_bin rfl rfl rfl rfl rfl ?_)
          refine sops_nil ?_
          refine swp_seq ?_
          refine swp_cond _ rfl (fun hc41 => ?_) (fun hc41 => ?_)
          · have hlt : k < vlist.length := by have := of_decide_eq_true hc41; omega
            have hk2 : k < list.length := by omega
            rw [List.drop_eq_getElem_cons hk2, List.drop_eq_getElem_cons hlt, T.hasL] at ha
            have ihk := ih _ (List.getElem_mem hk2) _ (ti.all _ (List.getElem_mem hk2)) (vi.all _ (List.getElem_mem hlt)) true true
            refine swp_skip ?_
            refine swp_seq ?_
            refine swp_block ?_
            refine swp_seq ?_
            refine swp_region ?_
            refine sops_go rfl (st_move (v := .d _) rfl rfl rfl ?_)
            refine sops_go rfl (so_indexSl rfl rfl rfl rfl rfl rfl rfl (V.rows_all _) (by omega) (by rw [V.rows_len]; omega) (V.rows_get _ _ hlt) ?_)
            generalize vlist[k] = y at ihk ha ⊢
            obtain ⟨y1, y2, y3, y4, y5, y6, y7, y8, y9⟩ := y
            first | refine sops_go rfl (so_load (v := .d (.agg [_, _, _, _, _, _, _, _, _])) rfl rfl rfl rfl rfl rfl rfl rfl ?_) | refine sops_go rfl (so_load (v := .agg [_, _, _, _, _, _, _, _, _]) rfl rfl rfl rfl rfl rfl rfl rfl ?_)
            refine sops_go rfl (so_alloc (cs := [_, _, _, _, _, _, _, _, _]) rfl rfl rfl rfl ?_)
            refine sops_go rfl (st_assign (v := .d _) rfl rfl rfl ?_)
            refine sops_go rfl (so_store rfl rfl rfl rfl rfl rfl rfl rfl rfl (zs := [_, _, _, _, _, _, _, _, _]) rfl ?_)
            refine sops_nil ?_
            refine swp_seq ?_
            refine swp_regionQ 6 (by kernel_rfl) rfl rfl rfl ?_
            first | refine h0_go rfl (so_fieldAddr (v := .p _ _ _) rfl rfl rfl rfl rfl rfl rfl rfl rfl rfl ⟨_, rfl, ?_⟩) | refine h0_go rfl (so_fieldAddr (v := .dp _ _) rfl rfl rfl rfl rfl rfl rfl rfl rfl rfl ⟨_, rfl, ?_⟩) | refine h0_go rfl (so_fieldAddr (v := .pe _ _ _ _ _) rfl rfl rfl rfl rfl rfl rfl rfl rfl rfl ⟨_, rfl, ?_⟩)
            first | refine h0_go rfl (so_load (v := .d _) rfl rfl rfl rfl rfl rfl rfl rfl ⟨_, rfl, ?_⟩) | refine h0_go rfl (so_load (v := .own _ _ _ _ _) rfl rfl rfl rfl rfl rfl rfl rfl ⟨_, rfl, ?_⟩)
            refine h0_go rfl (st_move (v := .d _) rfl rfl rfl ⟨_, rfl, ?_⟩)
            refine h0_go rfl (so_indexSl rfl rfl rfl rfl rfl rfl rfl (T.rows_all _) (by omega) (by rw [T.rows_len]; omega) (T.rows_get _ _ hk2) ⟨_, rfl, ?_⟩)
            generalize list[k] = x at ihk ha ⊢
            obtain ⟨x1, x2, x3⟩ := x
            first | refine h0_go rfl (so_load (v := .d (.agg [_, _, _])) rfl rfl rfl rfl rfl rfl rfl rfl ⟨_, rfl, ?_⟩) | refine h0_go rfl (so_load (v := .agg [_, _, _]) rfl rfl rfl rfl rfl rfl rfl rfl ⟨_, rfl, ?_⟩)
            first | refine h0_go rfl (so_load (v := .d (.agg [_, _, _, _, _, _, _, _, _])) rfl rfl rfl rfl rfl rfl rfl rfl ⟨_, rfl, ?_⟩) | refine h0_go rfl (so_load (v := .agg [_, _, _, _, _, _, _, _, _]) rfl rfl rfl rfl rfl rfl rfl rfl ⟨_, rfl, ?_⟩)
            refine h0_nil ?_
            refine sops_go rfl (st_call rfl rfl (ihk) ⟨na_d _, na_d _, trivial⟩ rfl ?_)
            refine sops_go rfl (st_not rfl rfl rfl ?_)
            refine sops_nil ?_
            refine swp_cond _ rfl (fun hc52 => ?_) (fun hc52 => ?_)
            · rw [show (T.mk x1 x2 x3).has (V.mk y1 y2 y3 y4 y5 y6 y7 y8 y9) = false by simpa using hc52] at ha
              have hS := ha
              refine swp_seq ?_
              refine swp_region ?_
              refine sops_go rfl (st_assign (v := .d _) rfl rfl rfl ?_)
              refine sops_nil ?_
              refine swp_ret ?_
              with_reducible refine inblk_ret ?_
              with_reducible refine after_ret ?_
              with_reducible refine after_ret ?_
              with_reducible refine inblk_ret ?_
              with_reducible refine after_ret ?_
              with_reducible refine inblk_ret ?_
              with_reducible refine after_ret ?_
              exact fin_b rfl rfl hS
            · rw [show (T.mk x1 x2 x3).has (V.mk y1 y2 y3 y4 y5 y6 y7 y8 y9) = true by simpa using hc52, Bool.true_and] at ha
              refine swp_skip ?_
              refine swp_region ?_
              refine sops_go rfl (st_bin rfl rfl rfl rfl rfl ?_)
              refine sops_go rfl (st_move (v := .d _) rfl rfl rfl ?_)
              refine sops_nil ?_
              refine ⟨k + 1, ⟨hlt, ha⟩, by omega, ?_⟩
              refine wk_of rfl (Nat.le_of_ble_eq_true rfl) (by rw [hB]; exact Nat.zero_le _) (tle_upd (le_eq (next_i64 hlt hvl) rfl) (tle_upd (le_eq rfl rfl) (tle_upd (le_eq rfl rfl) (tle_upd (le_eq rfl rfl) (tle_any _))))) (hle_upd (.cells _ _ ⟨le_any _, le_any _, le_eq rfl rfl, trivial⟩) (hle_dead _)) (dead_upd (Nat.le_of_ble_eq_true rfl) (dead_none))
          · have he : k = vlist.length := by have := of_decide_eq_false hc41; omega
            rw [he, List.drop_length, T.hasL_nil] at ha
            have hS := ha
            refine swp_exit ?_
            with_reducible refine after_exit ?_
            with_reducible refine after_exit ?_
            refine inblk_hit ?_
            refine swp_seq ?_
            refine swp_region ?_
            refine sops_go rfl (st_assign (v := .d _) rfl rfl rfl ?_)
            refine sops_nil ?_
            refine swp_ret ?_
            with_reducible refine inblk_ret ?_
            with_reducible refine after_ret ?_
            exact fin_b rfl rfl hS
      · rw [if_neg (by rw [hc24]; simp)] at hS
        refine swp_seq ?_
        refine swp_region ?_
        refine sops_go rfl (st_bin rfl rfl rfl rfl rfl ?_)
        refine sops_go rfl (st_assign (v := .d _) rfl rfl rfl ?_)
        refine sops_nil ?_
        refine swp_cond _ rfl (fun hc54 => ?_) (fun hc54 => ?_)
        · rw [if_pos hc54] at hS
          refine swp_seq ?_
          refine swp_region ?_
          first | refine sops_go rfl (so_fieldAddr (v := .p _ _ _) rfl rfl rfl rfl rfl rfl rfl rfl rfl rfl ?_) | refine sops_go rfl (so_fieldAddr (v := .dp _ _) rfl rfl rfl rfl rfl rfl rfl rfl rfl rfl ?_) | refine sops_go rfl (so_fieldAddr (v := .pe _ _ _ _ _) rfl rfl rfl rfl rfl rfl rfl rfl rfl rfl ?_)
          first | refine sops_go rfl (so_load (v := .d _) rfl rfl rfl rfl rfl rfl rfl rfl ?_) | refine sops_go rfl (so_load (v := .own _ _ _ _ _) rfl rfl rfl rfl rfl rfl rfl rfl ?_)
          first | refine sops_go rfl (so_fieldAddr (v := .p _ _ _) rfl rfl rfl rfl rfl rfl rfl rfl rfl rfl ?_) | refine sops_go rfl (so_fieldAddr (v := .dp _ _) rfl rfl rfl rfl rfl rfl rfl rfl rfl rfl ?_) | refine sops_go rfl (so_fieldAddr (v := .pe _ _ _ _ _) rfl rfl rfl rfl rfl rfl rfl rfl rfl rfl ?_)
          refine sops_go rfl (so_load (v := .d _) rfl rfl rfl rfl rfl rfl rfl rfl ?_)
          refine sops_go rfl (st_call rfl rfl ((indexS_pure s names text : Pure env _ _ (.d (.v (.int .i64 (idxOf names text)))))) ⟨na_d _, na_d _, trivial⟩ rfl ?_)
          refine sops_go rfl (st_assign (v := .d _) rfl rfl rfl ?_)
          refine sops_nil ?_
          refine swp_seq ?_
          refine swp_regionQ 17 (by kernel_rfl) rfl rfl rfl ?_
          first | refine h0_go rfl (so_fieldAddr (v := .p _ _ _) rfl rfl rfl rfl rfl rfl rfl rfl rfl rfl ⟨_, rfl, ?_⟩) | refine h0_go rfl (so_fieldAddr (v := .dp _ _) rfl rfl rfl rfl rfl rfl rfl rfl rfl rfl ⟨_, rfl, ?_⟩) | refine h0_go rfl (so_fieldAddr (v := .pe _ _ _ _ _) rfl rfl rfl rfl rfl rfl rfl rfl rfl rfl ⟨_, rfl, ?_⟩)
          refine h0_go rfl (so_load (v := .d _) rfl rfl rfl rfl rfl rfl rfl rfl ⟨_, rfl, ?_⟩)
          refine h0_go rfl (st_bin rfl rfl rfl rfl rfl ⟨_, rfl, ?_⟩)
          refine h0_go rfl (st_move (v := .d _) rfl rfl rfl ⟨_, rfl, ?_⟩)
          refine h0_case 64 rfl (fun hb64 => ?_) (fun hb64 => ?_)
          · have h9 : vk = 9 := by simpa using hb64
            obtain ⟨y, rfl⟩ : ∃ y, vlist = [y] := List.length_eq_one_iff.1 (vi.one h9)
            rw [hb64, Bool.true_and] at hS
            refine h0_yes rfl rfl rfl rfl (st_move (v := .d _) rfl rfl rfl ⟨_, rfl, ?_⟩)
            refine h0_yes rfl rfl rfl rfl (st_bin rfl rfl rfl rfl rfl ⟨_, rfl, ?_⟩)
            refine h0_go rfl (st_pick (v := .d _) rfl rfl rfl rfl ⟨_, rfl, ?_⟩)
            refine h0_go rfl (st_move (v := .d _) rfl rfl rfl ⟨_, rfl, ?_⟩)
            refine h0_case 68 rfl (fun hb68 => ?_) (fun hb68 => ?_)
            · rw [show decide (idxOf names text ≥ 0) = true from hb68, Bool.true_and] at hS
              have hi0 : 0 ≤ idxOf names text := of_decide_eq_true hb68
              have hi1 : (idxOf names text).toNat < list.length := by
                have h11 : kind = 11 := by simpa using hc54
                have := firstAt_lt (fun y : ByteArray => text.toList == y.toList) names 0 (by omega) hi0
                have := ti.same (.inr h11)
                have : idxOf names text = firstAt (fun y => text.toList == y.toList) names 0 := rfl
                omega
              simp only [headB] at hS
              rw [T.hasAt_eq _ _ hi1] at hS
              have ihk := ih _ (List.getElem_mem hi1) y (ti.all _ (List.getElem_mem hi1)) (vi.all y (by simp)) true true
              obtain ⟨y1, y2, y3, y4, y5, y6, y7, y8, y9⟩ := y
              first | refine h0_yes rfl rfl rfl rfl (so_fieldAddr (v := .p _ _ _) rfl rfl rfl rfl rfl rfl rfl rfl rfl rfl ⟨_, rfl, ?_⟩) | refine h0_yes rfl rfl rfl rfl (so_fieldAddr (v := .dp _ _) rfl rfl rfl rfl rfl rfl rfl rfl rfl rfl ⟨_, rfl, ?_⟩) | refine h0_yes rfl rfl rfl rfl (so_fieldAddr (v := .pe _ _ _ _ _) rfl rfl rfl rfl rfl rfl rfl rfl rfl rfl ⟨_, rfl, ?_⟩)
              first | refine h0_yes rfl rfl rfl rfl (so_load (v := .d _) rfl rfl rfl rfl rfl rfl rfl rfl ⟨_, rfl, ?_⟩) | refine h0_yes rfl rfl rfl rfl (so_load (v := .own _ _ _ _ _) rfl rfl rfl rfl rfl rfl rfl rfl ⟨_, rfl, ?_⟩)
              refine h0_yes rfl rfl rfl rfl (st_move (v := .d _) rfl rfl rfl ⟨_, rfl, ?_⟩)
              refine h0_yes rfl rfl rfl rfl (so_indexSl rfl rfl rfl rfl rfl rfl rfl (T.rows_all _) hi0 (by rw [T.rows_len]; show idxOf names text < _; omega) (T.rows_get _ _ hi1) ⟨_, rfl, ?_⟩)
              generalize list[(idxOf names text).toNat] = x at ihk hS ⊢
              obtain ⟨x1, x2, x3⟩ := x
              first | refine h0_yes rfl rfl rfl rfl (so_load (v := .d (.agg [_, _, _])) rfl rfl rfl rfl rfl rfl rfl rfl ⟨_, rfl, ?_⟩) | refine h0_yes rfl rfl rfl rfl (so_load (v := .agg [_, _, _]) rfl rfl rfl rfl rfl rfl rfl rfl ⟨_, rfl, ?_⟩)
              first | refine h0_yes rfl rfl rfl rfl (so_fieldAddr (v := .p _ _ _) rfl rfl rfl rfl rfl rfl rfl rfl rfl rfl ⟨_, rfl, ?_⟩) | refine h0_yes rfl rfl rfl rfl (so_fieldAddr (v := .dp _ _) rfl rfl rfl rfl rfl rfl rfl rfl rfl rfl ⟨_, rfl, ?_⟩) | refine h0_yes rfl rfl rfl rfl (so_fieldAddr (v := .pe _ _ _ _ _) rfl rfl rfl rfl rfl rfl rfl rfl rfl rfl ⟨_, rfl, ?_⟩)
              first | refine h0_yes rfl rfl rfl rfl (so_load (v := .d _) rfl rfl rfl rfl rfl rfl rfl rfl ⟨_, rfl, ?_⟩) | refine h0_yes rfl rfl rfl rfl (so_load (v := .own _ _ _ _ _) rfl rfl rfl rfl rfl rfl rfl rfl ⟨_, rfl, ?_⟩)
              refine h0_yes rfl rfl rfl rfl (so_indexSl rfl rfl rfl rfl rfl rfl rfl (V.rows_all _) (by omega) (by simp [V.rows]) rfl ⟨_, rfl, ?_⟩)
              first | refine h0_yes rfl rfl rfl rfl (so_load (v := .d (.agg [_, _, _, _, _, _, _, _, _])) rfl rfl rfl rfl rfl rfl rfl rfl ⟨_, rfl, ?_⟩) | refine h0_yes rfl rfl rfl rfl (so_load (v := .agg [_, _, _, _, _, _, _, _, _]) rfl rfl rfl rfl rfl rfl rfl rfl ⟨_, rfl, ?_⟩)
              refine h0_nil ?_
              refine sops_yes rfl rfl rfl rfl (st_call rfl rfl (ihk) ⟨na_d _, na_d _, trivial⟩ rfl ?_)
              refine sops_go rfl (st_pick (v := .d _) rfl rfl rfl rfl ?_)
              refine sops_go rfl (st_assign (v := .d _) rfl rfl rfl ?_)
              refine sops_nil ?_
              refine swp_ret ?_
              with_reducible refine inblk_ret ?_
              with_reducible refine after_ret ?_
              exact fin_b rfl rfl hS
            · rw [show decide (idxOf names text ≥ 0) = false from hb68, Bool.false_and] at hS
              refine h0_no rfl rfl rfl rfl rfl ?_
              refine h0_no rfl rfl rfl rfl rfl ?_
              refine h0_no rfl rfl rfl rfl rfl ?_
              refine h0_no rfl rfl rfl rfl rfl ?_
              refine h0_no rfl rfl rfl rfl rfl ?_
              refine h0_no rfl rfl rfl rfl rfl ?_
              refine h0_no rfl rfl rfl rfl rfl ?_
              refine h0_no rfl rfl rfl rfl rfl ?_
              refine h0_no rfl rfl rfl rfl rfl ?_
              refine h0_nil ?_
              refine sops_no rfl rfl rfl rfl rfl ?_
              refine sops_go rfl (st_pick (v := .d _) rfl rfl rfl rfl ?_)
              refine sops_go rfl (st_assign (v := .d _) rfl rfl rfl ?_)
              refine sops_nil ?_
              refine swp_ret ?_
              with_reducible refine inblk_ret ?_
              with_reducible refine after_ret ?_
              exact fin_b rfl rfl hS
          · rw [hb64, Bool.false_and, Bool.false_and] at hS
            refine h0_no rfl rfl rfl rfl rfl ?_
            refine h0_no rfl rfl rfl rfl rfl ?_
            refine h0_go rfl (st_pick (v := .d _) rfl rfl rfl rfl ⟨_, rfl, ?_⟩)
            refine h0_go rfl (st_move (v := .d _) rfl rfl rfl ⟨_, rfl, ?_⟩)
            refine h0_no rfl rfl rfl rfl rfl ?_
            refine h0_no rfl rfl rfl rfl rfl ?_
            refine h0_no rfl rfl rfl rfl rfl ?_
            refine h0_no rfl rfl rfl rfl rfl ?_
            refine h0_no rfl rfl rfl rfl rfl ?_
            refine h0_no rfl rfl rfl rfl rfl ?_
            refine h0_no rfl rfl rfl rfl rfl ?_
            refine h0_no rfl rfl rfl rfl rfl ?_
            refine h0_no rfl rfl rfl rfl rfl ?_
            refine h0_nil ?_
            refine sops_no rfl rfl rfl rfl rfl ?_
            refine sops_go rfl (st_pick (v := .d _) rfl rfl rfl rfl ?_)
            refine sops_go rfl (st_assign (v := .d _) rfl rfl rfl ?_)
            refine sops_nil ?_
            refine swp_ret ?_
            with_reducible refine inblk_ret ?_
            with_reducible refine after_ret ?_
            exact fin_b rfl rfl hS
        · rw [if_neg (by rw [hc54]; simp)] at hS
          refine swp_skip ?_
          refine swp_seq ?_
          refine swp_regionQ 6 (by kernel_rfl) rfl rfl rfl ?_
          have hk8 : kind = 2 ∨ kind = 3 ∨ kind = 4 ∨ kind = 5 ∨ kind = 6 ∨ kind = 7 ∨ kind = 8 := by
            simp only [beq_eq_false_iff_ne, ne_eq] at hc10 hc12 hc24 hc54
            have := ti.leaf (by omega)
            omega
          clear hc10 hc12 hc24 hc54
          rcases hk8 with rfl | rfl | rfl | rfl | rfl | rfl | rfl
          all_goals
            first | refine h0_go rfl (so_fieldAddr (v := .p _ _ _) rfl rfl rfl rfl rfl rfl rfl rfl rfl rfl ⟨_, rfl, ?_⟩) | refine h0_go rfl (so_fieldAddr (v := .dp _ _) rfl rfl rfl rfl rfl rfl rfl rfl rfl rfl ⟨_, rfl, ?_⟩) | refine h0_go rfl (so_fieldAddr (v := .pe _ _ _ _ _) rfl rfl rfl rfl rfl rfl rfl rfl rfl rfl ⟨_, rfl, ?_⟩)
            refine h0_go rfl (so_load (v := .d _) rfl rfl rfl rfl rfl rfl rfl rfl ⟨_, rfl, ?_⟩)
            first | refine h0_go rfl (so_fieldAddr (v := .p _ _ _) rfl rfl rfl rfl rfl rfl rfl rfl rfl rfl ⟨_, rfl, ?_⟩) | refine h0_go rfl (so_fieldAddr (v := .dp _ _) rfl rfl rfl rfl rfl rfl rfl rfl rfl rfl ⟨_, rfl, ?_⟩) | refine h0_go rfl (so_fieldAddr (v := .pe _ _ _ _ _) rfl rfl rfl rfl rfl rfl rfl rfl rfl rfl ⟨_, rfl, ?_⟩)
            refine h0_go rfl (so_load (v := .d _) rfl rfl rfl rfl rfl rfl rfl rfl ⟨_, rfl, ?_⟩)
            refine h0_go rfl (so_indexArr rfl rfl rfl rfl rfl rfl rfl rfl (by omega) (by omega) ⟨_, rfl, ?_⟩)
            refine h0_go rfl (so_load (v := .d _) rfl rfl rfl rfl rfl rfl rfl rfl ⟨_, rfl, ?_⟩)
            refine h0_nil ?_
            refine sops_go rfl (st_bin rfl rfl rfl rfl rfl ?_)
            refine sops_go rfl (st_move (v := .d _) rfl rfl rfl ?_)
            refine' sops_and (d := 87) (p := 97) [88, 89, 90, 91, 92, 93, 94, 95, 96] 10 rfl rfl rfl (fun hb87 => ?a87) (fun hb87 => ?b87) ?_
            case a87 =>
              first | refine sops_yes rfl rfl rfl rfl (so_fieldAddr (v := .p _ _ _) rfl rfl rfl rfl rfl rfl rfl rfl rfl rfl ?_) | refine sops_yes rfl rfl rfl rfl (so_fieldAddr (v := .dp _ _) rfl rfl rfl rfl rfl rfl rfl rfl rfl rfl ?_) | refine sops_yes rfl rfl rfl rfl (so_fieldAddr (v := .pe _ _ _ _ _) rfl rfl rfl rfl rfl rfl rfl rfl rfl rfl ?_)
              refine sops_yes rfl rfl rfl rfl (so_load (v := .d _) rfl rfl rfl rfl rfl rfl rfl rfl ?_)
              refine sops_yes rfl rfl rfl rfl (st_bin rfl rfl rfl rfl rfl ?_)
              refine sops_yes rfl rfl rfl rfl (st_move (v := .d _) rfl rfl rfl ?_)
              refine' sops_or (d := 91) (p := 96) [92, 93, 94, 95] 5 rfl rfl rfl (fun hb91 => ?a91) (fun hb91 => ?b91) ?_
              case a91 =>
                first | refine sops_yes rfl rfl rfl rfl (so_fieldAddr (v := .p _ _ _) rfl rfl rfl rfl rfl rfl rfl rfl rfl rfl ?_) | refine sops_yes rfl rfl rfl rfl (so_fieldAddr (v := .dp _ _) rfl rfl rfl rfl rfl rfl rfl rfl rfl rfl ?_) | refine sops_yes rfl rfl rfl rfl (so_fieldAddr (v := .pe _ _ _ _ _) rfl rfl rfl rfl rfl rfl rfl rfl rfl rfl ?_)
                first | refine sops_yes rfl rfl rfl rfl (so_fieldAddr (v := .p _ _ _) rfl rfl rfl rfl rfl rfl rfl rfl rfl rfl ?_) | refine sops_yes rfl rfl rfl rfl (so_fieldAddr (v := .dp _ _) rfl rfl rfl rfl rfl rfl rfl rfl rfl rfl ?_) | refine sops_yes rfl rfl rfl rfl (so_fieldAddr (v := .pe _ _ _ _ _) rfl rfl rfl rfl rfl rfl rfl rfl rfl rfl ?_)
                refine sops_yes rfl rfl rfl rfl (so_load (v := .d _) rfl rfl rfl rfl rfl rfl rfl rfl ?_)
                refine sops_yes rfl rfl rfl rfl (st_bin rfl rfl rfl rfl rfl ?_)
                refine sops_yes rfl rfl rfl rfl (st_pick (v := .d _) rfl rfl rfl rfl ?_)
                refine sops_nil ?_
                exact ⟨rfl, rfl, rfl, rfl, [_, _, _, _], rfl, rfl⟩
              case b91 =>
                refine sops_no rfl rfl rfl rfl rfl ?_
                refine sops_no rfl rfl rfl rfl rfl ?_
                refine sops_no rfl rfl rfl rfl rfl ?_
                refine sops_no rfl rfl rfl rfl rfl ?_
                refine sops_yes rfl rfl rfl rfl (st_pick (v := .d _) rfl rfl rfl rfl ?_)
                refine sops_nil ?_
                exact ⟨rfl, rfl, rfl, rfl, [_, _, _, _], rfl, rfl⟩
              refine sops_go rfl (st_pick (v := .d _) rfl rfl rfl rfl ?_)
              refine sops_nil ?_
              exact ⟨rfl, rfl, rfl, rfl, [_, _, _, _, _, _, _, _, _], rfl, rfl⟩
            case b87 =>
              refine sops_no rfl rfl rfl rfl rfl ?_
              refine sops_no rfl rfl rfl rfl rfl ?_
              refine sops_no rfl rfl rfl rfl rfl ?_
              refine sops_no rfl rfl rfl rfl rfl ?_
              refine sops_un rfl rfl rfl rfl rfl ?_
              refine sops_un rfl rfl rfl rfl rfl ?_
              refine sops_un rfl rfl rfl rfl rfl ?_
              refine sops_un rfl rfl rfl rfl rfl ?_
              refine sops_no rfl rfl rfl rfl rfl ?_
              refine sops_go rfl (st_pick (v := .d _) rfl rfl rfl rfl ?_)
              refine sops_nil ?_
              exact ⟨rfl, rfl, rfl, rfl, [_, _, _, _, _, _, _, _, _], rfl, rfl⟩
            refine sops_go rfl (st_assign (v := .d _) rfl rfl rfl ?_)
            refine sops_nil ?_
            refine swp_ret ?_
            exact fin_b rfl rfl (by rw [hS]; simp_all [kindOf])
end Go.Proofs.YtdcpnpcmgfmenaaDoor
