/-
  Walks: is a struct a type? Conditions: none.
-/
import Derived.Test.YtdcpnpcmgfmenaaDoorPl
import Derived.Test.YtdcpnpcmgfmenaaDoorNb
set_option linter.unusedVariables false
set_option maxRecDepth 100000
namespace Go.Proofs.YtdcpnpcmgfmenaaDoor
open Go Go.Proofs.YtdcpnpcmgfmenaaDoor.Lg

/-- A type as a struct, its rows lent (false) or there for good (true). -/
def T.df (s : Bool) : T → D
  | .mk kind names list => .agg [.v (.int .i64 kind), .sl s (strRows names), .sl s (T.rows list)]
theorem T.df_d (t : T) : t.d = t.df true := by cases t; rfl

mutual
/-- No name is longer than a text may be. -/
def T.fit : T → Prop
  | .mk _ names list => (∀ n ∈ names, fits n) ∧ T.fitL list
def T.fitL : List T → Prop
  | [] => True
  | x :: r => x.fit ∧ T.fitL r
end
theorem T.fitL_iff : ∀ l : List T, T.fitL l ↔ ∀ x ∈ l, x.fit
  | [] => by simp [T.fitL]
  | x :: r => by rw [T.fitL, T.fitL_iff r]; simp

mutual
def T.formed : T → Bool
  | .mk kind names list =>
    if kind = 9 then (names.length == 0 && list.length == 1) && T.formedL list
    else if kind = 10 ∨ kind = 11 then (names.length == list.length && (placesOf names).length == names.length && !(names.any fun n => !utfOk n)) && T.formedL list
    else decide (1 ≤ kind) && decide (kind ≤ 8) && (names.length + list.length == 0)
def T.formedL : List T → Bool
  | [] => true
  | x :: r => x.formed && T.formedL r
end
theorem T.formedL_any : ∀ l : List T, T.formedL l = !(l.any fun x => !x.formed)
  | [] => rfl
  | x :: r => by rw [T.formedL, T.formedL_any r]; simp

theorem formed1_pure (s : ByteArray) (hs : fits s) : Pure env 53 [.d (.v (.string s))] (.d (.v (.bool (!utfOk s)))) := by
  refine pure_of_body Tryd.func53 rfl rfl rfl fun B hB => ?_
  refine swp_seq ?_
  refine swp_region ?_
  refine sops_go rfl (st_assign (v := .d _) rfl rfl rfl ?_)
  refine sops_nil ?_
  refine swp_seq ?_
  refine swp_region ?_
  refine sops_go rfl (st_move (v := .d _) rfl rfl rfl ?_)
  -- hand: CALL f54(t3)
  refine sops_go rfl (st_call rfl rfl (valid_pure s hs) ⟨na_d _, trivial⟩ rfl ?_)
  refine sops_go rfl (st_not rfl rfl rfl ?_)
  refine sops_go rfl (st_assign (v := .d _) rfl rfl rfl ?_)
  refine sops_nil ?_
  refine swp_ret ?_
  -- ret
  exact ⟨.inl rfl, .inl ⟨2, rfl, ra_d (keeps_v _)⟩⟩
theorem formed2_pure (x : T) (hx : Pure env 42 [.d x.d] (.d (.v (.bool x.formed)))) : Pure env 56 [.d x.d] (.d (.v (.bool (!x.formed)))) := by
  obtain ⟨a1, a2, a3⟩ := x
  refine pure_of_body Tryd.func56 rfl rfl rfl fun B hB => ?_
  refine swp_seq ?_
  refine swp_region ?_
  refine sops_go rfl (so_box (cs := [_, _, _]) rfl rfl rfl ?_)
  refine sops_go rfl (st_assign (v := .d _) rfl rfl rfl ?_)
  refine sops_nil ?_
  refine swp_seq ?_
  refine swp_region ?_
  first | refine sops_go rfl (so_load (v := .d (.agg [_, _, _])) rfl rfl rfl rfl rfl rfl rfl rfl ?_) | refine sops_go rfl (so_load (v := .agg [_, _, _]) rfl rfl rfl rfl rfl rfl rfl rfl ?_)
  -- hand: CALL f42(t3)
  refine sops_go rfl (st_call rfl rfl (hx) ⟨na_d _, trivial⟩ rfl ?_)
  refine sops_go rfl (st_not rfl rfl rfl ?_)
  refine sops_go rfl (st_assign (v := .d _) rfl rfl rfl ?_)
  refine sops_nil ?_
  refine swp_ret ?_
  -- ret
  exact ⟨.inl rfl, .inl ⟨2, rfl, ra_d (keeps_v _)⟩⟩

theorem formed_pure (t : T) : t.fit → ∀ s, Pure env 42 [.d (t.df s)] (.d (.v (.bool t.formed))) := by
  revert t
  apply T.ind
  intro kind names list ih hfit s
  refine pure_of_body Tryd.func42 rfl rfl rfl fun B hB => ?_
  refine swp_seq ?_
  refine swp_region ?_
  refine sops_go rfl (so_box (cs := [_, _, _]) rfl rfl rfl ?_)
  refine sops_go rfl (st_assign (v := .d _) rfl rfl rfl ?_)
  refine sops_nil ?_
  -- stop
  refine swp_len (l := 0) (i := 1) rfl rfl rfl fun hnl => ?_
  refine swp_len (l := 0) (i := 2) rfl rfl rfl fun hll => ?_
  rw [strRows_len] at hnl
  rw [T.rows_len] at hll
  refine swp_seqF (F := fun _ : Unit => ({ t := upd (fun _ => .any) 1 (.p 0 0 0), n := 64, h := upd (fun _ => .dead) 0 (.cells [.any, .any, .d (.sl s (T.rows list))]), nx := 1 } : St)) (P := fun _ => (T.mk kind names list).formed = T.formedL list) ?_ ?_
  · refine swp_seq ?_
    refine swp_region ?_
    first | refine sops_go rfl (so_fieldAddr (v := .p _ _ _) rfl rfl rfl rfl rfl rfl rfl rfl rfl rfl ?_) | refine sops_go rfl (so_fieldAddr (v := .dp _ _) rfl rfl rfl rfl rfl rfl rfl rfl rfl rfl ?_) | refine sops_go rfl (so_fieldAddr (v := .pe _ _ _ _ _) rfl rfl rfl rfl rfl rfl rfl rfl rfl rfl ?_)
    refine sops_go rfl (so_load (v := .d _) rfl rfl rfl rfl rfl rfl rfl rfl ?_)
    refine sops_nil ?_
    refine swp_block ?_
    refine swp_seq ?_
    refine swp_region ?_
    refine sops_go rfl (st_bin rfl rfl rfl rfl rfl ?_)
    refine sops_go rfl (st_assign (v := .d _) rfl rfl rfl ?_)
    refine sops_nil ?_
    -- cond
    refine swp_cond _ rfl (fun hc => ?_) (fun hc => ?_)
    · have hk : kind = 9 := by simpa using hc
      have hform : (T.mk kind names list).formed = ((names.length == 0 && list.length == 1) && T.formedL list) := by rw [T.formed, if_pos hk]
      refine swp_seq ?_
      refine swp_region ?_
      first | refine sops_go rfl (so_fieldAddr (v := .p _ _ _) rfl rfl rfl rfl rfl rfl rfl rfl rfl rfl ?_) | refine sops_go rfl (so_fieldAddr (v := .dp _ _) rfl rfl rfl rfl rfl rfl rfl rfl rfl rfl ?_) | refine sops_go rfl (so_fieldAddr (v := .pe _ _ _ _ _) rfl rfl rfl rfl rfl rfl rfl rfl rfl rfl ?_)
      first | refine sops_go rfl (so_load (v := .d _) rfl rfl rfl rfl rfl rfl rfl rfl ?_) | refine sops_go rfl (so_load (v := .own _ _ _ _ _) rfl rfl rfl rfl rfl rfl rfl rfl ?_)
      refine sops_go rfl (so_lenSl rfl rfl rfl rfl rfl ?_)
      refine sops_go rfl (st_bin rfl rfl rfl rfl rfl ?_)
      refine sops_go rfl (st_move (v := .d _) rfl rfl rfl ?_)
      -- guard (some (4, false))
      refine sops_case 29 rfl (fun hb29 => ?_) (fun hb29 => ?_)
      · first | refine sops_yes rfl rfl rfl rfl (so_fieldAddr (v := .p _ _ _) rfl rfl rfl rfl rfl rfl rfl rfl rfl rfl ?_) | refine sops_yes rfl rfl rfl rfl (so_fieldAddr (v := .dp _ _) rfl rfl rfl rfl rfl rfl rfl rfl rfl rfl ?_) | refine sops_yes rfl rfl rfl rfl (so_fieldAddr (v := .pe _ _ _ _ _) rfl rfl rfl rfl rfl rfl rfl rfl rfl rfl ?_) | refine sops_no rfl rfl rfl rfl rfl ?_
        first | refine sops_yes rfl rfl rfl rfl (so_load (v := .d _) rfl rfl rfl rfl rfl rfl rfl rfl ?_) | refine sops_yes rfl rfl rfl rfl (so_load (v := .own _ _ _ _ _) rfl rfl rfl rfl rfl rfl rfl rfl ?_) | refine sops_no rfl rfl rfl rfl rfl ?_
        first | refine sops_yes rfl rfl rfl rfl (so_lenSl rfl rfl rfl rfl rfl ?_) | refine sops_no rfl rfl rfl rfl rfl ?_
        first | refine sops_yes rfl rfl rfl rfl (st_bin rfl rfl rfl rfl rfl ?_) | refine sops_no rfl rfl rfl rfl rfl ?_
        refine sops_go rfl (st_pick (v := .d _) rfl rfl rfl rfl ?_)
        refine sops_nil ?_
        -- cond
        -- cond
        refine swp_condT rfl ?_
        refine swp_seq ?_
        refine swp_region ?_
        refine sops_go rfl (st_assign (v := .d _) rfl rfl rfl ?_)
        refine sops_nil ?_
        refine swp_ret ?_
        with_reducible refine inblk_ret ?_
        with_reducible refine after_ret ?_
        -- ret
        have h1 : names.length ≠ 0 := by have := of_decide_eq_true hb29; rw [strRows_len] at this; omega
        refine ⟨.inl rfl, .inl ⟨2, rfl, ?_⟩⟩
        rw [hform, show (names.length == 0) = false by simpa using h1]
        exact ra_d (keeps_v _)
      · have h1 : (names.length == 0) = true := by have := of_decide_eq_false hb29; rw [strRows_len] at this; rw [show names.length = 0 by omega]; rfl
        first | refine sops_yes rfl rfl rfl rfl (so_fieldAddr (v := .p _ _ _) rfl rfl rfl rfl rfl rfl rfl rfl rfl rfl ?_) | refine sops_yes rfl rfl rfl rfl (so_fieldAddr (v := .dp _ _) rfl rfl rfl rfl rfl rfl rfl rfl rfl rfl ?_) | refine sops_yes rfl rfl rfl rfl (so_fieldAddr (v := .pe _ _ _ _ _) rfl rfl rfl rfl rfl rfl rfl rfl rfl rfl ?_) | refine sops_no rfl rfl rfl rfl rfl ?_
        first | refine sops_yes rfl rfl rfl rfl (so_load (v := .d _) rfl rfl rfl rfl rfl rfl rfl rfl ?_) | refine sops_yes rfl rfl rfl rfl (so_load (v := .own _ _ _ _ _) rfl rfl rfl rfl rfl rfl rfl rfl ?_) | refine sops_no rfl rfl rfl rfl rfl ?_
        first | refine sops_yes rfl rfl rfl rfl (so_lenSl rfl rfl rfl rfl rfl ?_) | refine sops_no rfl rfl rfl rfl rfl ?_
        first | refine sops_yes rfl rfl rfl rfl (st_bin rfl rfl rfl rfl rfl ?_) | refine sops_no rfl rfl rfl rfl rfl ?_
        refine sops_go rfl (st_pick (v := .d _) rfl rfl rfl rfl ?_)
        refine sops_nil ?_
        -- cond
        refine swp_cond _ rfl (fun hc => ?_) (fun hc => ?_)
        · refine swp_seq ?_
          refine swp_region ?_
          refine sops_go rfl (st_assign (v := .d _) rfl rfl rfl ?_)
          refine sops_nil ?_
          refine swp_ret ?_
          with_reducible refine inblk_ret ?_
          with_reducible refine after_ret ?_
          -- ret
          have h2 : (list.length == 1) = false := by
            have hc : (((T.rows list).length : Int) != 1) = true := hc
            rw [T.rows_len] at hc
            simp at hc ⊢; omega
          refine ⟨.inl rfl, .inl ⟨2, rfl, ?_⟩⟩
          rw [hform, h1, h2]
          exact ra_d (keeps_v _)
        · refine swp_skip ?_
          -- cut
          have h2 : (list.length == 1) = true := by
            have hc : (((T.rows list).length : Int) != 1) = false := hc
            rw [T.rows_len] at hc
            simp at hc ⊢; omega
          refine ⟨(), by rw [hform, h1, h2]; rfl, ?_⟩
          refine wk_of rfl (Nat.le_of_ble_eq_true rfl) (by rw [hB]; exact Nat.zero_le _) (tle_upd (le_eq rfl rfl) (tle_any _)) (hle_upd (.cells _ _ ⟨le_any _, le_any _, le_eq rfl rfl, trivial⟩) (hle_dead _)) (dead_upd (Nat.le_of_ble_eq_true rfl) (dead_none))
    · have hk : kind ≠ 9 := by simpa using hc
      refine swp_seq ?_
      refine swp_seq ?_
      refine swp_region ?_
      refine sops_go rfl (st_bin rfl rfl rfl rfl rfl ?_)
      refine sops_go rfl (st_assign (v := .d _) rfl rfl rfl ?_)
      refine sops_nil ?_
      -- cond
      refine swp_cond _ rfl (fun hc => ?_) (fun hc => ?_)
      · have h10 : kind = 10 := by simpa using hc
        refine swp_skip ?_
        -- cond
        have hform : (T.mk kind names list).formed = ((names.length == list.length && (placesOf names).length == names.length && !(names.any fun n => !utfOk n)) && T.formedL list) := by
          rw [T.formed, if_neg hk, if_pos (.inl h10)]
        refine swp_condT (by show AV.d (.v (.bool (kind == 10))) = _; rw [hc]) ?_
        refine swp_seq ?_
        refine swp_regionQ 15 (by kernel_rfl) rfl rfl rfl ?_
        first | refine h0_go rfl (so_fieldAddr (v := .p _ _ _) rfl rfl rfl rfl rfl rfl rfl rfl rfl rfl ⟨_, rfl, ?_⟩) | refine h0_go rfl (so_fieldAddr (v := .dp _ _) rfl rfl rfl rfl rfl rfl rfl rfl rfl rfl ⟨_, rfl, ?_⟩) | refine h0_go rfl (so_fieldAddr (v := .pe _ _ _ _ _) rfl rfl rfl rfl rfl rfl rfl rfl rfl rfl ⟨_, rfl, ?_⟩)
        first | refine h0_go rfl (so_load (v := .d _) rfl rfl rfl rfl rfl rfl rfl rfl ⟨_, rfl, ?_⟩) | refine h0_go rfl (so_load (v := .own _ _ _ _ _) rfl rfl rfl rfl rfl rfl rfl rfl ⟨_, rfl, ?_⟩)
        refine h0_go rfl (so_lenSl rfl rfl rfl rfl rfl ⟨_, rfl, ?_⟩)
        first | refine h0_go rfl (so_fieldAddr (v := .p _ _ _) rfl rfl rfl rfl rfl rfl rfl rfl rfl rfl ⟨_, rfl, ?_⟩) | refine h0_go rfl (so_fieldAddr (v := .dp _ _) rfl rfl rfl rfl rfl rfl rfl rfl rfl rfl ⟨_, rfl, ?_⟩) | refine h0_go rfl (so_fieldAddr (v := .pe _ _ _ _ _) rfl rfl rfl rfl rfl rfl rfl rfl rfl rfl ⟨_, rfl, ?_⟩)
        first | refine h0_go rfl (so_load (v := .d _) rfl rfl rfl rfl rfl rfl rfl rfl ⟨_, rfl, ?_⟩) | refine h0_go rfl (so_load (v := .own _ _ _ _ _) rfl rfl rfl rfl rfl rfl rfl rfl ⟨_, rfl, ?_⟩)
        refine h0_go rfl (so_lenSl rfl rfl rfl rfl rfl ⟨_, rfl, ?_⟩)
        refine h0_go rfl (st_bin rfl rfl rfl rfl rfl ⟨_, rfl, ?_⟩)
        refine h0_go rfl (st_move (v := .d _) rfl rfl rfl ⟨_, rfl, ?_⟩)
        -- guard (some (7, false))
        refine h0_case 45 rfl (fun hb45 => ?_) (fun hb45 => ?_)
        · have h1 : (names.length == list.length) = false := by
            have hb : (((strRows names).length : Int) != ((T.rows list).length : Int)) = true := hb45
            rw [strRows_len, T.rows_len] at hb
            simp at hb ⊢; omega
          first | refine h0_yes rfl rfl rfl rfl (so_fieldAddr (v := .p _ _ _) rfl rfl rfl rfl rfl rfl rfl rfl rfl rfl ⟨_, rfl, ?_⟩) | refine h0_yes rfl rfl rfl rfl (so_fieldAddr (v := .dp _ _) rfl rfl rfl rfl rfl rfl rfl rfl rfl rfl ⟨_, rfl, ?_⟩) | refine h0_yes rfl rfl rfl rfl (so_fieldAddr (v := .pe _ _ _ _ _) rfl rfl rfl rfl rfl rfl rfl rfl rfl rfl ⟨_, rfl, ?_⟩) | refine h0_no rfl rfl rfl rfl rfl ?_
          first | refine h0_yes rfl rfl rfl rfl (so_load (v := .d _) rfl rfl rfl rfl rfl rfl rfl rfl ⟨_, rfl, ?_⟩) | refine h0_yes rfl rfl rfl rfl (so_load (v := .own _ _ _ _ _) rfl rfl rfl rfl rfl rfl rfl rfl ⟨_, rfl, ?_⟩) | refine h0_no rfl rfl rfl rfl rfl ?_
          -- hand: CALL f32(t47)
          -- hand: CALL f32(t47)
          refine h0_no rfl rfl rfl rfl rfl ?_
          first | refine h0_yes rfl rfl rfl rfl (so_lenMapD rfl rfl rfl rfl rfl ⟨_, rfl, ?_⟩) | refine h0_yes rfl rfl rfl rfl (so_lenMap rfl rfl rfl rfl rfl rfl ⟨_, rfl, ?_⟩) | refine h0_no rfl rfl rfl rfl rfl ?_
          first | refine h0_yes rfl rfl rfl rfl (so_fieldAddr (v := .p _ _ _) rfl rfl rfl rfl rfl rfl rfl rfl rfl rfl ⟨_, rfl, ?_⟩) | refine h0_yes rfl rfl rfl rfl (so_fieldAddr (v := .dp _ _) rfl rfl rfl rfl rfl rfl rfl rfl rfl rfl ⟨_, rfl, ?_⟩) | refine h0_yes rfl rfl rfl rfl (so_fieldAddr (v := .pe _ _ _ _ _) rfl rfl rfl rfl rfl rfl rfl rfl rfl rfl ⟨_, rfl, ?_⟩) | refine h0_no rfl rfl rfl rfl rfl ?_
          first | refine h0_yes rfl rfl rfl rfl (so_load (v := .d _) rfl rfl rfl rfl rfl rfl rfl rfl ⟨_, rfl, ?_⟩) | refine h0_yes rfl rfl rfl rfl (so_load (v := .own _ _ _ _ _) rfl rfl rfl rfl rfl rfl rfl rfl ⟨_, rfl, ?_⟩) | refine h0_no rfl rfl rfl rfl rfl ?_
          first | refine h0_yes rfl rfl rfl rfl (so_lenSl rfl rfl rfl rfl rfl ⟨_, rfl, ?_⟩) | refine h0_no rfl rfl rfl rfl rfl ?_
          refine h0_nil ?_
          first | refine sops_yes rfl rfl rfl rfl (st_bin rfl rfl rfl rfl rfl ?_) | refine sops_no rfl rfl rfl rfl rfl ?_
          refine sops_go rfl (st_pick (v := .d _) rfl rfl rfl rfl ?_)
          refine sops_go rfl (st_move (v := .d _) rfl rfl rfl ?_)
          first | refine sops_yes rfl rfl rfl rfl (so_fieldAddr (v := .p _ _ _) rfl rfl rfl rfl rfl rfl rfl rfl rfl rfl ?_) | refine sops_yes rfl rfl rfl rfl (so_fieldAddr (v := .dp _ _) rfl rfl rfl rfl rfl rfl rfl rfl rfl rfl ?_) | refine sops_yes rfl rfl rfl rfl (so_fieldAddr (v := .pe _ _ _ _ _) rfl rfl rfl rfl rfl rfl rfl rfl rfl rfl ?_) | refine sops_no rfl rfl rfl rfl rfl ?_
          first | refine sops_yes rfl rfl rfl rfl (so_load (v := .d _) rfl rfl rfl rfl rfl rfl rfl rfl ?_) | refine sops_yes rfl rfl rfl rfl (so_load (v := .own _ _ _ _ _) rfl rfl rfl rfl rfl rfl rfl rfl ?_) | refine sops_no rfl rfl rfl rfl rfl ?_
          -- hand: CALL f52(t57, f53)
          refine sops_no rfl rfl rfl rfl rfl ?_
          refine sops_go rfl (st_pick (v := .d _) rfl rfl rfl rfl ?_)
          refine sops_nil ?_
          -- cond
          refine swp_condT rfl ?_
          refine swp_seq ?_
          refine swp_region ?_
          refine sops_go rfl (st_assign (v := .d _) rfl rfl rfl ?_)
          refine sops_nil ?_
          refine swp_ret ?_
          with_reducible refine inblk_ret ?_
          with_reducible refine after_ret ?_
          -- ret
          refine ⟨.inl rfl, .inl ⟨2, rfl, ?_⟩⟩
          rw [hform, h1]
          exact ra_d (keeps_v _)
        · have h1 : (names.length == list.length) = true := by
            have hb : (((strRows names).length : Int) != ((T.rows list).length : Int)) = false := hb45
            rw [strRows_len, T.rows_len] at hb
            simp at hb ⊢; omega
          first | refine h0_yes rfl rfl rfl rfl (so_fieldAddr (v := .p _ _ _) rfl rfl rfl rfl rfl rfl rfl rfl rfl rfl ⟨_, rfl, ?_⟩) | refine h0_yes rfl rfl rfl rfl (so_fieldAddr (v := .dp _ _) rfl rfl rfl rfl rfl rfl rfl rfl rfl rfl ⟨_, rfl, ?_⟩) | refine h0_yes rfl rfl rfl rfl (so_fieldAddr (v := .pe _ _ _ _ _) rfl rfl rfl rfl rfl rfl rfl rfl rfl rfl ⟨_, rfl, ?_⟩) | refine h0_no rfl rfl rfl rfl rfl ?_
          first | refine h0_yes rfl rfl rfl rfl (so_load (v := .d _) rfl rfl rfl rfl rfl rfl rfl rfl ⟨_, rfl, ?_⟩) | refine h0_yes rfl rfl rfl rfl (so_load (v := .own _ _ _ _ _) rfl rfl rfl rfl rfl rfl rfl rfl ⟨_, rfl, ?_⟩) | refine h0_no rfl rfl rfl rfl rfl ?_
          -- hand: CALL f32(t47)
          first | refine h0_yes rfl rfl rfl rfl (st_call rfl rfl (places_pure s names) ⟨na_d _, trivial⟩ rfl ⟨_, rfl, ?_⟩) | refine h0_no rfl rfl rfl rfl rfl ?_
          first | refine h0_yes rfl rfl rfl rfl (so_lenMapD rfl rfl rfl rfl rfl ⟨_, rfl, ?_⟩) | refine h0_yes rfl rfl rfl rfl (so_lenMap rfl rfl rfl rfl rfl rfl ⟨_, rfl, ?_⟩) | refine h0_no rfl rfl rfl rfl rfl ?_
          first | refine h0_yes rfl rfl rfl rfl (so_fieldAddr (v := .p _ _ _) rfl rfl rfl rfl rfl rfl rfl rfl rfl rfl ⟨_, rfl, ?_⟩) | refine h0_yes rfl rfl rfl rfl (so_fieldAddr (v := .dp _ _) rfl rfl rfl rfl rfl rfl rfl rfl rfl rfl ⟨_, rfl, ?_⟩) | refine h0_yes rfl rfl rfl rfl (so_fieldAddr (v := .pe _ _ _ _ _) rfl rfl rfl rfl rfl rfl rfl rfl rfl rfl ⟨_, rfl, ?_⟩) | refine h0_no rfl rfl rfl rfl rfl ?_
          first | refine h0_yes rfl rfl rfl rfl (so_load (v := .d _) rfl rfl rfl rfl rfl rfl rfl rfl ⟨_, rfl, ?_⟩) | refine h0_yes rfl rfl rfl rfl (so_load (v := .own _ _ _ _ _) rfl rfl rfl rfl rfl rfl rfl rfl ⟨_, rfl, ?_⟩) | refine h0_no rfl rfl rfl rfl rfl ?_
          first | refine h0_yes rfl rfl rfl rfl (so_lenSl rfl rfl rfl rfl rfl ⟨_, rfl, ?_⟩) | refine h0_no rfl rfl rfl rfl rfl ?_
          refine h0_nil ?_
          first | refine sops_yes rfl rfl rfl rfl (st_bin rfl rfl rfl rfl rfl ?_) | refine sops_no rfl rfl rfl rfl rfl ?_
          refine sops_go rfl (st_pick (v := .d _) rfl rfl rfl rfl ?_)
          refine sops_go rfl (st_move (v := .d _) rfl rfl rfl ?_)
          -- guard (some (17, false))
          refine sops_case 55 rfl (fun hb55 => ?_) (fun hb55 => ?_)
          · have h2 : ((placesOf names).length == names.length) = false := by
              have hb : (((encM (placesOf names)).length : Int) != ((strRows names).length : Int)) = true := hb55
              rw [strRows_len] at hb
              simp [encM] at hb ⊢; omega
            first | refine sops_yes rfl rfl rfl rfl (so_fieldAddr (v := .p _ _ _) rfl rfl rfl rfl rfl rfl rfl rfl rfl rfl ?_) | refine sops_yes rfl rfl rfl rfl (so_fieldAddr (v := .dp _ _) rfl rfl rfl rfl rfl rfl rfl rfl rfl rfl ?_) | refine sops_yes rfl rfl rfl rfl (so_fieldAddr (v := .pe _ _ _ _ _) rfl rfl rfl rfl rfl rfl rfl rfl rfl rfl ?_) | refine sops_no rfl rfl rfl rfl rfl ?_
            first | refine sops_yes rfl rfl rfl rfl (so_load (v := .d _) rfl rfl rfl rfl rfl rfl rfl rfl ?_) | refine sops_yes rfl rfl rfl rfl (so_load (v := .own _ _ _ _ _) rfl rfl rfl rfl rfl rfl rfl rfl ?_) | refine sops_no rfl rfl rfl rfl rfl ?_
            -- hand: CALL f52(t57, f53)
            -- hand: CALL f52(t57, f53)
            refine sops_no rfl rfl rfl rfl rfl ?_
            refine sops_go rfl (st_pick (v := .d _) rfl rfl rfl rfl ?_)
            refine sops_nil ?_
            -- cond
            refine swp_condT rfl ?_
            refine swp_seq ?_
            refine swp_region ?_
            refine sops_go rfl (st_assign (v := .d _) rfl rfl rfl ?_)
            refine sops_nil ?_
            refine swp_ret ?_
            with_reducible refine inblk_ret ?_
            with_reducible refine after_ret ?_
            -- ret
            refine ⟨.inl rfl, .inl ⟨2, rfl, ?_⟩⟩
            rw [hform, h1, h2]
            exact ra_d (keeps_v _)
          · have h2 : ((placesOf names).length == names.length) = true := by
              have hb : (((encM (placesOf names)).length : Int) != ((strRows names).length : Int)) = false := hb55
              rw [strRows_len] at hb
              simp [encM] at hb ⊢; omega
            first | refine sops_yes rfl rfl rfl rfl (so_fieldAddr (v := .p _ _ _) rfl rfl rfl rfl rfl rfl rfl rfl rfl rfl ?_) | refine sops_yes rfl rfl rfl rfl (so_fieldAddr (v := .dp _ _) rfl rfl rfl rfl rfl rfl rfl rfl rfl rfl ?_) | refine sops_yes rfl rfl rfl rfl (so_fieldAddr (v := .pe _ _ _ _ _) rfl rfl rfl rfl rfl rfl rfl rfl rfl rfl ?_) | refine sops_no rfl rfl rfl rfl rfl ?_
            first | refine sops_yes rfl rfl rfl rfl (so_load (v := .d _) rfl rfl rfl rfl rfl rfl rfl rfl ?_) | refine sops_yes rfl rfl rfl rfl (so_load (v := .own _ _ _ _ _) rfl rfl rfl rfl rfl rfl rfl rfl ?_) | refine sops_no rfl rfl rfl rfl rfl ?_
            -- hand: CALL f52(t57, f53)
            first | refine sops_yes rfl rfl rfl rfl (st_call rfl rfl (containsFuncS_pure s names 53 [] (fun n => !utfOk n) (fun n hn => formed1_pure n (hfit.1 n hn)) rfl) ⟨na_d _, na_free rfl, trivial⟩ rfl ?_) | refine sops_no rfl rfl rfl rfl rfl ?_
            refine sops_go rfl (st_pick (v := .d _) rfl rfl rfl rfl ?_)
            refine sops_nil ?_
            -- cond
            refine swp_cond _ rfl (fun hc => ?_) (fun hc => ?_)
            · refine swp_seq ?_
              refine swp_region ?_
              refine sops_go rfl (st_assign (v := .d _) rfl rfl rfl ?_)
              refine sops_nil ?_
              refine swp_ret ?_
              with_reducible refine inblk_ret ?_
              with_reducible refine after_ret ?_
              -- ret
              refine ⟨.inl rfl, .inl ⟨2, rfl, ?_⟩⟩
              rw [hform, h1, h2, hc]
              exact ra_d (keeps_v _)
            · refine swp_skip ?_
              -- cut
              refine ⟨(), by rw [hform, h1, h2, hc]; rfl, ?_⟩
              refine wk_of rfl (Nat.le_of_ble_eq_true rfl) (by rw [hB]; exact Nat.zero_le _) (tle_upd (le_eq rfl rfl) (tle_any _)) (hle_upd (.cells _ _ ⟨le_any _, le_any _, le_eq rfl rfl, trivial⟩) (hle_dead _)) (dead_upd (Nat.le_of_ble_eq_true rfl) (dead_none))
      · have h10 : kind ≠ 10 := by simpa using hc
        refine swp_region ?_
        refine sops_go rfl (st_bin rfl rfl rfl rfl rfl ?_)
        refine sops_go rfl (st_assign (v := .d _) rfl rfl rfl ?_)
        refine sops_nil ?_
        -- cond
        refine swp_cond _ rfl (fun hc => ?_) (fun hc => ?_)
        · have h11 : kind = 11 := by simpa using hc
          have hform : (T.mk kind names list).formed = ((names.length == list.length && (placesOf names).length == names.length && !(names.any fun n => !utfOk n)) && T.formedL list) := by
            rw [T.formed, if_neg hk, if_pos (.inr h11)]
          refine swp_seq ?_
          refine swp_regionQ 15 (by kernel_rfl) rfl rfl rfl ?_
          first | refine h0_go rfl (so_fieldAddr (v := .p _ _ _) rfl rfl rfl rfl rfl rfl rfl rfl rfl rfl ⟨_, rfl, ?_⟩) | refine h0_go rfl (so_fieldAddr (v := .dp _ _) rfl rfl rfl rfl rfl rfl rfl rfl rfl rfl ⟨_, rfl, ?_⟩) | refine h0_go rfl (so_fieldAddr (v := .pe _ _ _ _ _) rfl rfl rfl rfl rfl rfl rfl rfl rfl rfl ⟨_, rfl, ?_⟩)
          first | refine h0_go rfl (so_load (v := .d _) rfl rfl rfl rfl rfl rfl rfl rfl ⟨_, rfl, ?_⟩) | refine h0_go rfl (so_load (v := .own _ _ _ _ _) rfl rfl rfl rfl rfl rfl rfl rfl ⟨_, rfl, ?_⟩)
          refine h0_go rfl (so_lenSl rfl rfl rfl rfl rfl ⟨_, rfl, ?_⟩)
          first | refine h0_go rfl (so_fieldAddr (v := .p _ _ _) rfl rfl rfl rfl rfl rfl rfl rfl rfl rfl ⟨_, rfl, ?_⟩) | refine h0_go rfl (so_fieldAddr (v := .dp _ _) rfl rfl rfl rfl rfl rfl rfl rfl rfl rfl ⟨_, rfl, ?_⟩) | refine h0_go rfl (so_fieldAddr (v := .pe _ _ _ _ _) rfl rfl rfl rfl rfl rfl rfl rfl rfl rfl ⟨_, rfl, ?_⟩)
          first | refine h0_go rfl (so_load (v := .d _) rfl rfl rfl rfl rfl rfl rfl rfl ⟨_, rfl, ?_⟩) | refine h0_go rfl (so_load (v := .own _ _ _ _ _) rfl rfl rfl rfl rfl rfl rfl rfl ⟨_, rfl, ?_⟩)
          refine h0_go rfl (so_lenSl rfl rfl rfl rfl rfl ⟨_, rfl, ?_⟩)
          refine h0_go rfl (st_bin rfl rfl rfl rfl rfl ⟨_, rfl, ?_⟩)
          refine h0_go rfl (st_move (v := .d _) rfl rfl rfl ⟨_, rfl, ?_⟩)
          -- guard (some (7, false))
          refine h0_case 45 rfl (fun hb45 => ?_) (fun hb45 => ?_)
          · have h1 : (names.length == list.length) = false := by
              have hb : (((strRows names).length : Int) != ((T.rows list).length : Int)) = true := hb45
              rw [strRows_len, T.rows_len] at hb
              simp at hb ⊢; omega
            first | refine h0_yes rfl rfl rfl rfl (so_fieldAddr (v := .p _ _ _) rfl rfl rfl rfl rfl rfl rfl rfl rfl rfl ⟨_, rfl, ?_⟩) | refine h0_yes rfl rfl rfl rfl (so_fieldAddr (v := .dp _ _) rfl rfl rfl rfl rfl rfl rfl rfl rfl rfl ⟨_, rfl, ?_⟩) | refine h0_yes rfl rfl rfl rfl (so_fieldAddr (v := .pe _ _ _ _ _) rfl rfl rfl rfl rfl rfl rfl rfl rfl rfl ⟨_, rfl, ?_⟩) | refine h0_no rfl rfl rfl rfl rfl ?_
            first | refine h0_yes rfl rfl rfl rfl (so_load (v := .d _) rfl rfl rfl rfl rfl rfl rfl rfl ⟨_, rfl, ?_⟩) | refine h0_yes rfl rfl rfl rfl (so_load (v := .own _ _ _ _ _) rfl rfl rfl rfl rfl rfl rfl rfl ⟨_, rfl, ?_⟩) | refine h0_no rfl rfl rfl rfl rfl ?_
            -- hand: CALL f32(t47)
            -- hand: CALL f32(t47)
            refine h0_no rfl rfl rfl rfl rfl ?_
            first | refine h0_yes rfl rfl rfl rfl (so_lenMapD rfl rfl rfl rfl rfl ⟨_, rfl, ?_⟩) | refine h0_yes rfl rfl rfl rfl (so_lenMap rfl rfl rfl rfl rfl rfl ⟨_, rfl, ?_⟩) | refine h0_no rfl rfl rfl rfl rfl ?_
            first | refine h0_yes rfl rfl rfl rfl (so_fieldAddr (v := .p _ _ _) rfl rfl rfl rfl rfl rfl rfl rfl rfl rfl ⟨_, rfl, ?_⟩) | refine h0_yes rfl rfl rfl rfl (so_fieldAddr (v := .dp _ _) rfl rfl rfl rfl rfl rfl rfl rfl rfl rfl ⟨_, rfl, ?_⟩) | refine h0_yes rfl rfl rfl rfl (so_fieldAddr (v := .pe _ _ _ _ _) rfl rfl rfl rfl rfl rfl rfl rfl rfl rfl ⟨_, rfl, ?_⟩) | refine h0_no rfl rfl rfl rfl rfl ?_
            first | refine h0_yes rfl rfl rfl rfl (so_load (v := .d _) rfl rfl rfl rfl rfl rfl rfl rfl ⟨_, rfl, ?_⟩) | refine h0_yes rfl rfl rfl rfl (so_load (v := .own _ _ _ _ _) rfl rfl rfl rfl rfl rfl rfl rfl ⟨_, rfl, ?_⟩) | refine h0_no rfl rfl rfl rfl rfl ?_
            first | refine h0_yes rfl rfl rfl rfl (so_lenSl rfl rfl rfl rfl rfl ⟨_, rfl, ?_⟩) | refine h0_no rfl rfl rfl rfl rfl ?_
            refine h0_nil ?_
            first | refine sops_yes rfl rfl rfl rfl (st_bin rfl rfl rfl rfl rfl ?_) | refine sops_no rfl rfl rfl rfl rfl ?_
            refine sops_go rfl (st_pick (v := .d _) rfl rfl rfl rfl ?_)
            refine sops_go rfl (st_move (v := .d _) rfl rfl rfl ?_)
            first | refine sops_yes rfl rfl rfl rfl (so_fieldAddr (v := .p _ _ _) rfl rfl rfl rfl rfl rfl rfl rfl rfl rfl ?_) | refine sops_yes rfl rfl rfl rfl (so_fieldAddr (v := .dp _ _) rfl rfl rfl rfl rfl rfl rfl rfl rfl rfl ?_) | refine sops_yes rfl rfl rfl rfl (so_fieldAddr (v := .pe _ _ _ _ _) rfl rfl rfl rfl rfl rfl rfl rfl rfl rfl ?_) | refine sops_no rfl rfl rfl rfl rfl ?_
            first | refine sops_yes rfl rfl rfl rfl (so_load (v := .d _) rfl rfl rfl rfl rfl rfl rfl rfl ?_) | refine sops_yes rfl rfl rfl rfl (so_load (v := .own _ _ _ _ _) rfl rfl rfl rfl rfl rfl rfl rfl ?_) | refine sops_no rfl rfl rfl rfl rfl ?_
            -- hand: CALL f52(t57, f53)
            refine sops_no rfl rfl rfl rfl rfl ?_
            refine sops_go rfl (st_pick (v := .d _) rfl rfl rfl rfl ?_)
            refine sops_nil ?_
            -- cond
            refine swp_condT rfl ?_
            refine swp_seq ?_
            refine swp_region ?_
            refine sops_go rfl (st_assign (v := .d _) rfl rfl rfl ?_)
            refine sops_nil ?_
            refine swp_ret ?_
            with_reducible refine inblk_ret ?_
            with_reducible refine after_ret ?_
            -- ret
            refine ⟨.inl rfl, .inl ⟨2, rfl, ?_⟩⟩
            rw [hform, h1]
            exact ra_d (keeps_v _)
          · have h1 : (names.length == list.length) = true := by
              have hb : (((strRows names).length : Int) != ((T.rows list).length : Int)) = false := hb45
              rw [strRows_len, T.rows_len] at hb
              simp at hb ⊢; omega
            first | refine h0_yes rfl rfl rfl rfl (so_fieldAddr (v := .p _ _ _) rfl rfl rfl rfl rfl rfl rfl rfl rfl rfl ⟨_, rfl, ?_⟩) | refine h0_yes rfl rfl rfl rfl (so_fieldAddr (v := .dp _ _) rfl rfl rfl rfl rfl rfl rfl rfl rfl rfl ⟨_, rfl, ?_⟩) | refine h0_yes rfl rfl rfl rfl (so_fieldAddr (v := .pe _ _ _ _ _) rfl rfl rfl rfl rfl rfl rfl rfl rfl rfl ⟨_, rfl, ?_⟩) | refine h0_no rfl rfl rfl rfl rfl ?_
            first | refine h0_yes rfl rfl rfl rfl (so_load (v := .d _) rfl rfl rfl rfl rfl rfl rfl rfl ⟨_, rfl, ?_⟩) | refine h0_yes rfl rfl rfl rfl (so_load (v := .own _ _ _ _ _) rfl rfl rfl rfl rfl rfl rfl rfl ⟨_, rfl, ?_⟩) | refine h0_no rfl rfl rfl rfl rfl ?_
            -- hand: CALL f32(t47)
            first | refine h0_yes rfl rfl rfl rfl (st_call rfl rfl (places_pure s names) ⟨na_d _, trivial⟩ rfl ⟨_, rfl, ?_⟩) | refine h0_no rfl rfl rfl rfl rfl ?_
            first | refine h0_yes rfl rfl rfl rfl (so_lenMapD rfl rfl rfl rfl rfl ⟨_, rfl, ?_⟩) | refine h0_yes rfl rfl rfl rfl (so_lenMap rfl rfl rfl rfl rfl rfl ⟨_, rfl, ?_⟩) | refine h0_no rfl rfl rfl rfl rfl ?_
            first | refine h0_yes rfl rfl rfl rfl (so_fieldAddr (v := .p _ _ _) rfl rfl rfl rfl rfl rfl rfl rfl rfl rfl ⟨_, rfl, ?_⟩) | refine h0_yes rfl rfl rfl rfl (so_fieldAddr (v := .dp _ _) rfl rfl rfl rfl rfl rfl rfl rfl rfl rfl ⟨_, rfl, ?_⟩) | refine h0_yes rfl rfl rfl rfl (so_fieldAddr (v := .pe _ _ _ _ _) rfl rfl rfl rfl rfl rfl rfl rfl rfl rfl ⟨_, rfl, ?_⟩) | refine h0_no rfl rfl rfl rfl rfl ?_
            first | refine h0_yes rfl rfl rfl rfl (so_load (v := .d _) rfl rfl rfl rfl rfl rfl rfl rfl ⟨_, rfl, ?_⟩) | refine h0_yes rfl rfl rfl rfl (so_load (v := .own _ _ _ _ _) rfl rfl rfl rfl rfl rfl rfl rfl ⟨_, rfl, ?_⟩) | refine h0_no rfl rfl rfl rfl rfl ?_
            first | refine h0_yes rfl rfl rfl rfl (so_lenSl rfl rfl rfl rfl rfl ⟨_, rfl, ?_⟩) | refine h0_no rfl rfl rfl rfl rfl ?_
            refine h0_nil ?_
            first | refine sops_yes rfl rfl rfl rfl (st_bin rfl rfl rfl rfl rfl ?_) | refine sops_no rfl rfl rfl rfl rfl ?_
            refine sops_go rfl (st_pick (v := .d _) rfl rfl rfl rfl ?_)
            refine sops_go rfl (st_move (v := .d _) rfl rfl rfl ?_)
            -- guard (some (17, false))
            refine sops_case 55 rfl (fun hb55 => ?_) (fun hb55 => ?_)
            · have h2 : ((placesOf names).length == names.length) = false := by
                have hb : (((encM (placesOf names)).length : Int) != ((strRows names).length : Int)) = true := hb55
                rw [strRows_len] at hb
                simp [encM] at hb ⊢; omega
              first | refine sops_yes rfl rfl rfl rfl (so_fieldAddr (v := .p _ _ _) rfl rfl rfl rfl rfl rfl rfl rfl rfl rfl ?_) | refine sops_yes rfl rfl rfl rfl (so_fieldAddr (v := .dp _ _) rfl rfl rfl rfl rfl rfl rfl rfl rfl rfl ?_) | refine sops_yes rfl rfl rfl rfl (so_fieldAddr (v := .pe _ _ _ _ _) rfl rfl rfl rfl rfl rfl rfl rfl rfl rfl ?_) | refine sops_no rfl rfl rfl rfl rfl ?_
              first | refine sops_yes rfl rfl rfl rfl (so_load (v := .d _) rfl rfl rfl rfl rfl rfl rfl rfl ?_) | refine sops_yes rfl rfl rfl rfl (so_load (v := .own _ _ _ _ _) rfl rfl rfl rfl rfl rfl rfl rfl ?_) | refine sops_no rfl rfl rfl rfl rfl ?_
              -- hand: CALL f52(t57, f53)
              -- hand: CALL f52(t57, f53)
              refine sops_no rfl rfl rfl rfl rfl ?_
              refine sops_go rfl (st_pick (v := .d _) rfl rfl rfl rfl ?_)
              refine sops_nil ?_
              -- cond
              refine swp_condT rfl ?_
              refine swp_seq ?_
              refine swp_region ?_
              refine sops_go rfl (st_assign (v := .d _) rfl rfl rfl ?_)
              refine sops_nil ?_
              refine swp_ret ?_
              with_reducible refine inblk_ret ?_
              with_reducible refine after_ret ?_
              -- ret
              refine ⟨.inl rfl, .inl ⟨2, rfl, ?_⟩⟩
              rw [hform, h1, h2]
              exact ra_d (keeps_v _)
            · have h2 : ((placesOf names).length == names.length) = true := by
                have hb : (((encM (placesOf names)).length : Int) != ((strRows names).length : Int)) = false := hb55
                rw [strRows_len] at hb
                simp [encM] at hb ⊢; omega
              first | refine sops_yes rfl rfl rfl rfl (so_fieldAddr (v := .p _ _ _) rfl rfl rfl rfl rfl rfl rfl rfl rfl rfl ?_) | refine sops_yes rfl rfl rfl rfl (so_fieldAddr (v := .dp _ _) rfl rfl rfl rfl rfl rfl rfl rfl rfl rfl ?_) | refine sops_yes rfl rfl rfl rfl (so_fieldAddr (v := .pe _ _ _ _ _) rfl rfl rfl rfl rfl rfl rfl rfl rfl rfl ?_) | refine sops_no rfl rfl rfl rfl rfl ?_
              first | refine sops_yes rfl rfl rfl rfl (so_load (v := .d _) rfl rfl rfl rfl rfl rfl rfl rfl ?_) | refine sops_yes rfl rfl rfl rfl (so_load (v := .own _ _ _ _ _) rfl rfl rfl rfl rfl rfl rfl rfl ?_) | refine sops_no rfl rfl rfl rfl rfl ?_
              -- hand: CALL f52(t57, f53)
              first | refine sops_yes rfl rfl rfl rfl (st_call rfl rfl (containsFuncS_pure s names 53 [] (fun n => !utfOk n) (fun n hn => formed1_pure n (hfit.1 n hn)) rfl) ⟨na_d _, na_free rfl, trivial⟩ rfl ?_) | refine sops_no rfl rfl rfl rfl rfl ?_
              refine sops_go rfl (st_pick (v := .d _) rfl rfl rfl rfl ?_)
              refine sops_nil ?_
              -- cond
              refine swp_cond _ rfl (fun hc => ?_) (fun hc => ?_)
              · refine swp_seq ?_
                refine swp_region ?_
                refine sops_go rfl (st_assign (v := .d _) rfl rfl rfl ?_)
                refine sops_nil ?_
                refine swp_ret ?_
                with_reducible refine inblk_ret ?_
                with_reducible refine after_ret ?_
                -- ret
                refine ⟨.inl rfl, .inl ⟨2, rfl, ?_⟩⟩
                rw [hform, h1, h2, hc]
                exact ra_d (keeps_v _)
              · refine swp_skip ?_
                -- cut
                refine ⟨(), by rw [hform, h1, h2, hc]; rfl, ?_⟩
                refine wk_of rfl (Nat.le_of_ble_eq_true rfl) (by rw [hB]; exact Nat.zero_le _) (tle_upd (le_eq rfl rfl) (tle_any _)) (hle_upd (.cells _ _ ⟨le_any _, le_any _, le_eq rfl rfl, trivial⟩) (hle_dead _)) (dead_upd (Nat.le_of_ble_eq_true rfl) (dead_none))
        · have h11 : kind ≠ 11 := by simpa using hc
          have hform : (T.mk kind names list).formed = (decide (1 ≤ kind) && decide (kind ≤ 8) && (names.length + list.length == 0)) := by
            rw [T.formed, if_neg hk, if_neg (by omega)]
          have hsum : (IntKind.i64.wrap ((names.length : Int) + (list.length : Int)) == 0) = (names.length + list.length == 0) := by
            rw [IntKind.wrap_i64, Bool.eq_iff_iff, beq_iff_eq, beq_iff_eq]; omega
          refine swp_seq ?_
          refine swp_region ?_
          first | refine sops_go rfl (so_fieldAddr (v := .p _ _ _) rfl rfl rfl rfl rfl rfl rfl rfl rfl rfl ?_) | refine sops_go rfl (so_fieldAddr (v := .dp _ _) rfl rfl rfl rfl rfl rfl rfl rfl rfl rfl ?_) | refine sops_go rfl (so_fieldAddr (v := .pe _ _ _ _ _) rfl rfl rfl rfl rfl rfl rfl rfl rfl rfl ?_)
          refine sops_go rfl (so_load (v := .d _) rfl rfl rfl rfl rfl rfl rfl rfl ?_)
          refine sops_go rfl (st_bin rfl rfl rfl rfl rfl ?_)
          refine sops_go rfl (st_move (v := .d _) rfl rfl rfl ?_)
          -- guard (some (3, true))
          refine sops_case 8 rfl (fun hb8 => ?_) (fun hb8 => ?_)
          · have h1 : decide (1 ≤ kind) = true := by simpa using hb8
            first | refine sops_yes rfl rfl rfl rfl (so_fieldAddr (v := .p _ _ _) rfl rfl rfl rfl rfl rfl rfl rfl rfl rfl ?_) | refine sops_yes rfl rfl rfl rfl (so_fieldAddr (v := .dp _ _) rfl rfl rfl rfl rfl rfl rfl rfl rfl rfl ?_) | refine sops_yes rfl rfl rfl rfl (so_fieldAddr (v := .pe _ _ _ _ _) rfl rfl rfl rfl rfl rfl rfl rfl rfl rfl ?_) | refine sops_no rfl rfl rfl rfl rfl ?_
            first | refine sops_yes rfl rfl rfl rfl (so_load (v := .d _) rfl rfl rfl rfl rfl rfl rfl rfl ?_) | refine sops_no rfl rfl rfl rfl rfl ?_
            first | refine sops_yes rfl rfl rfl rfl (st_bin rfl rfl rfl rfl rfl ?_) | refine sops_no rfl rfl rfl rfl rfl ?_
            refine sops_go rfl (st_pick (v := .d _) rfl rfl rfl rfl ?_)
            refine sops_go rfl (st_move (v := .d _) rfl rfl rfl ?_)
            -- guard (some (8, true))
            refine sops_case 13 rfl (fun hb13 => ?_) (fun hb13 => ?_)
            · have h2 : decide (kind ≤ 8) = true := by simpa using hb13
              first | refine sops_yes rfl rfl rfl rfl (so_fieldAddr (v := .p _ _ _) rfl rfl rfl rfl rfl rfl rfl rfl rfl rfl ?_) | refine sops_yes rfl rfl rfl rfl (so_fieldAddr (v := .dp _ _) rfl rfl rfl rfl rfl rfl rfl rfl rfl rfl ?_) | refine sops_yes rfl rfl rfl rfl (so_fieldAddr (v := .pe _ _ _ _ _) rfl rfl rfl rfl rfl rfl rfl rfl rfl rfl ?_) | refine sops_no rfl rfl rfl rfl rfl ?_
              first | refine sops_yes rfl rfl rfl rfl (so_load (v := .d _) rfl rfl rfl rfl rfl rfl rfl rfl ?_) | refine sops_yes rfl rfl rfl rfl (so_load (v := .own _ _ _ _ _) rfl rfl rfl rfl rfl rfl rfl rfl ?_) | refine sops_no rfl rfl rfl rfl rfl ?_
              first | refine sops_yes rfl rfl rfl rfl (so_lenSl rfl rfl rfl rfl rfl ?_) | refine sops_no rfl rfl rfl rfl rfl ?_
              first | refine sops_yes rfl rfl rfl rfl (so_fieldAddr (v := .p _ _ _) rfl rfl rfl rfl rfl rfl rfl rfl rfl rfl ?_) | refine sops_yes rfl rfl rfl rfl (so_fieldAddr (v := .dp _ _) rfl rfl rfl rfl rfl rfl rfl rfl rfl rfl ?_) | refine sops_yes rfl rfl rfl rfl (so_fieldAddr (v := .pe _ _ _ _ _) rfl rfl rfl rfl rfl rfl rfl rfl rfl rfl ?_) | refine sops_no rfl rfl rfl rfl rfl ?_
              first | refine sops_yes rfl rfl rfl rfl (so_load (v := .d _) rfl rfl rfl rfl rfl rfl rfl rfl ?_) | refine sops_yes rfl rfl rfl rfl (so_load (v := .own _ _ _ _ _) rfl rfl rfl rfl rfl rfl rfl rfl ?_) | refine sops_no rfl rfl rfl rfl rfl ?_
              first | refine sops_yes rfl rfl rfl rfl (so_lenSl rfl rfl rfl rfl rfl ?_) | refine sops_no rfl rfl rfl rfl rfl ?_
              first | refine sops_yes rfl rfl rfl rfl (st_bin rfl rfl rfl rfl rfl ?_) | refine sops_no rfl rfl rfl rfl rfl ?_
              first | refine sops_yes rfl rfl rfl rfl (st_bin rfl rfl rfl rfl rfl ?_) | refine sops_no rfl rfl rfl rfl rfl ?_
              refine sops_go rfl (st_pick (v := .d _) rfl rfl rfl rfl ?_)
              refine sops_go rfl (st_assign (v := .d _) rfl rfl rfl ?_)
              refine sops_nil ?_
              refine swp_ret ?_
              with_reducible refine inblk_ret ?_
              with_reducible refine after_ret ?_
              -- ret
              -- end
              refine ⟨.inl rfl, .inl ⟨2, rfl, ?_⟩⟩
              rw [hform, h1, h2, ← hsum, ← strRows_len names, ← T.rows_len list]
              exact ra_d (keeps_v _)
            · have h2 : decide (kind ≤ 8) = false := by simpa using hb13
              first | refine sops_yes rfl rfl rfl rfl (so_fieldAddr (v := .p _ _ _) rfl rfl rfl rfl rfl rfl rfl rfl rfl rfl ?_) | refine sops_yes rfl rfl rfl rfl (so_fieldAddr (v := .dp _ _) rfl rfl rfl rfl rfl rfl rfl rfl rfl rfl ?_) | refine sops_yes rfl rfl rfl rfl (so_fieldAddr (v := .pe _ _ _ _ _) rfl rfl rfl rfl rfl rfl rfl rfl rfl rfl ?_) | refine sops_no rfl rfl rfl rfl rfl ?_
              first | refine sops_yes rfl rfl rfl rfl (so_load (v := .d _) rfl rfl rfl rfl rfl rfl rfl rfl ?_) | refine sops_yes rfl rfl rfl rfl (so_load (v := .own _ _ _ _ _) rfl rfl rfl rfl rfl rfl rfl rfl ?_) | refine sops_no rfl rfl rfl rfl rfl ?_
              first | refine sops_yes rfl rfl rfl rfl (so_lenSl rfl rfl rfl rfl rfl ?_) | refine sops_no rfl rfl rfl rfl rfl ?_
              first | refine sops_yes rfl rfl rfl rfl (so_fieldAddr (v := .p _ _ _) rfl rfl rfl rfl rfl rfl rfl rfl rfl rfl ?_) | refine sops_yes rfl rfl rfl rfl (so_fieldAddr (v := .dp _ _) rfl rfl rfl rfl rfl rfl rfl rfl rfl rfl ?_) | refine sops_yes rfl rfl rfl rfl (so_fieldAddr (v := .pe _ _ _ _ _) rfl rfl rfl rfl rfl rfl rfl rfl rfl rfl ?_) | refine sops_no rfl rfl rfl rfl rfl ?_
              first | refine sops_yes rfl rfl rfl rfl (so_load (v := .d _) rfl rfl rfl rfl rfl rfl rfl rfl ?_) | refine sops_yes rfl rfl rfl rfl (so_load (v := .own _ _ _ _ _) rfl rfl rfl rfl rfl rfl rfl rfl ?_) | refine sops_no rfl rfl rfl rfl rfl ?_
              first | refine sops_yes rfl rfl rfl rfl (so_lenSl rfl rfl rfl rfl rfl ?_) | refine sops_no rfl rfl rfl rfl rfl ?_
              first | refine sops_yes rfl rfl rfl rfl (st_bin rfl rfl rfl rfl rfl ?_) | refine sops_no rfl rfl rfl rfl rfl ?_
              first | refine sops_yes rfl rfl rfl rfl (st_bin rfl rfl rfl rfl rfl ?_) | refine sops_no rfl rfl rfl rfl rfl ?_
              refine sops_go rfl (st_pick (v := .d _) rfl rfl rfl rfl ?_)
              refine sops_go rfl (st_assign (v := .d _) rfl rfl rfl ?_)
              refine sops_nil ?_
              refine swp_ret ?_
              with_reducible refine inblk_ret ?_
              with_reducible refine after_ret ?_
              -- ret
              -- end
              refine ⟨.inl rfl, .inl ⟨2, rfl, ?_⟩⟩
              rw [hform, h1, h2]
              exact ra_d (keeps_v _)
          · have h1 : decide (1 ≤ kind) = false := by simpa using hb8
            first | refine sops_yes rfl rfl rfl rfl (so_fieldAddr (v := .p _ _ _) rfl rfl rfl rfl rfl rfl rfl rfl rfl rfl ?_) | refine sops_yes rfl rfl rfl rfl (so_fieldAddr (v := .dp _ _) rfl rfl rfl rfl rfl rfl rfl rfl rfl rfl ?_) | refine sops_yes rfl rfl rfl rfl (so_fieldAddr (v := .pe _ _ _ _ _) rfl rfl rfl rfl rfl rfl rfl rfl rfl rfl ?_) | refine sops_no rfl rfl rfl rfl rfl ?_
            first | refine sops_yes rfl rfl rfl rfl (so_load (v := .d _) rfl rfl rfl rfl rfl rfl rfl rfl ?_) | refine sops_no rfl rfl rfl rfl rfl ?_
            first | refine sops_yes rfl rfl rfl rfl (st_bin rfl rfl rfl rfl rfl ?_) | refine sops_no rfl rfl rfl rfl rfl ?_
            refine sops_go rfl (st_pick (v := .d _) rfl rfl rfl rfl ?_)
            refine sops_go rfl (st_move (v := .d _) rfl rfl rfl ?_)
            -- guard (some (8, true))
            first | refine sops_yes rfl rfl rfl rfl (so_fieldAddr (v := .p _ _ _) rfl rfl rfl rfl rfl rfl rfl rfl rfl rfl ?_) | refine sops_yes rfl rfl rfl rfl (so_fieldAddr (v := .dp _ _) rfl rfl rfl rfl rfl rfl rfl rfl rfl rfl ?_) | refine sops_yes rfl rfl rfl rfl (so_fieldAddr (v := .pe _ _ _ _ _) rfl rfl rfl rfl rfl rfl rfl rfl rfl rfl ?_) | refine sops_no rfl rfl rfl rfl rfl ?_
            first | refine sops_yes rfl rfl rfl rfl (so_load (v := .d _) rfl rfl rfl rfl rfl rfl rfl rfl ?_) | refine sops_yes rfl rfl rfl rfl (so_load (v := .own _ _ _ _ _) rfl rfl rfl rfl rfl rfl rfl rfl ?_) | refine sops_no rfl rfl rfl rfl rfl ?_
            first | refine sops_yes rfl rfl rfl rfl (so_lenSl rfl rfl rfl rfl rfl ?_) | refine sops_no rfl rfl rfl rfl rfl ?_
            first | refine sops_yes rfl rfl rfl rfl (so_fieldAddr (v := .p _ _ _) rfl rfl rfl rfl rfl rfl rfl rfl rfl rfl ?_) | refine sops_yes rfl rfl rfl rfl (so_fieldAddr (v := .dp _ _) rfl rfl rfl rfl rfl rfl rfl rfl rfl rfl ?_) | refine sops_yes rfl rfl rfl rfl (so_fieldAddr (v := .pe _ _ _ _ _) rfl rfl rfl rfl rfl rfl rfl rfl rfl rfl ?_) | refine sops_no rfl rfl rfl rfl rfl ?_
            first | refine sops_yes rfl rfl rfl rfl (so_load (v := .d _) rfl rfl rfl rfl rfl rfl rfl rfl ?_) | refine sops_yes rfl rfl rfl rfl (so_load (v := .own _ _ _ _ _) rfl rfl rfl rfl rfl rfl rfl rfl ?_) | refine sops_no rfl rfl rfl rfl rfl ?_
            first | refine sops_yes rfl rfl rfl rfl (so_lenSl rfl rfl rfl rfl rfl ?_) | refine sops_no rfl rfl rfl rfl rfl ?_
            first | refine sops_yes rfl rfl rfl rfl (st_bin rfl rfl rfl rfl rfl ?_) | refine sops_no rfl rfl rfl rfl rfl ?_
            first | refine sops_yes rfl rfl rfl rfl (st_bin rfl rfl rfl rfl rfl ?_) | refine sops_no rfl rfl rfl rfl rfl ?_
            refine sops_go rfl (st_pick (v := .d _) rfl rfl rfl rfl ?_)
            refine sops_go rfl (st_assign (v := .d _) rfl rfl rfl ?_)
            refine sops_nil ?_
            refine swp_ret ?_
            with_reducible refine inblk_ret ?_
            with_reducible refine after_ret ?_
            -- ret
            refine ⟨.inl rfl, .inl ⟨2, rfl, ?_⟩⟩
            rw [hform, h1]
            exact ra_d (keeps_v _)
  rintro ⟨⟩ hP
  refine swp_seq ?_
  refine swp_region ?_
  first | refine sops_go rfl (so_fieldAddr (v := .p _ _ _) rfl rfl rfl rfl rfl rfl rfl rfl rfl rfl ?_) | refine sops_go rfl (so_fieldAddr (v := .dp _ _) rfl rfl rfl rfl rfl rfl rfl rfl rfl rfl ?_) | refine sops_go rfl (so_fieldAddr (v := .pe _ _ _ _ _) rfl rfl rfl rfl rfl rfl rfl rfl rfl rfl ?_)
  first | refine sops_go rfl (so_load (v := .d _) rfl rfl rfl rfl rfl rfl rfl rfl ?_) | refine sops_go rfl (so_load (v := .own _ _ _ _ _) rfl rfl rfl rfl rfl rfl rfl rfl ?_)
  -- hand: CALL f55(t61, f56)
  refine sops_go rfl (st_call rfl rfl (containsFuncT_pure s list 56 [] (fun x => !x.formed) (fun x hx => formed2_pure x (by rw [T.df_d]; exact ih x hx ((T.fitL_iff list).1 hfit.2 x hx) true)) rfl) ⟨na_d _, na_free rfl, trivial⟩ rfl ?_)
  refine sops_go rfl (st_not rfl rfl rfl ?_)
  refine sops_go rfl (st_assign (v := .d _) rfl rfl rfl ?_)
  refine sops_nil ?_
  refine swp_ret ?_
  -- ret
  refine ⟨.inl rfl, .inl ⟨2, rfl, ?_⟩⟩
  rw [hP, T.formedL_any]
  exact ra_d (keeps_v _)
end Go.Proofs.YtdcpnpcmgfmenaaDoor
