/-
  Texts of the proof, part 3: the logic, walks of functions, plain laws. Conditions: none.
-/
import Derived.Test.YtdcpnpcmgfmenaaGreatDoorM2
import Derived.Laws.Cover3
set_option linter.unusedVariables false
set_option linter.unusedSimpArgs false
/-
  Walks: is a struct a type? Conditions: none.
-/
set_option linter.unusedVariables false
set_option maxRecDepth 100000
namespace Go.Proofs.YtdcpnpcmgfmenaaGreatDoor
open Go Go.Proofs.YtdcpnpcmgfmenaaGreatDoor.Lg

/-- A type as a struct, its rows lent (false) or there for good (true). -/
def T.df (s : Bool) : T → D
  | .mk kind names list => .agg [.v (.int .i64 kind), .sl s (strRows names), .sl s (T.rows list)]
theorem T.df_d (t : T) : t.d = t.df true := by cases t; rfl

mutual
/-- No name is longer than a text may be. -/
def T.fit : T → Prop
  | .mk _ names list => (∀ n ∈ names, fits n) ∧ T.fitL list
def T.fitL : List T → Prop
  | [] => True
  | x :: r => x.fit ∧ T.fitL r
end
theorem T.fitL_iff : ∀ l : List T, T.fitL l ↔ ∀ x ∈ l, x.fit
  | [] => by simp [T.fitL]
  | x :: r => by rw [T.fitL, T.fitL_iff r]; simp

mutual
def T.formed : T → Bool
  | .mk kind names list =>
    if kind = 9 then (names.length == 0 && list.length == 1) && T.formedL list
    else if kind = 10 ∨ kind = 11 then (names.length == list.length && (placesOf names).length == names.length && !(names.any fun n => !utfOk n)) && T.formedL list
    else decide (1 ≤ kind) && decide (kind ≤ 8) && (names.length + list.length == 0)
def T.formedL : List T → Bool
  | [] => true
  | x :: r => x.formed && T.formedL r
end
theorem T.formedL_any : ∀ l : List T, T.formedL l = !(l.any fun x => !x.formed)
  | [] => rfl
  | x :: r => by rw [T.formedL, T.formedL_any r]; simp

theorem formed1_pure (s : ByteArray) (hs : fits s) : Pure env 34 [.d (.v (.string s))] (.d (.v (.bool (!utfOk s)))) := by
  refine pure_of_body Tryz.func34 rfl rfl rfl fun B hB => ?_
  refine swp_seq ?_
  refine swp_region ?_
  refine sops_go rfl (st_assign (v := .d _) rfl rfl rfl ?_)
  refine sops_nil ?_
  refine swp_seq ?_
  refine swp_region ?_
  refine sops_go rfl (st_move (v := .d _) rfl rfl rfl ?_)
  -- hand: CALL f35(t3)
  refine sops_go rfl (st_call rfl rfl (valid_pure s hs) ⟨na_d _, trivial⟩ rfl ?_)
  refine sops_go rfl (st_not rfl rfl rfl ?_)
  refine sops_go rfl (st_assign (v := .d _) rfl rfl rfl ?_)
  refine sops_nil ?_
  refine swp_ret ?_
  -- ret
  exact ⟨.inl rfl, .inl ⟨2, rfl, ra_d (keeps_v _)⟩⟩
theorem formed2_pure (x : T) (hx : Pure env 18 [.d x.d] (.d (.v (.bool x.formed)))) : Pure env 37 [.d x.d] (.d (.v (.bool (!x.formed)))) := by
  obtain ⟨a1, a2, a3⟩ := x
  refine pure_of_body Tryz.func37 rfl rfl rfl fun B hB => ?_
  refine swp_seq ?_
  refine swp_region ?_
  refine sops_go rfl (so_box (cs := [_, _, _]) rfl rfl rfl ?_)
  refine sops_go rfl (st_assign (v := .d _) rfl rfl rfl ?_)
  refine sops_nil ?_
  refine swp_seq ?_
  refine swp_region ?_
  first | refine sops_go rfl (so_load (v := .d (.agg [_, _, _])) rfl rfl rfl rfl rfl rfl rfl rfl ?_) | refine sops_go rfl (so_load (v := .agg [_, _, _]) rfl rfl rfl rfl rfl rfl rfl rfl ?_)
  -- hand: CALL f18(t3)
  refine sops_go rfl (st_call rfl rfl (hx) ⟨na_d _, trivial⟩ rfl ?_)
  refine sops_go rfl (st_not rfl rfl rfl ?_)
  refine sops_go rfl (st_assign (v := .d _) rfl rfl rfl ?_)
  refine sops_nil ?_
  refine swp_ret ?_
  -- ret
  exact ⟨.inl rfl, .inl ⟨2, rfl, ra_d (keeps_v _)⟩⟩

theorem formed_pure (t : T) : t.fit → ∀ s, Pure env 18 [.d (t.df s)] (.d (.v (.bool t.formed))) := by
  revert t
  apply T.ind
  intro kind names list ih hfit s
  refine pure_of_body Tryz.func18 rfl rfl rfl fun B hB => ?_
  refine swp_seq ?_
  refine swp_region ?_
  refine sops_go rfl (so_box (cs := [_, _, _]) rfl rfl rfl ?_)
  refine sops_go rfl (st_assign (v := .d _) rfl rfl rfl ?_)
  refine sops_nil ?_
  -- stop
  refine swp_len (l := 0) (i := 1) rfl rfl rfl fun hnl => ?_
  refine swp_len (l := 0) (i := 2) rfl rfl rfl fun hll => ?_
  rw [strRows_len] at hnl
  rw [T.rows_len] at hll
  refine swp_seqF (F := fun _ : Unit => ({ t := upd (fun _ => .any) 1 (.p 0 0 0), n := 64, h := upd (fun _ => .dead) 0 (.cells [.any, .any, .d (.sl s (T.rows list))]), nx := 1 } : St)) (P := fun _ => (T.mk kind names list).formed = T.formedL list) ?_ ?_
  · refine swp_seq ?_
    refine swp_region ?_
    first | refine sops_go rfl (so_fieldAddr (v := .p _ _ _) rfl rfl rfl rfl rfl rfl rfl rfl rfl rfl ?_) | refine sops_go rfl (so_fieldAddr (v := .dp _ _) rfl rfl rfl rfl rfl rfl rfl rfl rfl rfl ?_) | refine sops_go rfl (so_fieldAddr (v := .pe _ _ _ _ _) rfl rfl rfl rfl rfl rfl rfl rfl rfl rfl ?_)
    refine sops_go rfl (so_load (v := .d _) rfl rfl rfl rfl rfl rfl rfl rfl ?_)
    refine sops_nil ?_
    refine swp_block ?_
    refine swp_seq ?_
    refine swp_region ?_
    refine sops_go rfl (st_bin rfl rfl rfl rfl rfl ?_)
    refine sops_go rfl (st_assign (v := .d _) rfl rfl rfl ?_)
    refine sops_nil ?_
    -- cond
    refine swp_cond _ rfl (fun hc => ?_) (fun hc => ?_)
    · have hk : kind = 9 := by simpa using hc
      have hform : (T.mk kind names list).formed = ((names.length == 0 && list.length == 1) && T.formedL list) := by rw [T.formed, if_pos hk]
      refine swp_seq ?_
      refine swp_region ?_
      first | refine sops_go rfl (so_fieldAddr (v := .p _ _ _) rfl rfl rfl rfl rfl rfl rfl rfl rfl rfl ?_) | refine sops_go rfl (so_fieldAddr (v := .dp _ _) rfl rfl rfl rfl rfl rfl rfl rfl rfl rfl ?_) | refine sops_go rfl (so_fieldAddr (v := .pe _ _ _ _ _) rfl rfl rfl rfl rfl rfl rfl rfl rfl rfl ?_)
      first | refine sops_go rfl (so_load (v := .d _) rfl rfl rfl rfl rfl rfl rfl rfl ?_) | refine sops_go rfl (so_load (v := .own _ _ _ _ _) rfl rfl rfl rfl rfl rfl rfl rfl ?_)
      refine sops_go rfl (so_lenSl rfl rfl rfl rfl rfl ?_)
      refine sops_go rfl (st_bin rfl rfl rfl rfl rfl ?_)
      refine sops_go rfl (st_move (v := .d _) rfl rfl rfl ?_)
      -- guard (some (4, false))
      refine sops_case 29 rfl (fun hb29 => ?_) (fun hb29 => ?_)
      · first | refine sops_yes rfl rfl rfl rfl (so_fieldAddr (v := .p _ _ _) rfl rfl rfl rfl rfl rfl rfl rfl rfl rfl ?_) | refine sops_yes rfl rfl rfl rfl (so_fieldAddr (v := .dp _ _) rfl rfl rfl rfl rfl rfl rfl rfl rfl rfl ?_) | refine sops_yes rfl rfl rfl rfl (so_fieldAddr (v := .pe _ _ _ _ _) rfl rfl rfl rfl rfl rfl rfl rfl rfl rfl ?_) | first | refine sops_no rfl rfl rfl rfl rfl ?_ | refine sops_un rfl rfl rfl rfl rfl ?_
        first | refine sops_yes rfl rfl rfl rfl (so_load (v := .d _) rfl rfl rfl rfl rfl rfl rfl rfl ?_) | refine sops_yes rfl rfl rfl rfl (so_load (v := .own _ _ _ _ _) rfl rfl rfl rfl rfl rfl rfl rfl ?_) | first | refine sops_no rfl rfl rfl rfl rfl ?_ | refine sops_un rfl rfl rfl rfl rfl ?_
        first | refine sops_yes rfl rfl rfl rfl (so_lenSl rfl rfl rfl rfl rfl ?_) | first | refine sops_no rfl rfl rfl rfl rfl ?_ | refine sops_un rfl rfl rfl rfl rfl ?_
        first | refine sops_yes rfl rfl rfl rfl (st_bin rfl rfl rfl rfl rfl ?_) | first | refine sops_no rfl rfl rfl rfl rfl ?_ | refine sops_un rfl rfl rfl rfl rfl ?_
        refine sops_go rfl (st_pick (v := .d _) rfl rfl rfl rfl ?_)
        refine sops_nil ?_
        -- cond
        -- cond
        refine swp_condT rfl ?_
        refine swp_seq ?_
        refine swp_region ?_
        refine sops_go rfl (st_assign (v := .d _) rfl rfl rfl ?_)
        refine sops_nil ?_
        refine swp_ret ?_
        with_reducible refine inblk_ret ?_
        with_reducible refine after_ret ?_
        -- ret
        have h1 : names.length ≠ 0 := by have := of_decide_eq_true hb29; rw [strRows_len] at this; omega
        refine ⟨.inl rfl, .inl ⟨2, rfl, ?_⟩⟩
        rw [hform, show (names.length == 0) = false by simpa using h1]
        exact ra_d (keeps_v _)
      · have h1 : (names.length == 0) = true := by have := of_decide_eq_false hb29; rw [strRows_len] at this; rw [show names.length = 0 by omega]; rfl
        first | refine sops_yes rfl rfl rfl rfl (so_fieldAddr (v := .p _ _ _) rfl rfl rfl rfl rfl rfl rfl rfl rfl rfl ?_) | refine sops_yes rfl rfl rfl rfl (so_fieldAddr (v := .dp _ _) rfl rfl rfl rfl rfl rfl rfl rfl rfl rfl ?_) | refine sops_yes rfl rfl rfl rfl (so_fieldAddr (v := .pe _ _ _ _ _) rfl rfl rfl rfl rfl rfl rfl rfl rfl rfl ?_) | first | refine sops_no rfl rfl rfl rfl rfl ?_ | refine sops_un rfl rfl rfl rfl rfl ?_
        first | refine sops_yes rfl rfl rfl rfl (so_load (v := .d _) rfl rfl rfl rfl rfl rfl rfl rfl ?_) | refine sops_yes rfl rfl rfl rfl (so_load (v := .own _ _ _ _ _) rfl rfl rfl rfl rfl rfl rfl rfl ?_) | first | refine sops_no rfl rfl rfl rfl rfl ?_ | refine sops_un rfl rfl rfl rfl rfl ?_
        first | refine sops_yes rfl rfl rfl rfl (so_lenSl rfl rfl rfl rfl rfl ?_) | first | refine sops_no rfl rfl rfl rfl rfl ?_ | refine sops_un rfl rfl rfl rfl rfl ?_
        first | refine sops_yes rfl rfl rfl rfl (st_bin rfl rfl rfl rfl rfl ?_) | first | refine sops_no rfl rfl rfl rfl rfl ?_ | refine sops_un rfl rfl rfl rfl rfl ?_
        refine sops_go rfl (st_pick (v := .d _) rfl rfl rfl rfl ?_)
        refine sops_nil ?_
        -- cond
        refine swp_cond _ rfl (fun hc => ?_) (fun hc => ?_)
        · refine swp_seq ?_
          refine swp_region ?_
          refine sops_go rfl (st_assign (v := .d _) rfl rfl rfl ?_)
          refine sops_nil ?_
          refine swp_ret ?_
          with_reducible refine inblk_ret ?_
          with_reducible refine after_ret ?_
          -- ret
          have h2 : (list.length == 1) = false := by
            have hc : (((T.rows list).length : Int) != 1) = true := hc
            rw [T.rows_len] at hc
            simp at hc ⊢; omega
          refine ⟨.inl rfl, .inl ⟨2, rfl, ?_⟩⟩
          rw [hform, h1, h2]
          exact ra_d (keeps_v _)
        · refine swp_skip ?_
          -- cut
          have h2 : (list.length == 1) = true := by
            have hc : (((T.rows list).length : Int) != 1) = false := hc
            rw [T.rows_len] at hc
            simp at hc ⊢; omega
          refine ⟨(), by rw [hform, h1, h2]; rfl, ?_⟩
          refine wk_of rfl (Nat.le_of_ble_eq_true rfl) (by rw [hB]; exact Nat.zero_le _) (tle_upd (le_eq rfl rfl) (tle_any _)) (hle_upd (.cells _ _ ⟨le_any _, le_any _, le_eq rfl rfl, trivial⟩) (hle_dead _)) (dead_upd (Nat.le_of_ble_eq_true rfl) (dead_none))
    · have hk : kind ≠ 9 := by simpa using hc
      refine swp_seq ?_
      refine swp_seq ?_
      refine swp_region ?_
      refine sops_go rfl (st_bin rfl rfl rfl rfl rfl ?_)
      refine sops_go rfl (st_assign (v := .d _) rfl rfl rfl ?_)
      refine sops_nil ?_
      -- cond
      refine swp_cond _ rfl (fun hc => ?_) (fun hc => ?_)
      · have h10 : kind = 10 := by simpa using hc
        refine swp_skip ?_
        -- cond
        have hform : (T.mk kind names list).formed = ((names.length == list.length && (placesOf names).length == names.length && !(names.any fun n => !utfOk n)) && T.formedL list) := by
          rw [T.formed, if_neg hk, if_pos (.inl h10)]
        refine swp_condT (by show AV.d (.v (.bool (kind == 10))) = _; rw [hc]) ?_
        refine swp_seq ?_
        refine swp_regionQ 15 (by kernel_rfl) rfl rfl rfl ?_
        first | refine h0_go rfl (so_fieldAddr (v := .p _ _ _) rfl rfl rfl rfl rfl rfl rfl rfl rfl rfl ⟨_, rfl, ?_⟩) | refine h0_go rfl (so_fieldAddr (v := .dp _ _) rfl rfl rfl rfl rfl rfl rfl rfl rfl rfl ⟨_, rfl, ?_⟩) | refine h0_go rfl (so_fieldAddr (v := .pe _ _ _ _ _) rfl rfl rfl rfl rfl rfl rfl rfl rfl rfl ⟨_, rfl, ?_⟩)
        first | refine h0_go rfl (so_load (v := .d _) rfl rfl rfl rfl rfl rfl rfl rfl ⟨_, rfl, ?_⟩) | refine h0_go rfl (so_load (v := .own _ _ _ _ _) rfl rfl rfl rfl rfl rfl rfl rfl ⟨_, rfl, ?_⟩)
        refine h0_go rfl (so_lenSl rfl rfl rfl rfl rfl ⟨_, rfl, ?_⟩)
        first | refine h0_go rfl (so_fieldAddr (v := .p _ _ _) rfl rfl rfl rfl rfl rfl rfl rfl rfl rfl ⟨_, rfl, ?_⟩) | refine h0_go rfl (so_fieldAddr (v := .dp _ _) rfl rfl rfl rfl rfl rfl rfl rfl rfl rfl ⟨_, rfl, ?_⟩) | refine h0_go rfl (so_fieldAddr (v := .pe _ _ _ _ _) rfl rfl rfl rfl rfl rfl rfl rfl rfl rfl ⟨_, rfl, ?_⟩)
        first | refine h0_go rfl (so_load (v := .d _) rfl rfl rfl rfl rfl rfl rfl rfl ⟨_, rfl, ?_⟩) | refine h0_go rfl (so_load (v := .own _ _ _ _ _) rfl rfl rfl rfl rfl rfl rfl rfl ⟨_, rfl, ?_⟩)
        refine h0_go rfl (so_lenSl rfl rfl rfl rfl rfl ⟨_, rfl, ?_⟩)
        refine h0_go rfl (st_bin rfl rfl rfl rfl rfl ⟨_, rfl, ?_⟩)
        refine h0_go rfl (st_move (v := .d _) rfl rfl rfl ⟨_, rfl, ?_⟩)
        -- guard (some (7, false))
        refine h0_case 45 rfl (fun hb45 => ?_) (fun hb45 => ?_)
        · have h1 : (names.length == list.length) = false := by
            have hb : (((strRows names).length : Int) != ((T.rows list).length : Int)) = true := hb45
            rw [strRows_len, T.rows_len] at hb
            simp at hb ⊢; omega
          first | refine h0_yes rfl rfl rfl rfl (so_fieldAddr (v := .p _ _ _) rfl rfl rfl rfl rfl rfl rfl rfl rfl rfl ⟨_, rfl, ?_⟩) | refine h0_yes rfl rfl rfl rfl (so_fieldAddr (v := .dp _ _) rfl rfl rfl rfl rfl rfl rfl rfl rfl rfl ⟨_, rfl, ?_⟩) | refine h0_yes rfl rfl rfl rfl (so_fieldAddr (v := .pe _ _ _ _ _) rfl rfl rfl rfl rfl rfl rfl rfl rfl rfl ⟨_, rfl, ?_⟩) | first | refine h0_no rfl rfl rfl rfl rfl ?_ | refine h0_un rfl rfl rfl rfl rfl ?_
          first | refine h0_yes rfl rfl rfl rfl (so_load (v := .d _) rfl rfl rfl rfl rfl rfl rfl rfl ⟨_, rfl, ?_⟩) | refine h0_yes rfl rfl rfl rfl (so_load (v := .own _ _ _ _ _) rfl rfl rfl rfl rfl rfl rfl rfl ⟨_, rfl, ?_⟩) | first | refine h0_no rfl rfl rfl rfl rfl ?_ | refine h0_un rfl rfl rfl rfl rfl ?_
          -- hand: CALL f32(t47)
          -- hand: CALL f32(t47)
          first | refine h0_no rfl rfl rfl rfl rfl ?_ | refine h0_un rfl rfl rfl rfl rfl ?_
          first | refine h0_yes rfl rfl rfl rfl (so_lenMapD rfl rfl rfl rfl rfl ⟨_, rfl, ?_⟩) | refine h0_yes rfl rfl rfl rfl (so_lenMap rfl rfl rfl rfl rfl rfl ⟨_, rfl, ?_⟩) | first | refine h0_no rfl rfl rfl rfl rfl ?_ | refine h0_un rfl rfl rfl rfl rfl ?_
          first | refine h0_yes rfl rfl rfl rfl (so_fieldAddr (v := .p _ _ _) rfl rfl rfl rfl rfl rfl rfl rfl rfl rfl ⟨_, rfl, ?_⟩) | refine h0_yes rfl rfl rfl rfl (so_fieldAddr (v := .dp _ _) rfl rfl rfl rfl rfl rfl rfl rfl rfl rfl ⟨_, rfl, ?_⟩) | refine h0_yes rfl rfl rfl rfl (so_fieldAddr (v := .pe _ _ _ _ _) rfl rfl rfl rfl rfl rfl rfl rfl rfl rfl ⟨_, rfl, ?_⟩) | first | refine h0_no rfl rfl rfl rfl rfl ?_ | refine h0_un rfl rfl rfl rfl rfl ?_
          first | refine h0_yes rfl rfl rfl rfl (so_load (v := .d _) rfl rfl rfl rfl rfl rfl rfl rfl ⟨_, rfl, ?_⟩) | refine h0_yes rfl rfl rfl rfl (so_load (v := .own _ _ _ _ _) rfl rfl rfl rfl rfl rfl rfl rfl ⟨_, rfl, ?_⟩) | first | refine h0_no rfl rfl rfl rfl rfl ?_ | refine h0_un rfl rfl rfl rfl rfl ?_
          first | refine h0_yes rfl rfl rfl rfl (so_lenSl rfl rfl rfl rfl rfl ⟨_, rfl, ?_⟩) | first | refine h0_no rfl rfl rfl rfl rfl ?_ | refine h0_un rfl rfl rfl rfl rfl ?_
          refine h0_nil ?_
          first | refine sops_yes rfl rfl rfl rfl (st_bin rfl rfl rfl rfl rfl ?_) | first | refine sops_no rfl rfl rfl rfl rfl ?_ | refine sops_un rfl rfl rfl rfl rfl ?_
          refine sops_go rfl (st_pick (v := .d _) rfl rfl rfl rfl ?_)
          refine sops_go rfl (st_move (v := .d _) rfl rfl rfl ?_)
          first | refine sops_yes rfl rfl rfl rfl (so_fieldAddr (v := .p _ _ _) rfl rfl rfl rfl rfl rfl rfl rfl rfl rfl ?_) | refine sops_yes rfl rfl rfl rfl (so_fieldAddr (v := .dp _ _) rfl rfl rfl rfl rfl rfl rfl rfl rfl rfl ?_) | refine sops_yes rfl rfl rfl rfl (so_fieldAddr (v := .pe _ _ _ _ _) rfl rfl rfl rfl rfl rfl rfl rfl rfl rfl ?_) | first | refine sops_no rfl rfl rfl rfl rfl ?_ | refine sops_un rfl rfl rfl rfl rfl ?_
          first | refine sops_yes rfl rfl rfl rfl (so_load (v := .d _) rfl rfl rfl rfl rfl rfl rfl rfl ?_) | refine sops_yes rfl rfl rfl rfl (so_load (v := .own _ _ _ _ _) rfl rfl rfl rfl rfl rfl rfl rfl ?_) | first | refine sops_no rfl rfl rfl rfl rfl ?_ | refine sops_un rfl rfl rfl rfl rfl ?_
          -- hand: CALL f33(t57, f34)
          first | refine sops_no rfl rfl rfl rfl rfl ?_ | refine sops_un rfl rfl rfl rfl rfl ?_
          refine sops_go rfl (st_pick (v := .d _) rfl rfl rfl rfl ?_)
          refine sops_nil ?_
          -- cond
          refine swp_condT rfl ?_
          refine swp_seq ?_
          refine swp_region ?_
          refine sops_go rfl (st_assign (v := .d _) rfl rfl rfl ?_)
          refine sops_nil ?_
          refine swp_ret ?_
          with_reducible refine inblk_ret ?_
          with_reducible refine after_ret ?_
          -- ret
          refine ⟨.inl rfl, .inl ⟨2, rfl, ?_⟩⟩
          rw [hform, h1]
          exact ra_d (keeps_v _)
        · have h1 : (names.length == list.length) = true := by
            have hb : (((strRows names).length : Int) != ((T.rows list).length : Int)) = false := hb45
            rw [strRows_len, T.rows_len] at hb
            simp at hb ⊢; omega
          first | refine h0_yes rfl rfl rfl rfl (so_fieldAddr (v := .p _ _ _) rfl rfl rfl rfl rfl rfl rfl rfl rfl rfl ⟨_, rfl, ?_⟩) | refine h0_yes rfl rfl rfl rfl (so_fieldAddr (v := .dp _ _) rfl rfl rfl rfl rfl rfl rfl rfl rfl rfl ⟨_, rfl, ?_⟩) | refine h0_yes rfl rfl rfl rfl (so_fieldAddr (v := .pe _ _ _ _ _) rfl rfl rfl rfl rfl rfl rfl rfl rfl rfl ⟨_, rfl, ?_⟩) | first | refine h0_no rfl rfl rfl rfl rfl ?_ | refine h0_un rfl rfl rfl rfl rfl ?_
          first | refine h0_yes rfl rfl rfl rfl (so_load (v := .d _) rfl rfl rfl rfl rfl rfl rfl rfl ⟨_, rfl, ?_⟩) | refine h0_yes rfl rfl rfl rfl (so_load (v := .own _ _ _ _ _) rfl rfl rfl rfl rfl rfl rfl rfl ⟨_, rfl, ?_⟩) | first | refine h0_no rfl rfl rfl rfl rfl ?_ | refine h0_un rfl rfl rfl rfl rfl ?_
          -- hand: CALL f32(t47)
          first | refine h0_yes rfl rfl rfl rfl (st_call rfl rfl (places_pure s names) ⟨na_d _, trivial⟩ rfl ⟨_, rfl, ?_⟩) | first | refine h0_no rfl rfl rfl rfl rfl ?_ | refine h0_un rfl rfl rfl rfl rfl ?_
          first | refine h0_yes rfl rfl rfl rfl (so_lenMapD rfl rfl rfl rfl rfl ⟨_, rfl, ?_⟩) | refine h0_yes rfl rfl rfl rfl (so_lenMap rfl rfl rfl rfl rfl rfl ⟨_, rfl, ?_⟩) | first | refine h0_no rfl rfl rfl rfl rfl ?_ | refine h0_un rfl rfl rfl rfl rfl ?_
          first | refine h0_yes rfl rfl rfl rfl (so_fieldAddr (v := .p _ _ _) rfl rfl rfl rfl rfl rfl rfl rfl rfl rfl ⟨_, rfl, ?_⟩) | refine h0_yes rfl rfl rfl rfl (so_fieldAddr (v := .dp _ _) rfl rfl rfl rfl rfl rfl rfl rfl rfl rfl ⟨_, rfl, ?_⟩) | refine h0_yes rfl rfl rfl rfl (so_fieldAddr (v := .pe _ _ _ _ _) rfl rfl rfl rfl rfl rfl rfl rfl rfl rfl ⟨_, rfl, ?_⟩) | first | refine h0_no rfl rfl rfl rfl rfl ?_ | refine h0_un rfl rfl rfl rfl rfl ?_
          first | refine h0_yes rfl rfl rfl rfl (so_load (v := .d _) rfl rfl rfl rfl rfl rfl rfl rfl ⟨_, rfl, ?_⟩) | refine h0_yes rfl rfl rfl rfl (so_load (v := .own _ _ _ _ _) rfl rfl rfl rfl rfl rfl rfl rfl ⟨_, rfl, ?_⟩) | first | refine h0_no rfl rfl rfl rfl rfl ?_ | refine h0_un rfl rfl rfl rfl rfl ?_
          first | refine h0_yes rfl rfl rfl rfl (so_lenSl rfl rfl rfl rfl rfl ⟨_, rfl, ?_⟩) | first | refine h0_no rfl rfl rfl rfl rfl ?_ | refine h0_un rfl rfl rfl rfl rfl ?_
          refine h0_nil ?_
          first | refine sops_yes rfl rfl rfl rfl (st_bin rfl rfl rfl rfl rfl ?_) | first | refine sops_no rfl rfl rfl rfl rfl ?_ | refine sops_un rfl rfl rfl rfl rfl ?_
          refine sops_go rfl (st_pick (v := .d _) rfl rfl rfl rfl ?_)
          refine sops_go rfl (st_move (v := .d _) rfl rfl rfl ?_)
          -- guard (some (17, false))
          refine sops_case 55 rfl (fun hb55 => ?_) (fun hb55 => ?_)
          · have h2 : ((placesOf names).length == names.length) = false := by
              have hb : (((encM (placesOf names)).length : Int) != ((strRows names).length : Int)) = true := hb55
              rw [strRows_len] at hb
              simp [encM] at hb ⊢; omega
            first | refine sops_yes rfl rfl rfl rfl (so_fieldAddr (v := .p _ _ _) rfl rfl rfl rfl rfl rfl rfl rfl rfl rfl ?_) | refine sops_yes rfl rfl rfl rfl (so_fieldAddr (v := .dp _ _) rfl rfl rfl rfl rfl rfl rfl rfl rfl rfl ?_) | refine sops_yes rfl rfl rfl rfl (so_fieldAddr (v := .pe _ _ _ _ _) rfl rfl rfl rfl rfl rfl rfl rfl rfl rfl ?_) | first | refine sops_no rfl rfl rfl rfl rfl ?_ | refine sops_un rfl rfl rfl rfl rfl ?_
            first | refine sops_yes rfl rfl rfl rfl (so_load (v := .d _) rfl rfl rfl rfl rfl rfl rfl rfl ?_) | refine sops_yes rfl rfl rfl rfl (so_load (v := .own _ _ _ _ _) rfl rfl rfl rfl rfl rfl rfl rfl ?_) | first | refine sops_no rfl rfl rfl rfl rfl ?_ | refine sops_un rfl rfl rfl rfl rfl ?_
            -- hand: CALL f33(t57, f34)
            -- hand: CALL f33(t57, f34)
            first | refine sops_no rfl rfl rfl rfl rfl ?_ | refine sops_un rfl rfl rfl rfl rfl ?_
            refine sops_go rfl (st_pick (v := .d _) rfl rfl rfl rfl ?_)
            refine sops_nil ?_
            -- cond
            refine swp_condT rfl ?_
            refine swp_seq ?_
            refine swp_region ?_
            refine sops_go rfl (st_assign (v := .d _) rfl rfl rfl ?_)
            refine sops_nil ?_
            refine swp_ret ?_
            with_reducible refine inblk_ret ?_
            with_reducible refine after_ret ?_
            -- ret
            refine ⟨.inl rfl, .inl ⟨2, rfl, ?_⟩⟩
            rw [hform, h1, h2]
            exact ra_d (keeps_v _)
          · have h2 : ((placesOf names).length == names.length) = true := by
              have hb : (((encM (placesOf names)).length : Int) != ((strRows names).length : Int)) = false := hb55
              rw [strRows_len] at hb
              simp [encM] at hb ⊢; omega
            first | refine sops_yes rfl rfl rfl rfl (so_fieldAddr (v := .p _ _ _) rfl rfl rfl rfl rfl rfl rfl rfl rfl rfl ?_) | refine sops_yes rfl rfl rfl rfl (so_fieldAddr (v := .dp _ _) rfl rfl rfl rfl rfl rfl rfl rfl rfl rfl ?_) | refine sops_yes rfl rfl rfl rfl (so_fieldAddr (v := .pe _ _ _ _ _) rfl rfl rfl rfl rfl rfl rfl rfl rfl rfl ?_) | first | refine sops_no rfl rfl rfl rfl rfl ?_ | refine sops_un rfl rfl rfl rfl rfl ?_
            first | refine sops_yes rfl rfl rfl rfl (so_load (v := .d _) rfl rfl rfl rfl rfl rfl rfl rfl ?_) | refine sops_yes rfl rfl rfl rfl (so_load (v := .own _ _ _ _ _) rfl rfl rfl rfl rfl rfl rfl rfl ?_) | first | refine sops_no rfl rfl rfl rfl rfl ?_ | refine sops_un rfl rfl rfl rfl rfl ?_
            -- hand: CALL f33(t57, f34)
            first | refine sops_yes rfl rfl rfl rfl (st_call rfl rfl (containsFuncS_pure s names 34 [] (fun n => !utfOk n) (fun n hn => formed1_pure n (hfit.1 n hn)) rfl) ⟨na_d _, na_free rfl, trivial⟩ rfl ?_) | first | refine sops_no rfl rfl rfl rfl rfl ?_ | refine sops_un rfl rfl rfl rfl rfl ?_
            refine sops_go rfl (st_pick (v := .d _) rfl rfl rfl rfl ?_)
            refine sops_nil ?_
            -- cond
            refine swp_cond _ rfl (fun hc => ?_) (fun hc => ?_)
            · refine swp_seq ?_
              refine swp_region ?_
              refine sops_go rfl (st_assign (v := .d _) rfl rfl rfl ?_)
              refine sops_nil ?_
              refine swp_ret ?_
              with_reducible refine inblk_ret ?_
              with_reducible refine after_ret ?_
              -- ret
              refine ⟨.inl rfl, .inl ⟨2, rfl, ?_⟩⟩
              rw [hform, h1, h2, hc]
              exact ra_d (keeps_v _)
            · refine swp_skip ?_
              -- cut
              refine ⟨(), by rw [hform, h1, h2, hc]; rfl, ?_⟩
              refine wk_of rfl (Nat.le_of_ble_eq_true rfl) (by rw [hB]; exact Nat.zero_le _) (tle_upd (le_eq rfl rfl) (tle_any _)) (hle_upd (.cells _ _ ⟨le_any _, le_any _, le_eq rfl rfl, trivial⟩) (hle_dead _)) (dead_upd (Nat.le_of_ble_eq_true rfl) (dead_none))
      · have h10 : kind ≠ 10 := by simpa using hc
        refine swp_region ?_
        refine sops_go rfl (st_bin rfl rfl rfl rfl rfl ?_)
        refine sops_go rfl (st_assign (v := .d _) rfl rfl rfl ?_)
        refine sops_nil ?_
        -- cond
        refine swp_cond _ rfl (fun hc => ?_) (fun hc => ?_)
        · have h11 : kind = 11 := by simpa using hc
          have hform : (T.mk kind names list).formed = ((names.length == list.length && (placesOf names).length == names.length && !(names.any fun n => !utfOk n)) && T.formedL list) := by
            rw [T.formed, if_neg hk, if_pos (.inr h11)]
          refine swp_seq ?_
          refine swp_regionQ 15 (by kernel_rfl) rfl rfl rfl ?_
          first | refine h0_go rfl (so_fieldAddr (v := .p _ _ _) rfl rfl rfl rfl rfl rfl rfl rfl rfl rfl ⟨_, rfl, ?_⟩) | refine h0_go rfl (so_fieldAddr (v := .dp _ _) rfl rfl rfl rfl rfl rfl rfl rfl rfl rfl ⟨_, rfl, ?_⟩) | refine h0_go rfl (so_fieldAddr (v := .pe _ _ _ _ _) rfl rfl rfl rfl rfl rfl rfl rfl rfl rfl ⟨_, rfl, ?_⟩)
          first | refine h0_go rfl (so_load (v := .d _) rfl rfl rfl rfl rfl rfl rfl rfl ⟨_, rfl, ?_⟩) | refine h0_go rfl (so_load (v := .own _ _ _ _ _) rfl rfl rfl rfl rfl rfl rfl rfl ⟨_, rfl, ?_⟩)
          refine h0_go rfl (so_lenSl rfl rfl rfl rfl rfl ⟨_, rfl, ?_⟩)
          first | refine h0_go rfl (so_fieldAddr (v := .p _ _ _) rfl rfl rfl rfl rfl rfl rfl rfl rfl rfl ⟨_, rfl, ?_⟩) | refine h0_go rfl (so_fieldAddr (v := .dp _ _) rfl rfl rfl rfl rfl rfl rfl rfl rfl rfl ⟨_, rfl, ?_⟩) | refine h0_go rfl (so_fieldAddr (v := .pe _ _ _ _ _) rfl rfl rfl rfl rfl rfl rfl rfl rfl rfl ⟨_, rfl, ?_⟩)
          first | refine h0_go rfl (so_load (v := .d _) rfl rfl rfl rfl rfl rfl rfl rfl ⟨_, rfl, ?_⟩) | refine h0_go rfl (so_load (v := .own _ _ _ _ _) rfl rfl rfl rfl rfl rfl rfl rfl ⟨_, rfl, ?_⟩)
          refine h0_go rfl (so_lenSl rfl rfl rfl rfl rfl ⟨_, rfl, ?_⟩)
          refine h0_go rfl (st_bin rfl rfl rfl rfl rfl ⟨_, rfl, ?_⟩)
          refine h0_go rfl (st_move (v := .d _) rfl rfl rfl ⟨_, rfl, ?_⟩)
          -- guard (some (7, false))
          refine h0_case 45 rfl (fun hb45 => ?_) (fun hb45 => ?_)
          · have h1 : (names.length == list.length) = false := by
              have hb : (((strRows names).length : Int) != ((T.rows list).length : Int)) = true := hb45
              rw [strRows_len, T.rows_len] at hb
              simp at hb ⊢; omega
            first | refine h0_yes rfl rfl rfl rfl (so_fieldAddr (v := .p _ _ _) rfl rfl rfl rfl rfl rfl rfl rfl rfl rfl ⟨_, rfl, ?_⟩) | refine h0_yes rfl rfl rfl rfl (so_fieldAddr (v := .dp _ _) rfl rfl rfl rfl rfl rfl rfl rfl rfl rfl ⟨_, rfl, ?_⟩) | refine h0_yes rfl rfl rfl rfl (so_fieldAddr (v := .pe _ _ _ _ _) rfl rfl rfl rfl rfl rfl rfl rfl rfl rfl ⟨_, rfl, ?_⟩) | first | refine h0_no rfl rfl rfl rfl rfl ?_ | refine h0_un rfl rfl rfl rfl rfl ?_
            first | refine h0_yes rfl rfl rfl rfl (so_load (v := .d _) rfl rfl rfl rfl rfl rfl rfl rfl ⟨_, rfl, ?_⟩) | refine h0_yes rfl rfl rfl rfl (so_load (v := .own _ _ _ _ _) rfl rfl rfl rfl rfl rfl rfl rfl ⟨_, rfl, ?_⟩) | first | refine h0_no rfl rfl rfl rfl rfl ?_ | refine h0_un rfl rfl rfl rfl rfl ?_
            -- hand: CALL f32(t47)
            -- hand: CALL f32(t47)
            first | refine h0_no rfl rfl rfl rfl rfl ?_ | refine h0_un rfl rfl rfl rfl rfl ?_
            first | refine h0_yes rfl rfl rfl rfl (so_lenMapD rfl rfl rfl rfl rfl ⟨_, rfl, ?_⟩) | refine h0_yes rfl rfl rfl rfl (so_lenMap rfl rfl rfl rfl rfl rfl ⟨_, rfl, ?_⟩) | first | refine h0_no rfl rfl rfl rfl rfl ?_ | refine h0_un rfl rfl rfl rfl rfl ?_
            first | refine h0_yes rfl rfl rfl rfl (so_fieldAddr (v := .p _ _ _) rfl rfl rfl rfl rfl rfl rfl rfl rfl rfl ⟨_, rfl, ?_⟩) | refine h0_yes rfl rfl rfl rfl (so_fieldAddr (v := .dp _ _) rfl rfl rfl rfl rfl rfl rfl rfl rfl rfl ⟨_, rfl, ?_⟩) | refine h0_yes rfl rfl rfl rfl (so_fieldAddr (v := .pe _ _ _ _ _) rfl rfl rfl rfl rfl rfl rfl rfl rfl rfl ⟨_, rfl, ?_⟩) | first | refine h0_no rfl rfl rfl rfl rfl ?_ | refine h0_un rfl rfl rfl rfl rfl ?_
            first | refine h0_yes rfl rfl rfl rfl (so_load (v := .d _) rfl rfl rfl rfl rfl rfl rfl rfl ⟨_, rfl, ?_⟩) | refine h0_yes rfl rfl rfl rfl (so_load (v := .own _ _ _ _ _) rfl rfl rfl rfl rfl rfl rfl rfl ⟨_, rfl, ?_⟩) | first | refine h0_no rfl rfl rfl rfl rfl ?_ | refine h0_un rfl rfl rfl rfl rfl ?_
            first | refine h0_yes rfl rfl rfl rfl (so_lenSl rfl rfl rfl rfl rfl ⟨_, rfl, ?_⟩) | first | refine h0_no rfl rfl rfl rfl rfl ?_ | refine h0_un rfl rfl rfl rfl rfl ?_
            refine h0_nil ?_
            first | refine sops_yes rfl rfl rfl rfl (st_bin rfl rfl rfl rfl rfl ?_) | first | refine sops_no rfl rfl rfl rfl rfl ?_ | refine sops_un rfl rfl rfl rfl rfl ?_
            refine sops_go rfl (st_pick (v := .d _) rfl rfl rfl rfl ?_)
            refine sops_go rfl (st_move (v := .d _) rfl rfl rfl ?_)
            first | refine sops_yes rfl rfl rfl rfl (so_fieldAddr (v := .p _ _ _) rfl rfl rfl rfl rfl rfl rfl rfl rfl rfl ?_) | refine sops_yes rfl rfl rfl rfl (so_fieldAddr (v := .dp _ _) rfl rfl rfl rfl rfl rfl rfl rfl rfl rfl ?_) | refine sops_yes rfl rfl rfl rfl (so_fieldAddr (v := .pe _ _ _ _ _) rfl rfl rfl rfl rfl rfl rfl rfl rfl rfl ?_) | first | refine sops_no rfl rfl rfl rfl rfl ?_ | refine sops_un rfl rfl rfl rfl rfl ?_
            first | refine sops_yes rfl rfl rfl rfl (so_load (v := .d _) rfl rfl rfl rfl rfl rfl rfl rfl ?_) | refine sops_yes rfl rfl rfl rfl (so_load (v := .own _ _ _ _ _) rfl rfl rfl rfl rfl rfl rfl rfl ?_) | first | refine sops_no rfl rfl rfl rfl rfl ?_ | refine sops_un rfl rfl rfl rfl rfl ?_
            -- hand: CALL f33(t57, f34)
            first | refine sops_no rfl rfl rfl rfl rfl ?_ | refine sops_un rfl rfl rfl rfl rfl ?_
            refine sops_go rfl (st_pick (v := .d _) rfl rfl rfl rfl ?_)
            refine sops_nil ?_
            -- cond
            refine swp_condT rfl ?_
            refine swp_seq ?_
            refine swp_region ?_
            refine sops_go rfl (st_assign (v := .d _) rfl rfl rfl ?_)
            refine sops_nil ?_
            refine swp_ret ?_
            with_reducible refine inblk_ret ?_
            with_reducible refine after_ret ?_
            -- ret
            refine ⟨.inl rfl, .inl ⟨2, rfl, ?_⟩⟩
            rw [hform, h1]
            exact ra_d (keeps_v _)
          · have h1 : (names.length == list.length) = true := by
              have hb : (((strRows names).length : Int) != ((T.rows list).length : Int)) = false := hb45
              rw [strRows_len, T.rows_len] at hb
              simp at hb ⊢; omega
            first | refine h0_yes rfl rfl rfl rfl (so_fieldAddr (v := .p _ _ _) rfl rfl rfl rfl rfl rfl rfl rfl rfl rfl ⟨_, rfl, ?_⟩) | refine h0_yes rfl rfl rfl rfl (so_fieldAddr (v := .dp _ _) rfl rfl rfl rfl rfl rfl rfl rfl rfl rfl ⟨_, rfl, ?_⟩) | refine h0_yes rfl rfl rfl rfl (so_fieldAddr (v := .pe _ _ _ _ _) rfl rfl rfl rfl rfl rfl rfl rfl rfl rfl ⟨_, rfl, ?_⟩) | first | refine h0_no rfl rfl rfl rfl rfl ?_ | refine h0_un rfl rfl rfl rfl rfl ?_
            first | refine h0_yes rfl rfl rfl rfl (so_load (v := .d _) rfl rfl rfl rfl rfl rfl rfl rfl ⟨_, rfl, ?_⟩) | refine h0_yes rfl rfl rfl rfl (so_load (v := .own _ _ _ _ _) rfl rfl rfl rfl rfl rfl rfl rfl ⟨_, rfl, ?_⟩) | first | refine h0_no rfl rfl rfl rfl rfl ?_ | refine h0_un rfl rfl rfl rfl rfl ?_
            -- hand: CALL f32(t47)
            first | refine h0_yes rfl rfl rfl rfl (st_call rfl rfl (places_pure s names) ⟨na_d _, trivial⟩ rfl ⟨_, rfl, ?_⟩) | first | refine h0_no rfl rfl rfl rfl rfl ?_ | refine h0_un rfl rfl rfl rfl rfl ?_
            first | refine h0_yes rfl rfl rfl rfl (so_lenMapD rfl rfl rfl rfl rfl ⟨_, rfl, ?_⟩) | refine h0_yes rfl rfl rfl rfl (so_lenMap rfl rfl rfl rfl rfl rfl ⟨_, rfl, ?_⟩) | first | refine h0_no rfl rfl rfl rfl rfl ?_ | refine h0_un rfl rfl rfl rfl rfl ?_
            first | refine h0_yes rfl rfl rfl rfl (so_fieldAddr (v := .p _ _ _) rfl rfl rfl rfl rfl rfl rfl rfl rfl rfl ⟨_, rfl, ?_⟩) | refine h0_yes rfl rfl rfl rfl (so_fieldAddr (v := .dp _ _) rfl rfl rfl rfl rfl rfl rfl rfl rfl rfl ⟨_, rfl, ?_⟩) | refine h0_yes rfl rfl rfl rfl (so_fieldAddr (v := .pe _ _ _ _ _) rfl rfl rfl rfl rfl rfl rfl rfl rfl rfl ⟨_, rfl, ?_⟩) | first | refine h0_no rfl rfl rfl rfl rfl ?_ | refine h0_un rfl rfl rfl rfl rfl ?_
            first | refine h0_yes rfl rfl rfl rfl (so_load (v := .d _) rfl rfl rfl rfl rfl rfl rfl rfl ⟨_, rfl, ?_⟩) | refine h0_yes rfl rfl rfl rfl (so_load (v := .own _ _ _ _ _) rfl rfl rfl rfl rfl rfl rfl rfl ⟨_, rfl, ?_⟩) | first | refine h0_no rfl rfl rfl rfl rfl ?_ | refine h0_un rfl rfl rfl rfl rfl ?_
            first | refine h0_yes rfl rfl rfl rfl (so_lenSl rfl rfl rfl rfl rfl ⟨_, rfl, ?_⟩) | first | refine h0_no rfl rfl rfl rfl rfl ?_ | refine h0_un rfl rfl rfl rfl rfl ?_
            refine h0_nil ?_
            first | refine sops_yes rfl rfl rfl rfl (st_bin rfl rfl rfl rfl rfl ?_) | first | refine sops_no rfl rfl rfl rfl rfl ?_ | refine sops_un rfl rfl rfl rfl rfl ?_
            refine sops_go rfl (st_pick (v := .d _) rfl rfl rfl rfl ?_)
            refine sops_go rfl (st_move (v := .d _) rfl rfl rfl ?_)
            -- guard (some (17, false))
            refine sops_case 55 rfl (fun hb55 => ?_) (fun hb55 => ?_)
            · have h2 : ((placesOf names).length == names.length) = false := by
                have hb : (((encM (placesOf names)).length : Int) != ((strRows names).length : Int)) = true := hb55
                rw [strRows_len] at hb
                simp [encM] at hb ⊢; omega
              first | refine sops_yes rfl rfl rfl rfl (so_fieldAddr (v := .p _ _ _) rfl rfl rfl rfl rfl rfl rfl rfl rfl rfl ?_) | refine sops_yes rfl rfl rfl rfl (so_fieldAddr (v := .dp _ _) rfl rfl rfl rfl rfl rfl rfl rfl rfl rfl ?_) | refine sops_yes rfl rfl rfl rfl (so_fieldAddr (v := .pe _ _ _ _ _) rfl rfl rfl rfl rfl rfl rfl rfl rfl rfl ?_) | first | refine sops_no rfl rfl rfl rfl rfl ?_ | refine sops_un rfl rfl rfl rfl rfl ?_
              first | refine sops_yes rfl rfl rfl rfl (so_load (v := .d _) rfl rfl rfl rfl rfl rfl rfl rfl ?_) | refine sops_yes rfl rfl rfl rfl (so_load (v := .own _ _ _ _ _) rfl rfl rfl rfl rfl rfl rfl rfl ?_) | first | refine sops_no rfl rfl rfl rfl rfl ?_ | refine sops_un rfl rfl rfl rfl rfl ?_
              -- hand: CALL f33(t57, f34)
              -- hand: CALL f33(t57, f34)
              first | refine sops_no rfl rfl rfl rfl rfl ?_ | refine sops_un rfl rfl rfl rfl rfl ?_
              refine sops_go rfl (st_pick (v := .d _) rfl rfl rfl rfl ?_)
              refine sops_nil ?_
              -- cond
              refine swp_condT rfl ?_
              refine swp_seq ?_
              refine swp_region ?_
              refine sops_go rfl (st_assign (v := .d _) rfl rfl rfl ?_)
              refine sops_nil ?_
              refine swp_ret ?_
              with_reducible refine inblk_ret ?_
              with_reducible refine after_ret ?_
              -- ret
              refine ⟨.inl rfl, .inl ⟨2, rfl, ?_⟩⟩
              rw [hform, h1, h2]
              exact ra_d (keeps_v _)
            · have h2 : ((placesOf names).length == names.length) = true := by
                have hb : (((encM (placesOf names)).length : Int) != ((strRows names).length : Int)) = false := hb55
                rw [strRows_len] at hb
                simp [encM] at hb ⊢; omega
              first | refine sops_yes rfl rfl rfl rfl (so_fieldAddr (v := .p _ _ _) rfl rfl rfl rfl rfl rfl rfl rfl rfl rfl ?_) | refine sops_yes rfl rfl rfl rfl (so_fieldAddr (v := .dp _ _) rfl rfl rfl rfl rfl rfl rfl rfl rfl rfl ?_) | refine sops_yes rfl rfl rfl rfl (so_fieldAddr (v := .pe _ _ _ _ _) rfl rfl rfl rfl rfl rfl rfl rfl rfl rfl ?_) | first | refine sops_no rfl rfl rfl rfl rfl ?_ | refine sops_un rfl rfl rfl rfl rfl ?_
              first | refine sops_yes rfl rfl rfl rfl (so_load (v := .d _) rfl rfl rfl rfl rfl rfl rfl rfl ?_) | refine sops_yes rfl rfl rfl rfl (so_load (v := .own _ _ _ _ _) rfl rfl rfl rfl rfl rfl rfl rfl ?_) | first | refine sops_no rfl rfl rfl rfl rfl ?_ | refine sops_un rfl rfl rfl rfl rfl ?_
              -- hand: CALL f33(t57, f34)
              first | refine sops_yes rfl rfl rfl rfl (st_call rfl rfl (containsFuncS_pure s names 34 [] (fun n => !utfOk n) (fun n hn => formed1_pure n (hfit.1 n hn)) rfl) ⟨na_d _, na_free rfl, trivial⟩ rfl ?_) | first | refine sops_no rfl rfl rfl rfl rfl ?_ | refine sops_un rfl rfl rfl rfl rfl ?_
              refine sops_go rfl (st_pick (v := .d _) rfl rfl rfl rfl ?_)
              refine sops_nil ?_
              -- cond
              refine swp_cond _ rfl (fun hc => ?_) (fun hc => ?_)
              · refine swp_seq ?_
                refine swp_region ?_
                refine sops_go rfl (st_assign (v := .d _) rfl rfl rfl ?_)
                refine sops_nil ?_
                refine swp_ret ?_
                with_reducible refine inblk_ret ?_
                with_reducible refine after_ret ?_
                -- ret
                refine ⟨.inl rfl, .inl ⟨2, rfl, ?_⟩⟩
                rw [hform, h1, h2, hc]
                exact ra_d (keeps_v _)
              · refine swp_skip ?_
                -- cut
                refine ⟨(), by rw [hform, h1, h2, hc]; rfl, ?_⟩
                refine wk_of rfl (Nat.le_of_ble_eq_true rfl) (by rw [hB]; exact Nat.zero_le _) (tle_upd (le_eq rfl rfl) (tle_any _)) (hle_upd (.cells _ _ ⟨le_any _, le_any _, le_eq rfl rfl, trivial⟩) (hle_dead _)) (dead_upd (Nat.le_of_ble_eq_true rfl) (dead_none))
        · have h11 : kind ≠ 11 := by simpa using hc
          have hform : (T.mk kind names list).formed = (decide (1 ≤ kind) && decide (kind ≤ 8) && (names.length + list.length == 0)) := by
            rw [T.formed, if_neg hk, if_neg (by omega)]
          have hsum : (IntKind.i64.wrap ((names.length : Int) + (list.length : Int)) == 0) = (names.length + list.length == 0) := by
            rw [IntKind.wrap_i64, Bool.eq_iff_iff, beq_iff_eq, beq_iff_eq]; omega
          refine swp_seq ?_
          refine swp_region ?_
          first | refine sops_go rfl (so_fieldAddr (v := .p _ _ _) rfl rfl rfl rfl rfl rfl rfl rfl rfl rfl ?_) | refine sops_go rfl (so_fieldAddr (v := .dp _ _) rfl rfl rfl rfl rfl rfl rfl rfl rfl rfl ?_) | refine sops_go rfl (so_fieldAddr (v := .pe _ _ _ _ _) rfl rfl rfl rfl rfl rfl rfl rfl rfl rfl ?_)
          refine sops_go rfl (so_load (v := .d _) rfl rfl rfl rfl rfl rfl rfl rfl ?_)
          refine sops_go rfl (st_bin rfl rfl rfl rfl rfl ?_)
          refine sops_go rfl (st_move (v := .d _) rfl rfl rfl ?_)
          -- guard (some (3, true))
          refine sops_case 8 rfl (fun hb8 => ?_) (fun hb8 => ?_)
          · have h1 : decide (1 ≤ kind) = true := by simpa using hb8
            first | refine sops_yes rfl rfl rfl rfl (so_fieldAddr (v := .p _ _ _) rfl rfl rfl rfl rfl rfl rfl rfl rfl rfl ?_) | refine sops_yes rfl rfl rfl rfl (so_fieldAddr (v := .dp _ _) rfl rfl rfl rfl rfl rfl rfl rfl rfl rfl ?_) | refine sops_yes rfl rfl rfl rfl (so_fieldAddr (v := .pe _ _ _ _ _) rfl rfl rfl rfl rfl rfl rfl rfl rfl rfl ?_) | first | refine sops_no rfl rfl rfl rfl rfl ?_ | refine sops_un rfl rfl rfl rfl rfl ?_
            first | refine sops_yes rfl rfl rfl rfl (so_load (v := .d _) rfl rfl rfl rfl rfl rfl rfl rfl ?_) | first | refine sops_no rfl rfl rfl rfl rfl ?_ | refine sops_un rfl rfl rfl rfl rfl ?_
            first | refine sops_yes rfl rfl rfl rfl (st_bin rfl rfl rfl rfl rfl ?_) | first | refine sops_no rfl rfl rfl rfl rfl ?_ | refine sops_un rfl rfl rfl rfl rfl ?_
            refine sops_go rfl (st_pick (v := .d _) rfl rfl rfl rfl ?_)
            refine sops_go rfl (st_move (v := .d _) rfl rfl rfl ?_)
            -- guard (some (8, true))
            refine sops_case 13 rfl (fun hb13 => ?_) (fun hb13 => ?_)
            · have h2 : decide (kind ≤ 8) = true := by simpa using hb13
              first | refine sops_yes rfl rfl rfl rfl (so_fieldAddr (v := .p _ _ _) rfl rfl rfl rfl rfl rfl rfl rfl rfl rfl ?_) | refine sops_yes rfl rfl rfl rfl (so_fieldAddr (v := .dp _ _) rfl rfl rfl rfl rfl rfl rfl rfl rfl rfl ?_) | refine sops_yes rfl rfl rfl rfl (so_fieldAddr (v := .pe _ _ _ _ _) rfl rfl rfl rfl rfl rfl rfl rfl rfl rfl ?_) | first | refine sops_no rfl rfl rfl rfl rfl ?_ | refine sops_un rfl rfl rfl rfl rfl ?_
              first | refine sops_yes rfl rfl rfl rfl (so_load (v := .d _) rfl rfl rfl rfl rfl rfl rfl rfl ?_) | refine sops_yes rfl rfl rfl rfl (so_load (v := .own _ _ _ _ _) rfl rfl rfl rfl rfl rfl rfl rfl ?_) | first | refine sops_no rfl rfl rfl rfl rfl ?_ | refine sops_un rfl rfl rfl rfl rfl ?_
              first | refine sops_yes rfl rfl rfl rfl (so_lenSl rfl rfl rfl rfl rfl ?_) | first | refine sops_no rfl rfl rfl rfl rfl ?_ | refine sops_un rfl rfl rfl rfl rfl ?_
              first | refine sops_yes rfl rfl rfl rfl (so_fieldAddr (v := .p _ _ _) rfl rfl rfl rfl rfl rfl rfl rfl rfl rfl ?_) | refine sops_yes rfl rfl rfl rfl (so_fieldAddr (v := .dp _ _) rfl rfl rfl rfl rfl rfl rfl rfl rfl rfl ?_) | refine sops_yes rfl rfl rfl rfl (so_fieldAddr (v := .pe _ _ _ _ _) rfl rfl rfl rfl rfl rfl rfl rfl rfl rfl ?_) | first | refine sops_no rfl rfl rfl rfl rfl ?_ | refine sops_un rfl rfl rfl rfl rfl ?_
              first | refine sops_yes rfl rfl rfl rfl (so_load (v := .d _) rfl rfl rfl rfl rfl rfl rfl rfl ?_) | refine sops_yes rfl rfl rfl rfl (so_load (v := .own _ _ _ _ _) rfl rfl rfl rfl rfl rfl rfl rfl ?_) | first | refine sops_no rfl rfl rfl rfl rfl ?_ | refine sops_un rfl rfl rfl rfl rfl ?_
              first | refine sops_yes rfl rfl rfl rfl (so_lenSl rfl rfl rfl rfl rfl ?_) | first | refine sops_no rfl rfl rfl rfl rfl ?_ | refine sops_un rfl rfl rfl rfl rfl ?_
              first | refine sops_yes rfl rfl rfl rfl (st_bin rfl rfl rfl rfl rfl ?_) | first | refine sops_no rfl rfl rfl rfl rfl ?_ | refine sops_un rfl rfl rfl rfl rfl ?_
              first | refine sops_yes rfl rfl rfl rfl (st_bin rfl rfl rfl rfl rfl ?_) | first | refine sops_no rfl rfl rfl rfl rfl ?_ | refine sops_un rfl rfl rfl rfl rfl ?_
              refine sops_go rfl (st_pick (v := .d _) rfl rfl rfl rfl ?_)
              refine sops_go rfl (st_assign (v := .d _) rfl rfl rfl ?_)
              refine sops_nil ?_
              refine swp_ret ?_
              with_reducible refine inblk_ret ?_
              with_reducible refine after_ret ?_
              -- ret
              -- end
              refine ⟨.inl rfl, .inl ⟨2, rfl, ?_⟩⟩
              rw [hform, h1, h2, ← hsum, ← strRows_len names, ← T.rows_len list]
              exact ra_d (keeps_v _)
            · have h2 : decide (kind ≤ 8) = false := by simpa using hb13
              first | refine sops_yes rfl rfl rfl rfl (so_fieldAddr (v := .p _ _ _) rfl rfl rfl rfl rfl rfl rfl rfl rfl rfl ?_) | refine sops_yes rfl rfl rfl rfl (so_fieldAddr (v := .dp _ _) rfl rfl rfl rfl rfl rfl rfl rfl rfl rfl ?_) | refine sops_yes rfl rfl rfl rfl (so_fieldAddr (v := .pe _ _ _ _ _) rfl rfl rfl rfl rfl rfl rfl rfl rfl rfl ?_) | first | refine sops_no rfl rfl rfl rfl rfl ?_ | refine sops_un rfl rfl rfl rfl rfl ?_
              first | refine sops_yes rfl rfl rfl rfl (so_load (v := .d _) rfl rfl rfl rfl rfl rfl rfl rfl ?_) | refine sops_yes rfl rfl rfl rfl (so_load (v := .own _ _ _ _ _) rfl rfl rfl rfl rfl rfl rfl rfl ?_) | first | refine sops_no rfl rfl rfl rfl rfl ?_ | refine sops_un rfl rfl rfl rfl rfl ?_
              first | refine sops_yes rfl rfl rfl rfl (so_lenSl rfl rfl rfl rfl rfl ?_) | first | refine sops_no rfl rfl rfl rfl rfl ?_ | refine sops_un rfl rfl rfl rfl rfl ?_
              first | refine sops_yes rfl rfl rfl rfl (so_fieldAddr (v := .p _ _ _) rfl rfl rfl rfl rfl rfl rfl rfl rfl rfl ?_) | refine sops_yes rfl rfl rfl rfl (so_fieldAddr (v := .dp _ _) rfl rfl rfl rfl rfl rfl rfl rfl rfl rfl ?_) | refine sops_yes rfl rfl rfl rfl (so_fieldAddr (v := .pe _ _ _ _ _) rfl rfl rfl rfl rfl rfl rfl rfl rfl rfl ?_) | first | refine sops_no rfl rfl rfl rfl rfl ?_ | refine sops_un rfl rfl rfl rfl rfl ?_
              first | refine sops_yes rfl rfl rfl rfl (so_load (v := .d _) rfl rfl rfl rfl rfl rfl rfl rfl ?_) | refine sops_yes rfl rfl rfl rfl (so_load (v := .own _ _ _ _ _) rfl rfl rfl rfl rfl rfl rfl rfl ?_) | first | refine sops_no rfl rfl rfl rfl rfl ?_ | refine sops_un rfl rfl rfl rfl rfl ?_
              first | refine sops_yes rfl rfl rfl rfl (so_lenSl rfl rfl rfl rfl rfl ?_) | first | refine sops_no rfl rfl rfl rfl rfl ?_ | refine sops_un rfl rfl rfl rfl rfl ?_
              first | refine sops_yes rfl rfl rfl rfl (st_bin rfl rfl rfl rfl rfl ?_) | first | refine sops_no rfl rfl rfl rfl rfl ?_ | refine sops_un rfl rfl rfl rfl rfl ?_
              first | refine sops_yes rfl rfl rfl rfl (st_bin rfl rfl rfl rfl rfl ?_) | first | refine sops_no rfl rfl rfl rfl rfl ?_ | refine sops_un rfl rfl rfl rfl rfl ?_
              refine sops_go rfl (st_pick (v := .d _) rfl rfl rfl rfl ?_)
              refine sops_go rfl (st_assign (v := .d _) rfl rfl rfl ?_)
              refine sops_nil ?_
              refine swp_ret ?_
              with_reducible refine inblk_ret ?_
              with_reducible refine after_ret ?_
              -- ret
              -- end
              refine ⟨.inl rfl, .inl ⟨2, rfl, ?_⟩⟩
              rw [hform, h1, h2]
              exact ra_d (keeps_v _)
          · have h1 : decide (1 ≤ kind) = false := by simpa using hb8
            first | refine sops_yes rfl rfl rfl rfl (so_fieldAddr (v := .p _ _ _) rfl rfl rfl rfl rfl rfl rfl rfl rfl rfl ?_) | refine sops_yes rfl rfl rfl rfl (so_fieldAddr (v := .dp _ _) rfl rfl rfl rfl rfl rfl rfl rfl rfl rfl ?_) | refine sops_yes rfl rfl rfl rfl (so_fieldAddr (v := .pe _ _ _ _ _) rfl rfl rfl rfl rfl rfl rfl rfl rfl rfl ?_) | first | refine sops_no rfl rfl rfl rfl rfl ?_ | refine sops_un rfl rfl rfl rfl rfl ?_
            first | refine sops_yes rfl rfl rfl rfl (so_load (v := .d _) rfl rfl rfl rfl rfl rfl rfl rfl ?_) | first | refine sops_no rfl rfl rfl rfl rfl ?_ | refine sops_un rfl rfl rfl rfl rfl ?_
            first | refine sops_yes rfl rfl rfl rfl (st_bin rfl rfl rfl rfl rfl ?_) | first | refine sops_no rfl rfl rfl rfl rfl ?_ | refine sops_un rfl rfl rfl rfl rfl ?_
            refine sops_go rfl (st_pick (v := .d _) rfl rfl rfl rfl ?_)
            refine sops_go rfl (st_move (v := .d _) rfl rfl rfl ?_)
            -- guard (some (8, true))
            first | refine sops_yes rfl rfl rfl rfl (so_fieldAddr (v := .p _ _ _) rfl rfl rfl rfl rfl rfl rfl rfl rfl rfl ?_) | refine sops_yes rfl rfl rfl rfl (so_fieldAddr (v := .dp _ _) rfl rfl rfl rfl rfl rfl rfl rfl rfl rfl ?_) | refine sops_yes rfl rfl rfl rfl (so_fieldAddr (v := .pe _ _ _ _ _) rfl rfl rfl rfl rfl rfl rfl rfl rfl rfl ?_) | first | refine sops_no rfl rfl rfl rfl rfl ?_ | refine sops_un rfl rfl rfl rfl rfl ?_
            first | refine sops_yes rfl rfl rfl rfl (so_load (v := .d _) rfl rfl rfl rfl rfl rfl rfl rfl ?_) | refine sops_yes rfl rfl rfl rfl (so_load (v := .own _ _ _ _ _) rfl rfl rfl rfl rfl rfl rfl rfl ?_) | first | refine sops_no rfl rfl rfl rfl rfl ?_ | refine sops_un rfl rfl rfl rfl rfl ?_
            first | refine sops_yes rfl rfl rfl rfl (so_lenSl rfl rfl rfl rfl rfl ?_) | first | refine sops_no rfl rfl rfl rfl rfl ?_ | refine sops_un rfl rfl rfl rfl rfl ?_
            first | refine sops_yes rfl rfl rfl rfl (so_fieldAddr (v := .p _ _ _) rfl rfl rfl rfl rfl rfl rfl rfl rfl rfl ?_) | refine sops_yes rfl rfl rfl rfl (so_fieldAddr (v := .dp _ _) rfl rfl rfl rfl rfl rfl rfl rfl rfl rfl ?_) | refine sops_yes rfl rfl rfl rfl (so_fieldAddr (v := .pe _ _ _ _ _) rfl rfl rfl rfl rfl rfl rfl rfl rfl rfl ?_) | first | refine sops_no rfl rfl rfl rfl rfl ?_ | refine sops_un rfl rfl rfl rfl rfl ?_
            first | refine sops_yes rfl rfl rfl rfl (so_load (v := .d _) rfl rfl rfl rfl rfl rfl rfl rfl ?_) | refine sops_yes rfl rfl rfl rfl (so_load (v := .own _ _ _ _ _) rfl rfl rfl rfl rfl rfl rfl rfl ?_) | first | refine sops_no rfl rfl rfl rfl rfl ?_ | refine sops_un rfl rfl rfl rfl rfl ?_
            first | refine sops_yes rfl rfl rfl rfl (so_lenSl rfl rfl rfl rfl rfl ?_) | first | refine sops_no rfl rfl rfl rfl rfl ?_ | refine sops_un rfl rfl rfl rfl rfl ?_
            first | refine sops_yes rfl rfl rfl rfl (st_bin rfl rfl rfl rfl rfl ?_) | first | refine sops_no rfl rfl rfl rfl rfl ?_ | refine sops_un rfl rfl rfl rfl rfl ?_
            first | refine sops_yes rfl rfl rfl rfl (st_bin rfl rfl rfl rfl rfl ?_) | first | refine sops_no rfl rfl rfl rfl rfl ?_ | refine sops_un rfl rfl rfl rfl rfl ?_
            refine sops_go rfl (st_pick (v := .d _) rfl rfl rfl rfl ?_)
            refine sops_go rfl (st_assign (v := .d _) rfl rfl rfl ?_)
            refine sops_nil ?_
            refine swp_ret ?_
            with_reducible refine inblk_ret ?_
            with_reducible refine after_ret ?_
            -- ret
            refine ⟨.inl rfl, .inl ⟨2, rfl, ?_⟩⟩
            rw [hform, h1]
            exact ra_d (keeps_v _)
  rintro ⟨⟩ hP
  refine swp_seq ?_
  refine swp_region ?_
  first | refine sops_go rfl (so_fieldAddr (v := .p _ _ _) rfl rfl rfl rfl rfl rfl rfl rfl rfl rfl ?_) | refine sops_go rfl (so_fieldAddr (v := .dp _ _) rfl rfl rfl rfl rfl rfl rfl rfl rfl rfl ?_) | refine sops_go rfl (so_fieldAddr (v := .pe _ _ _ _ _) rfl rfl rfl rfl rfl rfl rfl rfl rfl rfl ?_)
  first | refine sops_go rfl (so_load (v := .d _) rfl rfl rfl rfl rfl rfl rfl rfl ?_) | refine sops_go rfl (so_load (v := .own _ _ _ _ _) rfl rfl rfl rfl rfl rfl rfl rfl ?_)
  -- hand: CALL f36(t61, f37)
  refine sops_go rfl (st_call rfl rfl (containsFuncT_pure s list 37 [] (fun x => !x.formed) (fun x hx => formed2_pure x (by rw [T.df_d]; exact ih x hx ((T.fitL_iff list).1 hfit.2 x hx) true)) rfl) ⟨na_d _, na_free rfl, trivial⟩ rfl ?_)
  refine sops_go rfl (st_not rfl rfl rfl ?_)
  refine sops_go rfl (st_assign (v := .d _) rfl rfl rfl ?_)
  refine sops_nil ?_
  refine swp_ret ?_
  -- ret
  refine ⟨.inl rfl, .inl ⟨2, rfl, ?_⟩⟩
  rw [hP, T.formedL_any]
  exact ra_d (keeps_v _)
end Go.Proofs.YtdcpnpcmgfmenaaGreatDoor
/-
  Walks: how deep and how big a type is. Conditions: none.
-/
set_option linter.unusedVariables false
set_option maxRecDepth 100000
namespace Go.Proofs.YtdcpnpcmgfmenaaGreatDoor
open Go Go.Proofs.YtdcpnpcmgfmenaaGreatDoor.Lg

theorem span1_pure (s : ByteArray) : Pure env 38 [.d (.v (.string s))] (.d (.v (.bool (decide ((s.size : Int) > 64))))) := by
  refine pure_of_body Tryz.func38 rfl rfl rfl fun B hB => ?_
  refine swp_seq ?_
  refine swp_region ?_
  refine sops_go rfl (st_assign (v := .d _) rfl rfl rfl ?_)
  refine sops_nil ?_
  refine swp_seq ?_
  refine swp_region ?_
  refine sops_go rfl (st_move (v := .d _) rfl rfl rfl ?_)
  refine sops_go rfl (so_lenStr rfl rfl rfl rfl rfl ?_)
  refine sops_go rfl (st_bin rfl rfl rfl rfl rfl ?_)
  refine sops_go rfl (st_assign (v := .d _) rfl rfl rfl ?_)
  refine sops_nil ?_
  refine swp_ret ?_
  -- ret
  exact ⟨.inl rfl, .inl ⟨2, rfl, ra_d (keeps_v _)⟩⟩

structure Sp where
  deep : Int
  many : Int
  ok : Bool
def Sp.add (a x : Sp) : Sp := ⟨max a.deep x.deep, IntKind.i64.wrap (a.many + x.many), a.ok && x.ok⟩
def shortRows (names : List ByteArray) (n : Nat) : Bool := decide ((n : Int) ≤ 256) && !(names.any fun s => decide ((s.size : Int) > 64))
mutual
def T.span : T → Sp
  | .mk _ names list => let r := T.spanF list ⟨0, 1, shortRows names list.length⟩; ⟨IntKind.i64.wrap (r.deep + 1), r.many, r.ok⟩
def T.spanF : List T → Sp → Sp
  | [], a => a
  | x :: r, a => T.spanF r (a.add x.span)
end
theorem T.spanF_take : ∀ (l : List T) (a : Sp) (k : Nat) (h : k < l.length), T.spanF (l.take (k + 1)) a = (T.spanF (l.take k) a).add l[k].span
  | x :: r, a, 0, _ => by simp [T.spanF]
  | x :: r, a, k + 1, h => by
    simp only [List.take_succ_cons, T.spanF, List.getElem_cons_succ]
    exact T.spanF_take r _ k (by simpa using h)

theorem span_pure (t : T) : ∀ s, Pure env 19 [.d (t.df s)] (.tup [.d (.v (.int .i64 t.span.deep)), .d (.v (.int .i64 t.span.many)), .d (.v (.bool t.span.ok))]) := by
  revert t
  apply T.ind
  intro kind names list ih s
  refine pure_of_body Tryz.func19 rfl rfl rfl fun B hB => ?_
  refine swp_seq ?_
  refine swp_region ?_
  refine sops_go rfl (so_box (cs := [_, _, _]) rfl rfl rfl ?_)
  refine sops_go rfl (st_assign (v := .d _) rfl rfl rfl ?_)
  refine sops_go rfl (st_assign (v := .d _) rfl rfl rfl ?_)
  refine sops_go rfl (st_assign (v := .d _) rfl rfl rfl ?_)
  refine sops_nil ?_
  -- stop
  refine swp_len (l := 0) (i := 2) rfl rfl rfl fun hll => ?_
  rw [T.rows_len] at hll
  refine swp_seqF (F := fun _ : Unit => ({ t := upd (upd (upd (fun _ => .any) 1 (.p 0 0 0)) 2 (.d (.v (.int .i64 0)))) 4 (.d (.v (.bool (shortRows names list.length)))), n := 48, h := upd (fun _ => .dead) 0 (.cells [.any, .any, .d (.sl s (T.rows list))]), nx := 1 } : St)) (P := fun _ => True) ?_ ?_
  · refine swp_region ?_
    first | refine sops_go rfl (so_fieldAddr (v := .p _ _ _) rfl rfl rfl rfl rfl rfl rfl rfl rfl rfl ?_) | refine sops_go rfl (so_fieldAddr (v := .dp _ _) rfl rfl rfl rfl rfl rfl rfl rfl rfl rfl ?_) | refine sops_go rfl (so_fieldAddr (v := .pe _ _ _ _ _) rfl rfl rfl rfl rfl rfl rfl rfl rfl rfl ?_)
    first | refine sops_go rfl (so_load (v := .d _) rfl rfl rfl rfl rfl rfl rfl rfl ?_) | refine sops_go rfl (so_load (v := .own _ _ _ _ _) rfl rfl rfl rfl rfl rfl rfl rfl ?_)
    refine sops_go rfl (so_lenSl rfl rfl rfl rfl rfl ?_)
    refine sops_go rfl (st_bin rfl rfl rfl rfl rfl ?_)
    refine sops_go rfl (st_move (v := .d _) rfl rfl rfl ?_)
    -- guard (some (4, true))
    refine sops_case 14 rfl (fun hb14 => ?_) (fun hb14 => ?_)
    · first | refine sops_yes rfl rfl rfl rfl (so_fieldAddr (v := .p _ _ _) rfl rfl rfl rfl rfl rfl rfl rfl rfl rfl ?_) | refine sops_yes rfl rfl rfl rfl (so_fieldAddr (v := .dp _ _) rfl rfl rfl rfl rfl rfl rfl rfl rfl rfl ?_) | refine sops_yes rfl rfl rfl rfl (so_fieldAddr (v := .pe _ _ _ _ _) rfl rfl rfl rfl rfl rfl rfl rfl rfl rfl ?_) | first | refine sops_no rfl rfl rfl rfl rfl ?_ | refine sops_un rfl rfl rfl rfl rfl ?_
      first | refine sops_yes rfl rfl rfl rfl (so_load (v := .d _) rfl rfl rfl rfl rfl rfl rfl rfl ?_) | refine sops_yes rfl rfl rfl rfl (so_load (v := .own _ _ _ _ _) rfl rfl rfl rfl rfl rfl rfl rfl ?_) | first | refine sops_no rfl rfl rfl rfl rfl ?_ | refine sops_un rfl rfl rfl rfl rfl ?_
      -- hand: CALL f33(t16, f38)
      first | refine sops_yes rfl rfl rfl rfl (st_call rfl rfl (containsFuncS_pure s names 38 [] (fun x => decide ((x.size : Int) > 64)) (fun x hx => span1_pure x) rfl) ⟨na_d _, na_free rfl, trivial⟩ rfl ?_) | first | refine sops_no rfl rfl rfl rfl rfl ?_ | refine sops_un rfl rfl rfl rfl rfl ?_
      first | refine sops_yes rfl rfl rfl rfl (st_not rfl rfl rfl ?_) | first | refine sops_no rfl rfl rfl rfl rfl ?_ | refine sops_un rfl rfl rfl rfl rfl ?_
      refine sops_go rfl (st_pick (v := .d _) rfl rfl rfl rfl ?_)
      refine sops_go rfl (st_assign (v := .d _) rfl rfl rfl ?_)
      refine sops_nil ?_
      -- cut
      have e : shortRows names list.length = !(names.any fun x => decide ((x.size : Int) > 64)) := by
        have h : decide (((T.rows list).length : Int) ≤ 256) = true := hb14
        rw [T.rows_len] at h
        unfold shortRows; rw [h]; rfl
      refine ⟨(), trivial, ?_⟩
      rw [e]
      refine wk_of rfl (Nat.le_of_ble_eq_true rfl) (by rw [hB]; exact Nat.zero_le _) (tle_upd (le_eq rfl rfl) (tle_upd (le_eq rfl rfl) (tle_upd (le_eq rfl rfl) (tle_any _)))) (hle_upd (.cells _ _ ⟨le_any _, le_any _, le_eq rfl rfl, trivial⟩) (hle_dead _)) (dead_upd (Nat.le_of_ble_eq_true rfl) (dead_none))
    · first | refine sops_yes rfl rfl rfl rfl (so_fieldAddr (v := .p _ _ _) rfl rfl rfl rfl rfl rfl rfl rfl rfl rfl ?_) | refine sops_yes rfl rfl rfl rfl (so_fieldAddr (v := .dp _ _) rfl rfl rfl rfl rfl rfl rfl rfl rfl rfl ?_) | refine sops_yes rfl rfl rfl rfl (so_fieldAddr (v := .pe _ _ _ _ _) rfl rfl rfl rfl rfl rfl rfl rfl rfl rfl ?_) | first | refine sops_no rfl rfl rfl rfl rfl ?_ | refine sops_un rfl rfl rfl rfl rfl ?_
      first | refine sops_yes rfl rfl rfl rfl (so_load (v := .d _) rfl rfl rfl rfl rfl rfl rfl rfl ?_) | refine sops_yes rfl rfl rfl rfl (so_load (v := .own _ _ _ _ _) rfl rfl rfl rfl rfl rfl rfl rfl ?_) | first | refine sops_no rfl rfl rfl rfl rfl ?_ | refine sops_un rfl rfl rfl rfl rfl ?_
      -- hand: CALL f33(t16, f38)
      first | refine sops_yes rfl rfl rfl rfl (st_call rfl rfl (containsFuncS_pure s names 38 [] (fun x => decide ((x.size : Int) > 64)) (fun x hx => span1_pure x) rfl) ⟨na_d _, na_free rfl, trivial⟩ rfl ?_) | first | refine sops_no rfl rfl rfl rfl rfl ?_ | refine sops_un rfl rfl rfl rfl rfl ?_
      first | refine sops_yes rfl rfl rfl rfl (st_not rfl rfl rfl ?_) | first | refine sops_no rfl rfl rfl rfl rfl ?_ | refine sops_un rfl rfl rfl rfl rfl ?_
      refine sops_go rfl (st_pick (v := .d _) rfl rfl rfl rfl ?_)
      refine sops_go rfl (st_assign (v := .d _) rfl rfl rfl ?_)
      refine sops_nil ?_
      -- cut
      have e : shortRows names list.length = false := by
        have h : decide (((T.rows list).length : Int) ≤ 256) = false := hb14
        rw [T.rows_len] at h
        unfold shortRows; rw [h]; rfl
      refine ⟨(), trivial, ?_⟩
      rw [e]
      refine wk_of rfl (Nat.le_of_ble_eq_true rfl) (by rw [hB]; exact Nat.zero_le _) (tle_upd (le_eq rfl rfl) (tle_upd (le_eq rfl rfl) (tle_upd (le_eq rfl rfl) (tle_any _)))) (hle_upd (.cells _ _ ⟨le_any _, le_any _, le_eq rfl rfl, trivial⟩) (hle_dead _)) (dead_upd (Nat.le_of_ble_eq_true rfl) (dead_none))
  rintro ⟨⟩ -
  refine swp_seq ?_
  refine swp_region ?_
  refine sops_go rfl (st_assign (v := .d _) rfl rfl rfl ?_)
  refine sops_nil ?_
  refine swp_seq ?_
  refine swp_seq ?_
  refine swp_region ?_
  first | refine sops_go rfl (so_fieldAddr (v := .p _ _ _) rfl rfl rfl rfl rfl rfl rfl rfl rfl rfl ?_) | refine sops_go rfl (so_fieldAddr (v := .dp _ _) rfl rfl rfl rfl rfl rfl rfl rfl rfl rfl ?_) | refine sops_go rfl (so_fieldAddr (v := .pe _ _ _ _ _) rfl rfl rfl rfl rfl rfl rfl rfl rfl rfl ?_)
  first | refine sops_go rfl (so_load (v := .d _) rfl rfl rfl rfl rfl rfl rfl rfl ?_) | refine sops_go rfl (so_load (v := .own _ _ _ _ _) rfl rfl rfl rfl rfl rfl rfl rfl ?_)
  refine sops_go rfl (so_lenSl rfl rfl rfl rfl rfl ?_)
  refine sops_go rfl (st_move (v := .d _) rfl rfl rfl ?_)
  refine sops_nil ?_
  refine swp_block ?_
  -- loop
  let a : Nat → Sp := fun k => T.spanF (list.take k) ⟨0, 1, shortRows names list.length⟩
  refine swp_loopF (F := fun k : Nat => { t := upd (upd (upd (upd (upd (upd (fun _ => .any) 2 (.d (.v (.int .i64 (a k).deep)))) 3 (.d (.v (.int .i64 (a k).many)))) 4 (.d (.v (.bool (a k).ok)))) 21 (.d (.sl s (T.rows list)))) 22 (.d (.v (.int .i64 list.length)))) 23 (.d (.v (.int .i64 k))), n := 48, h := fun _ => .dead, nx := 0 })
    (fun k => k ≤ list.length) (fun k => list.length - k) 0 (Nat.zero_le _) ?_ ?_
  · refine wk_of rfl (Nat.le_of_ble_eq_true rfl) (by rw [hB]; exact Nat.zero_le _) (tle_upd (le_eq rfl rfl) (tle_upd (le_eq (int_eq (by rw [T.rows_len])) rfl) (tle_upd (le_eq rfl rfl) (tle_upd (le_eq rfl rfl) (tle_upd (le_eq rfl rfl) (tle_upd (le_eq rfl rfl) (tle_any _))))))) (hle_dead _) (dead_none)
  intro k hk
  refine swp_seq ?_
  refine swp_region ?_
  refine sops_go rfl (st_bin rfl rfl rfl rfl rfl ?_)
  refine sops_nil ?_
  refine swp_seq ?_
  -- cond
  refine swp_cond _ rfl (fun hc => ?_) (fun hc => ?_)
  · have hlt : k < list.length := by have := of_decide_eq_true hc; omega
    refine swp_skip ?_
    refine swp_seq ?_
    refine swp_block ?_
    refine swp_seq ?_
    refine swp_region ?_
    -- hand: indexAddr 24 t21 t23
    refine sops_go rfl (so_indexSl rfl rfl rfl rfl rfl rfl rfl (T.rows_all _) (by omega) (by rw [T.rows_len]; omega) (T.rows_get _ _ hlt) ?_)
    have ihk := ih _ (List.getElem_mem hlt) true
    have hak := T.spanF_take list ⟨0, 1, shortRows names list.length⟩ k hlt
    generalize list[k] = x at ihk hak ⊢
    obtain ⟨a1, a2, a3⟩ := x
    first | refine sops_go rfl (so_load (v := .d (.agg [_, _, _])) rfl rfl rfl rfl rfl rfl rfl rfl ?_) | refine sops_go rfl (so_load (v := .agg [_, _, _]) rfl rfl rfl rfl rfl rfl rfl rfl ?_)
    refine sops_go rfl (so_alloc (cs := [_, _, _]) rfl rfl rfl rfl ?_)
    refine sops_go rfl (so_store rfl rfl rfl rfl rfl rfl rfl rfl rfl (zs := [_, _, _]) rfl ?_)
    refine sops_nil ?_
    refine swp_seq ?_
    refine swp_region ?_
    first | refine sops_go rfl (so_load (v := .d (.agg [_, _, _])) rfl rfl rfl rfl rfl rfl rfl rfl ?_) | refine sops_go rfl (so_load (v := .agg [_, _, _]) rfl rfl rfl rfl rfl rfl rfl rfl ?_)
    -- hand: CALL f19(t28)
    refine sops_go rfl (st_call rfl rfl (ihk) ⟨na_d _, trivial⟩ rfl ?_)
    refine sops_go rfl (st_move (v := .tup _) rfl rfl rfl ?_)
    refine sops_go rfl (st_extract (c := .d _) rfl rfl rfl rfl ?_)
    refine sops_go rfl (st_extract (c := .d _) rfl rfl rfl rfl ?_)
    refine sops_go rfl (st_extract (c := .d _) rfl rfl rfl rfl ?_)
    refine sops_go rfl (st_assign (v := .d _) rfl rfl rfl ?_)
    refine sops_go rfl (st_assign (v := .d _) rfl rfl rfl ?_)
    refine sops_go rfl (st_assign (v := .d _) rfl rfl rfl ?_)
    refine sops_nil ?_
    refine swp_region ?_
    refine sops_go rfl (st_move (v := .d _) rfl rfl rfl ?_)
    refine sops_go rfl (st_move (v := .d _) rfl rfl rfl ?_)
    refine sops_go rfl (so_max rfl rfl rfl rfl rfl ?_)
    refine sops_go rfl (st_move (v := .d _) rfl rfl rfl ?_)
    refine sops_go rfl (st_move (v := .d _) rfl rfl rfl ?_)
    refine sops_go rfl (st_bin rfl rfl rfl rfl rfl ?_)
    refine sops_go rfl (st_move (v := .d _) rfl rfl rfl ?_)
    refine sops_go rfl (st_move (v := .d _) rfl rfl rfl ?_)
    -- guard (some (7, true))
    refine sops_case 40 rfl (fun hb40 => ?_) (fun hb40 => ?_)
    · first | refine sops_yes rfl rfl rfl rfl (st_move (v := .d _) rfl rfl rfl ?_) | first | refine sops_no rfl rfl rfl rfl rfl ?_ | refine sops_un rfl rfl rfl rfl rfl ?_
      refine sops_go rfl (st_pick (v := .d _) rfl rfl rfl rfl ?_)
      refine sops_go rfl (st_assign (v := .d _) rfl rfl rfl ?_)
      refine sops_go rfl (st_assign (v := .d _) rfl rfl rfl ?_)
      refine sops_go rfl (st_assign (v := .d _) rfl rfl rfl ?_)
      refine sops_nil ?_
      refine swp_region ?_
      refine sops_go rfl (st_bin rfl rfl rfl rfl rfl ?_)
      refine sops_go rfl (st_move (v := .d _) rfl rfl rfl ?_)
      refine sops_nil ?_
      -- loopend
      have e : a (k + 1) = ⟨max (a k).deep (T.mk a1 a2 a3).span.deep, IntKind.i64.wrap ((a k).many + (T.mk a1 a2 a3).span.many), (T.mk a1 a2 a3).span.ok⟩ := by
        show T.spanF (list.take (k + 1)) _ = _
        rw [hak]; unfold Sp.add
        have h : (T.spanF (list.take k) ⟨0, 1, shortRows names list.length⟩).ok = true := hb40
        rw [h]; rfl
      refine ⟨k + 1, hlt, by omega, ?_⟩
      simp only [e]
      refine wk_of rfl (Nat.le_of_ble_eq_true rfl) (by rw [hB]; exact Nat.zero_le _) (tle_upd (le_eq (next_i64 hlt hll) rfl) (tle_upd (le_eq rfl rfl) (tle_upd (le_eq rfl rfl) (tle_upd (le_eq rfl rfl) (tle_upd (le_eq rfl rfl) (tle_upd (le_eq rfl rfl) (tle_any _))))))) (hle_dead _) (dead_none)
    · first | refine sops_yes rfl rfl rfl rfl (st_move (v := .d _) rfl rfl rfl ?_) | first | refine sops_no rfl rfl rfl rfl rfl ?_ | refine sops_un rfl rfl rfl rfl rfl ?_
      refine sops_go rfl (st_pick (v := .d _) rfl rfl rfl rfl ?_)
      refine sops_go rfl (st_assign (v := .d _) rfl rfl rfl ?_)
      refine sops_go rfl (st_assign (v := .d _) rfl rfl rfl ?_)
      refine sops_go rfl (st_assign (v := .d _) rfl rfl rfl ?_)
      refine sops_nil ?_
      refine swp_region ?_
      refine sops_go rfl (st_bin rfl rfl rfl rfl rfl ?_)
      refine sops_go rfl (st_move (v := .d _) rfl rfl rfl ?_)
      refine sops_nil ?_
      -- loopend
      -- loopend
      have e : a (k + 1) = ⟨max (a k).deep (T.mk a1 a2 a3).span.deep, IntKind.i64.wrap ((a k).many + (T.mk a1 a2 a3).span.many), false⟩ := by
        show T.spanF (list.take (k + 1)) _ = _
        rw [hak]; unfold Sp.add
        have h : (T.spanF (list.take k) ⟨0, 1, shortRows names list.length⟩).ok = false := hb40
        rw [h]; rfl
      refine ⟨k + 1, hlt, by omega, ?_⟩
      simp only [e]
      refine wk_of rfl (Nat.le_of_ble_eq_true rfl) (by rw [hB]; exact Nat.zero_le _) (tle_upd (le_eq (next_i64 hlt hll) rfl) (tle_upd (le_eq rfl rfl) (tle_upd (le_eq rfl rfl) (tle_upd (le_eq rfl rfl) (tle_upd (le_eq rfl rfl) (tle_upd (le_eq rfl rfl) (tle_any _))))))) (hle_dead _) (dead_none)
  · refine swp_exit ?_
    with_reducible refine after_exit ?_
    with_reducible refine after_exit ?_
    refine inblk_hit ?_
    refine swp_seq ?_
    refine swp_region ?_
    refine sops_go rfl (st_move (v := .d _) rfl rfl rfl ?_)
    refine sops_go rfl (st_bin rfl rfl rfl rfl rfl ?_)
    refine sops_go rfl (st_move (v := .d _) rfl rfl rfl ?_)
    refine sops_go rfl (st_move (v := .d _) rfl rfl rfl ?_)
    refine sops_go rfl (st_assign (v := .d _) rfl rfl rfl ?_)
    refine sops_go rfl (st_assign (v := .d _) rfl rfl rfl ?_)
    refine sops_go rfl (st_assign (v := .d _) rfl rfl rfl ?_)
    refine sops_nil ?_
    refine swp_ret ?_
    -- ret
    have : k = list.length := by have := of_decide_eq_false hc; omega
    have e : T.spanF list ⟨0, 1, shortRows names list.length⟩ = a k := by show _ = T.spanF (list.take k) _; rw [this, List.take_length]
    refine ⟨.inl rfl, .inr (.inr (.inl ⟨2, 3, 4, _, _, _, rfl, rfl, ?_, ?_, ?_⟩))⟩
    · simp only [T.span, e]; exact ra_d (keeps_v _)
    · simp only [T.span, e]; exact ra_d (keeps_v _)
    · simp only [T.span, e]; exact ra_d (keeps_v _)
end Go.Proofs.YtdcpnpcmgfmenaaGreatDoor
/-
  Walks: types checked. Conditions: none.
-/
set_option linter.unusedVariables false
set_option maxRecDepth 100000
namespace Go.Proofs.YtdcpnpcmgfmenaaGreatDoor
open Go Go.Proofs.YtdcpnpcmgfmenaaGreatDoor.Lg

def T.long (t : T) : Bool := !t.span.ok || (decide (t.span.deep > 16) || decide (t.span.many > 4096))
def T.check (t : T) : Int := if t.formed = true then (if t.long = true then 2 else 0) else 110

theorem checkT_pure (t : T) (hf : t.fit) (s : Bool) : Pure env 8 [.d (t.df s)] (.d (.v (.int .i64 t.check))) := by
  have hform := formed_pure t hf s
  have hspan := span_pure t s
  obtain ⟨kind, names, list⟩ := t
  refine pure_of_body Tryz.func8 rfl rfl rfl fun B hB => ?_
  refine swp_seq ?_
  refine swp_region ?_
  refine sops_go rfl (so_box (cs := [_, _, _]) rfl rfl rfl ?_)
  refine sops_go rfl (st_assign (v := .d _) rfl rfl rfl ?_)
  refine sops_nil ?_
  refine swp_seq ?_
  refine swp_seq ?_
  refine swp_region ?_
  first | refine sops_go rfl (so_load (v := .d (.agg [_, _, _])) rfl rfl rfl rfl rfl rfl rfl rfl ?_) | refine sops_go rfl (so_load (v := .agg [_, _, _]) rfl rfl rfl rfl rfl rfl rfl rfl ?_)
  -- hand: CALL f18(t6)
  refine sops_go rfl (st_call rfl rfl (hform) ⟨na_d _, trivial⟩ rfl ?_)
  refine sops_go rfl (st_not rfl rfl rfl ?_)
  refine sops_nil ?_
  -- cond
  refine swp_cond _ rfl (fun hc => ?_) (fun hc => ?_)
  · refine swp_seq ?_
    refine swp_region ?_
    refine sops_go rfl (st_assign (v := .d _) rfl rfl rfl ?_)
    refine sops_nil ?_
    refine swp_ret ?_
    with_reducible refine after_ret ?_
    -- ret
    refine ⟨.inl rfl, .inl ⟨2, rfl, ?_⟩⟩
    have e : (T.mk kind names list).check = 110 := by unfold T.check; rw [if_neg (by simpa using hc)]
    rw [e]; exact ra_d (keeps_v _)
  · refine swp_skip ?_
    refine swp_seq ?_
    refine swp_seq ?_
    refine swp_region ?_
    first | refine sops_go rfl (so_load (v := .d (.agg [_, _, _])) rfl rfl rfl rfl rfl rfl rfl rfl ?_) | refine sops_go rfl (so_load (v := .agg [_, _, _]) rfl rfl rfl rfl rfl rfl rfl rfl ?_)
    -- hand: CALL f19(t10)
    have hck : (T.mk kind names list).check = if (T.mk kind names list).long = true then 2 else 0 := by unfold T.check; rw [if_pos (by simpa using hc)]
    refine sops_go rfl (st_call rfl rfl (hspan) ⟨na_d _, trivial⟩ rfl ?_)
    refine sops_go rfl (st_move (v := .tup _) rfl rfl rfl ?_)
    refine sops_go rfl (st_extract (c := .d _) rfl rfl rfl rfl ?_)
    refine sops_go rfl (st_extract (c := .d _) rfl rfl rfl rfl ?_)
    refine sops_go rfl (st_extract (c := .d _) rfl rfl rfl rfl ?_)
    refine sops_go rfl (st_assign (v := .d _) rfl rfl rfl ?_)
    refine sops_go rfl (st_assign (v := .d _) rfl rfl rfl ?_)
    refine sops_go rfl (st_assign (v := .d _) rfl rfl rfl ?_)
    refine sops_nil ?_
    refine swp_seq ?_
    refine swp_region ?_
    refine sops_go rfl (st_move (v := .d _) rfl rfl rfl ?_)
    refine sops_go rfl (st_not rfl rfl rfl ?_)
    refine sops_go rfl (st_move (v := .d _) rfl rfl rfl ?_)
    -- guard (some (2, false))
    refine sops_case 17 rfl (fun hb17 => ?_) (fun hb17 => ?_)
    · first | refine sops_yes rfl rfl rfl rfl (st_move (v := .d _) rfl rfl rfl ?_) | first | refine sops_no rfl rfl rfl rfl rfl ?_ | refine sops_un rfl rfl rfl rfl rfl ?_
      first | refine sops_yes rfl rfl rfl rfl (st_bin rfl rfl rfl rfl rfl ?_) | first | refine sops_no rfl rfl rfl rfl rfl ?_ | refine sops_un rfl rfl rfl rfl rfl ?_
      refine sops_go rfl (st_pick (v := .d _) rfl rfl rfl rfl ?_)
      refine sops_go rfl (st_move (v := .d _) rfl rfl rfl ?_)
      -- guard (some (6, false))
      first | refine sops_yes rfl rfl rfl rfl (st_move (v := .d _) rfl rfl rfl ?_) | first | refine sops_no rfl rfl rfl rfl rfl ?_ | refine sops_un rfl rfl rfl rfl rfl ?_
      first | refine sops_yes rfl rfl rfl rfl (st_bin rfl rfl rfl rfl rfl ?_) | first | refine sops_no rfl rfl rfl rfl rfl ?_ | refine sops_un rfl rfl rfl rfl rfl ?_
      refine sops_go rfl (st_pick (v := .d _) rfl rfl rfl rfl ?_)
      refine sops_nil ?_
      -- cond
      refine swp_condT rfl ?_
      refine swp_seq ?_
      refine swp_region ?_
      refine sops_go rfl (st_assign (v := .d _) rfl rfl rfl ?_)
      refine sops_nil ?_
      refine swp_ret ?_
      with_reducible refine after_ret ?_
      -- ret
      refine ⟨.inl rfl, .inl ⟨2, rfl, ?_⟩⟩
      rw [hck, if_pos (by unfold T.long; rw [show (!(T.mk kind names list).span.ok) = true from hb17]; rfl)]
      exact ra_d (keeps_v _)
    · first | refine sops_yes rfl rfl rfl rfl (st_move (v := .d _) rfl rfl rfl ?_) | first | refine sops_no rfl rfl rfl rfl rfl ?_ | refine sops_un rfl rfl rfl rfl rfl ?_
      first | refine sops_yes rfl rfl rfl rfl (st_bin rfl rfl rfl rfl rfl ?_) | first | refine sops_no rfl rfl rfl rfl rfl ?_ | refine sops_un rfl rfl rfl rfl rfl ?_
      refine sops_go rfl (st_pick (v := .d _) rfl rfl rfl rfl ?_)
      refine sops_go rfl (st_move (v := .d _) rfl rfl rfl ?_)
      -- guard (some (6, false))
      refine sops_case 21 rfl (fun hb21 => ?_) (fun hb21 => ?_)
      · first | refine sops_yes rfl rfl rfl rfl (st_move (v := .d _) rfl rfl rfl ?_) | first | refine sops_no rfl rfl rfl rfl rfl ?_ | refine sops_un rfl rfl rfl rfl rfl ?_
        first | refine sops_yes rfl rfl rfl rfl (st_bin rfl rfl rfl rfl rfl ?_) | first | refine sops_no rfl rfl rfl rfl rfl ?_ | refine sops_un rfl rfl rfl rfl rfl ?_
        refine sops_go rfl (st_pick (v := .d _) rfl rfl rfl rfl ?_)
        refine sops_nil ?_
        -- cond
        -- cond
        refine swp_condT rfl ?_
        refine swp_seq ?_
        refine swp_region ?_
        refine sops_go rfl (st_assign (v := .d _) rfl rfl rfl ?_)
        refine sops_nil ?_
        refine swp_ret ?_
        with_reducible refine after_ret ?_
        -- ret
        refine ⟨.inl rfl, .inl ⟨2, rfl, ?_⟩⟩
        rw [hck, if_pos (by unfold T.long; rw [show (!(T.mk kind names list).span.ok) = false from hb17, show decide ((T.mk kind names list).span.deep > 16) = true from hb21]; rfl)]
        exact ra_d (keeps_v _)
      · first | refine sops_yes rfl rfl rfl rfl (st_move (v := .d _) rfl rfl rfl ?_) | first | refine sops_no rfl rfl rfl rfl rfl ?_ | refine sops_un rfl rfl rfl rfl rfl ?_
        first | refine sops_yes rfl rfl rfl rfl (st_bin rfl rfl rfl rfl rfl ?_) | first | refine sops_no rfl rfl rfl rfl rfl ?_ | refine sops_un rfl rfl rfl rfl rfl ?_
        refine sops_go rfl (st_pick (v := .d _) rfl rfl rfl rfl ?_)
        refine sops_nil ?_
        -- cond
        -- cond
        have e : (T.mk kind names list).long = decide ((T.mk kind names list).span.many > 4096) := by
          unfold T.long; rw [show (!(T.mk kind names list).span.ok) = false from hb17, show decide ((T.mk kind names list).span.deep > 16) = false from hb21]; rfl
        refine swp_cond _ rfl (fun hc => ?_) (fun hc => ?_)
        · refine swp_seq ?_
          refine swp_region ?_
          refine sops_go rfl (st_assign (v := .d _) rfl rfl rfl ?_)
          refine sops_nil ?_
          refine swp_ret ?_
          with_reducible refine after_ret ?_
          -- ret
          refine ⟨.inl rfl, .inl ⟨2, rfl, ?_⟩⟩
          rw [hck, if_pos (e.trans hc)]
          exact ra_d (keeps_v _)
        · refine swp_skip ?_
          refine swp_seq ?_
          refine swp_region ?_
          refine sops_go rfl (st_assign (v := .d _) rfl rfl rfl ?_)
          refine sops_nil ?_
          refine swp_ret ?_
          -- ret
          refine ⟨.inl rfl, .inl ⟨2, rfl, ?_⟩⟩
          rw [hck, if_neg (by rw [e]; simpa using hc)]
          exact ra_d (keeps_v _)
end Go.Proofs.YtdcpnpcmgfmenaaGreatDoor
/-
  Walks: is a value one of a type's? Conditions: none.
-/
set_option linter.unusedVariables false
set_option maxRecDepth 100000
namespace Go.Proofs.YtdcpnpcmgfmenaaGreatDoor
open Go Go.Proofs.YtdcpnpcmgfmenaaGreatDoor.Lg

def V.kind : V → Int | .mk k _ _ _ _ _ _ _ _ => k
def V.exp : V → Int | .mk _ _ _ _ e _ _ _ _ => e
def V.text : V → ByteArray | .mk _ _ _ _ _ _ t _ _ => t
def V.names : V → List ByteArray | .mk _ _ _ _ _ _ _ n _ => n
def V.list : V → List V | .mk _ _ _ _ _ _ _ _ l => l

/-- The kind of the values of a type without parts. -/
def kindOf (k : Int) : Int := if k = 2 then 1 else if k = 3 then 2 else if k = 4 then 3 else if k = 5 then 3 else if k = 6 then 4 else if k = 7 then 5 else if k = 8 then 6 else 0
def idxOf (names : List ByteArray) (s : ByteArray) : Int := firstAt (fun y => s.toList == y.toList) names 0
def headB {α : Type} (f : α → Bool) : List α → Bool
  | [] => false
  | y :: _ => f y
mutual
def T.has : T → V → Bool
  | .mk kind names list, v =>
    if (kind == 1) = true then true
    else if (kind == 9) = true then (v.kind == 7) && !(v.list.any fun x => !(T.hasAt list 0 x))
    else if (kind == 10) = true then (if (v.kind != 8 || !(rowsEq strEq v.names names)) = true then false else T.hasL list v.list)
    else if (kind == 11) = true then ((v.kind == 9) && decide (idxOf names v.text ≥ 0)) && headB (fun y => T.hasAt list (idxOf names v.text).toNat y) v.list
    else (v.kind == kindOf kind) && ((kind != 5) || decide (v.exp ≥ 0))
def T.hasAt : List T → Nat → V → Bool
  | [], _, _ => false
  | x :: _, 0, v => x.has v
  | _ :: r, n + 1, v => T.hasAt r n v
def T.hasL : List T → List V → Bool
  | x :: r, y :: s => x.has y && T.hasL r s
  | _, _ => true
end
theorem T.hasAt_eq : ∀ (l : List T) (n : Nat) (h : n < l.length) (v : V), T.hasAt l n v = (l[n]).has v
  | x :: r, 0, _, v => by rw [T.hasAt]; rfl
  | x :: r, n + 1, h, v => by rw [T.hasAt, T.hasAt_eq r n (by simpa using h) v]; rfl

theorem T.formedL_iff (l : List T) : T.formedL l = true ↔ ∀ x ∈ l, x.formed = true := by rw [T.formedL_any]; simp
theorem V.formedL_iff (l : List V) : V.formedL l = true ↔ ∀ x ∈ l, x.formed = true := by rw [V.formedL_any]; simp

structure TInv (kind : Int) (names : List ByteArray) (list : List T) : Prop where
  one : kind = 9 → list.length = 1
  same : kind = 10 ∨ kind = 11 → names.length = list.length
  some : kind = 10 ∨ kind = 11 → (placesOf names).length = names.length
  utf : kind = 10 ∨ kind = 11 → ∀ n ∈ names, utfOk n = true
  leaf : ¬ (kind = 9 ∨ kind = 10 ∨ kind = 11) → names = [] ∧ list = [] ∧ 1 ≤ kind ∧ kind ≤ 8
  bare : kind = 9 → names = []
  all : ∀ x ∈ list, x.formed = true
theorem T.inv {kind : Int} {names : List ByteArray} {list : List T} (h : (T.mk kind names list).formed = true) : TInv kind names list := by
  rw [T.formed] at h
  by_cases h9 : kind = 9
  · rw [if_pos h9] at h
    simp only [Bool.and_eq_true, beq_iff_eq] at h
    exact ⟨fun _ => h.1.2, fun e => by omega, fun e => by omega, fun e => by omega, fun e => absurd (.inl h9) e, fun _ => List.eq_nil_of_length_eq_zero h.1.1, (T.formedL_iff _).1 h.2⟩
  · rw [if_neg h9] at h
    by_cases h1 : kind = 10 ∨ kind = 11
    · rw [if_pos h1] at h
      simp only [Bool.and_eq_true, beq_iff_eq] at h
      refine ⟨fun e => absurd e h9, fun _ => h.1.1.1, fun _ => h.1.1.2, fun _ n hn => ?_, fun e => absurd (.inr h1) e, fun e => absurd e h9, (T.formedL_iff _).1 h.2⟩
      have := h.1.2
      simp only [Bool.not_eq_true', List.any_eq_false, Bool.not_eq_true, Bool.not_eq_false'] at this
      simpa using this n hn
    · rw [if_neg h1] at h
      simp only [Bool.and_eq_true, decide_eq_true_eq, beq_iff_eq] at h
      have e1 : names = [] := List.eq_nil_of_length_eq_zero (by omega)
      have e2 : list = [] := List.eq_nil_of_length_eq_zero (by omega)
      exact ⟨fun e => absurd e h9, fun e => absurd e h1, fun e => absurd e h1, fun e => absurd e h1, fun _ => ⟨e1, e2, h.1.1, h.1.2⟩, fun e => absurd e h9, fun x hx => by rw [e2] at hx; cases hx⟩
structure VInv (kind : Int) (names : List ByteArray) (list : List V) : Prop where
  same : kind = 8 → names.length = list.length
  one : kind = 9 → list.length = 1
  all : ∀ x ∈ list, x.formed = true
theorem V.inv {kind : Int} {flag neg : Bool} {digits : ByteArray} {exp bits : Int} {text : ByteArray} {names : List ByteArray} {list : List V} (h : (V.mk kind flag neg digits exp bits text names list).formed = true) : VInv kind names list := by
  rw [V.formed] at h
  simp only [Bool.and_eq_true] at h
  obtain ⟨h1, h2⟩ := h
  refine ⟨fun e => ?_, fun e => ?_, (V.formedL_iff _).1 h2⟩
  · subst e
    have h1 : (!(V.bad (((names.length : Int) == (list.length : Int)) && namesOk names []) flag neg digits exp bits text 0 0)) = true := h1
    cases hb : ((names.length : Int) == (list.length : Int)) with
    | true => have : (names.length : Int) = (list.length : Int) := by simpa using hb
              omega
    | false => rw [hb] at h1; simp [V.bad] at h1
  · subst e
    have h1 : (!(V.bad (((list.length : Int) == 1) && utfOk text) flag neg digits exp bits noText names.length 0)) = true := h1
    cases hb : ((list.length : Int) == 1) with
    | true => have : (list.length : Int) = 1 := by simpa using hb
              omega
    | false => rw [hb] at h1; simp [V.bad] at h1

theorem firstAt_lt {α : Type} (p : α → Bool) : ∀ (l : List α) (i : Int), 0 ≤ i → 0 ≤ firstAt p l i → firstAt p l i < i + l.length
  | [], _, _, h => by simp [firstAt] at h
  | x :: r, i, h0, h => by
    unfold firstAt at h ⊢
    split
    · simp only [List.length_cons]; omega
    · rename_i hp
      rw [if_neg hp] at h
      have := firstAt_lt p r (i + 1) (by omega) h
      simp only [List.length_cons]; omega
theorem T.hasL_nil (l : List T) : T.hasL l [] = true := by cases l <;> rw [T.hasL] <;> simp

theorem has1_pure (kind : Int) (names : List ByteArray) (list : List T) (s : Bool) (h1 : list.length = 1) (x : V) (hx : ∀ t ∈ list, Pure env 21 [.d t.d, .d x.d] (.d (.v (.bool (t.has x))))) :
    Pure env 44 [.d x.d, .dp [.v (.int .i64 kind), .sl s (strRows names), .sl s (T.rows list)] 0] (.d (.v (.bool (!(T.hasAt list 0 x))))) := by
  obtain ⟨t0, rfl⟩ : ∃ y, list = [y] := List.length_eq_one_iff.1 h1
  have hx := hx t0 (by simp)
  have e : T.hasAt [t0] 0 x = t0.has x := by rw [T.hasAt]
  rw [e]
  generalize t0.has x = r at hx
  rw [T.df_d, V.df_d] at hx
  rw [V.df_d]
  obtain ⟨a1, a2, a3⟩ := t0
  obtain ⟨vk, flag, neg, digits, exp, bits, text, vnames, vlist⟩ := x
  refine pure_of_body Tryz.func44 rfl rfl rfl fun B hB => ?_
  refine swp_seq ?_
  refine swp_region ?_
  refine sops_go rfl (so_box (cs := [_, _, _, _, _, _, _, _, _]) rfl rfl rfl ?_)
  refine sops_go rfl (st_assign (v := .d _) rfl rfl rfl ?_)
  refine sops_nil ?_
  refine swp_seq ?_
  refine swp_regionQ 5 (by kernel_rfl) rfl rfl rfl ?_
  first | refine h0_go rfl (so_fieldAddr (v := .p _ _ _) rfl rfl rfl rfl rfl rfl rfl rfl rfl rfl ⟨_, rfl, ?_⟩) | refine h0_go rfl (so_fieldAddr (v := .dp _ _) rfl rfl rfl rfl rfl rfl rfl rfl rfl rfl ⟨_, rfl, ?_⟩) | refine h0_go rfl (so_fieldAddr (v := .pe _ _ _ _ _) rfl rfl rfl rfl rfl rfl rfl rfl rfl rfl ⟨_, rfl, ?_⟩)
  first | refine h0_go rfl (so_load (v := .d _) rfl rfl rfl rfl rfl rfl rfl rfl ⟨_, rfl, ?_⟩) | refine h0_go rfl (so_load (v := .own _ _ _ _ _) rfl rfl rfl rfl rfl rfl rfl rfl ⟨_, rfl, ?_⟩)
  refine h0_go rfl (so_indexSl rfl rfl rfl rfl rfl rfl rfl (T.rows_all _) (by omega) (by simp [T.rows]) rfl ⟨_, rfl, ?_⟩)
  first | refine h0_go rfl (so_load (v := .d (.agg [_, _, _])) rfl rfl rfl rfl rfl rfl rfl rfl ⟨_, rfl, ?_⟩) | refine h0_go rfl (so_load (v := .agg [_, _, _]) rfl rfl rfl rfl rfl rfl rfl rfl ⟨_, rfl, ?_⟩)
  first | refine h0_go rfl (so_load (v := .d (.agg [_, _, _, _, _, _, _, _, _])) rfl rfl rfl rfl rfl rfl rfl rfl ⟨_, rfl, ?_⟩) | refine h0_go rfl (so_load (v := .agg [_, _, _, _, _, _, _, _, _]) rfl rfl rfl rfl rfl rfl rfl rfl ⟨_, rfl, ?_⟩)
  refine h0_nil ?_
  refine sops_go rfl (st_call rfl rfl (hx) ⟨na_d _, na_d _, trivial⟩ rfl ?_)
  refine sops_go rfl (st_not rfl rfl rfl ?_)
  refine sops_go rfl (st_assign (v := .d _) rfl rfl rfl ?_)
  refine sops_nil ?_
  refine swp_ret ?_
  exact fin_b rfl rfl rfl

theorem has_pure (t : T) : ∀ v : V, t.formed = true → v.formed = true → ∀ s s', Pure env 21 [.d (t.df s), .d (v.df s')] (.d (.v (.bool (t.has v)))) := by
  revert t
  apply T.ind
  intro kind names list ih v ht hv s s'
  obtain ⟨vk, flag, neg, digits, exp, bits, text, vnames, vlist⟩ := v
  have ti := T.inv ht
  have vi := V.inv hv
  have hS : (T.mk kind names list).has (V.mk vk flag neg digits exp bits text vnames vlist) = if (kind == 1) = true then true
    else if (kind == 9) = true then (vk == 7) && !(vlist.any fun x => !(T.hasAt list 0 x))
    else if (kind == 10) = true then (if (vk != 8 || !(rowsEq strEq vnames names)) = true then false else T.hasL list vlist)
    else if (kind == 11) = true then ((vk == 9) && decide (idxOf names text ≥ 0)) && headB (fun y => T.hasAt list (idxOf names text).toNat y) vlist
    else (vk == kindOf kind) && ((kind != 5) || decide (exp ≥ 0)) := by rw [T.has]; rfl
  refine pure_of_body Tryz.func21 rfl rfl rfl fun B hB => ?_
  refine swp_seq ?_
  refine swp_region ?_
  refine sops_go rfl (so_box (cs := [_, _, _]) rfl rfl rfl ?_)
  refine sops_go rfl (so_box (cs := [_, _, _, _, _, _, _, _, _]) rfl rfl rfl ?_)
  refine sops_go rfl (st_assign (v := .d _) rfl rfl rfl ?_)
  refine sops_nil ?_
  refine swp_seq ?_
  refine swp_seq ?_
  refine swp_region ?_
  first | refine sops_go rfl (so_fieldAddr (v := .p _ _ _) rfl rfl rfl rfl rfl rfl rfl rfl rfl rfl ?_) | refine sops_go rfl (so_fieldAddr (v := .dp _ _) rfl rfl rfl rfl rfl rfl rfl rfl rfl rfl ?_) | refine sops_go rfl (so_fieldAddr (v := .pe _ _ _ _ _) rfl rfl rfl rfl rfl rfl rfl rfl rfl rfl ?_)
  refine sops_go rfl (so_load (v := .d _) rfl rfl rfl rfl rfl rfl rfl rfl ?_)
  refine sops_nil ?_
  refine swp_block ?_
  refine swp_seq ?_
  refine swp_region ?_
  refine sops_go rfl (st_bin rfl rfl rfl rfl rfl ?_)
  refine sops_go rfl (st_assign (v := .d _) rfl rfl rfl ?_)
  refine sops_nil ?_
  refine swp_cond _ rfl (fun hc10 => ?_) (fun hc10 => ?_)
  · rw [if_pos hc10] at hS
    refine swp_seq ?_
    refine swp_region ?_
    refine sops_go rfl (st_assign (v := .d _) rfl rfl rfl ?_)
    refine sops_nil ?_
    refine swp_ret ?_
    with_reducible refine inblk_ret ?_
    with_reducible refine after_ret ?_
    exact fin_b rfl rfl hS
  · rw [if_neg (by rw [hc10]; simp)] at hS
    refine swp_seq ?_
    refine swp_region ?_
    refine sops_go rfl (st_bin rfl rfl rfl rfl rfl ?_)
    refine sops_go rfl (st_assign (v := .d _) rfl rfl rfl ?_)
    refine sops_nil ?_
    refine swp_cond _ rfl (fun hc12 => ?_) (fun hc12 => ?_)
    · rw [if_pos hc12] at hS
      have h9 : kind = 9 := by simpa using hc12
      have hrec : ∀ x ∈ vlist, Pure env 44 [.d x.d, .dp [.v (.int .i64 kind), .sl s (strRows names), .sl s (T.rows list)] 0] (.d (.v (.bool (!(T.hasAt list 0 x))))) :=
        fun x hx => has1_pure kind names list s (ti.one h9) x (fun t ht' => by have := ih t ht' x (ti.all t ht') (vi.all x hx) true true; rwa [← T.df_d, ← V.df_d] at this)
      refine swp_seq ?_
      refine swp_region ?_
      first | refine sops_go rfl (so_fieldAddr (v := .p _ _ _) rfl rfl rfl rfl rfl rfl rfl rfl rfl rfl ?_) | refine sops_go rfl (so_fieldAddr (v := .dp _ _) rfl rfl rfl rfl rfl rfl rfl rfl rfl rfl ?_) | refine sops_go rfl (so_fieldAddr (v := .pe _ _ _ _ _) rfl rfl rfl rfl rfl rfl rfl rfl rfl rfl ?_)
      refine sops_go rfl (so_load (v := .d _) rfl rfl rfl rfl rfl rfl rfl rfl ?_)
      refine sops_go rfl (st_bin rfl rfl rfl rfl rfl ?_)
      refine sops_go rfl (st_move (v := .d _) rfl rfl rfl ?_)
      refine' sops_and (d := 17) (p := 23) [18, 19, 20, 21, 22] 6 rfl rfl rfl (fun hb17 => ?a17) (fun hb17 => ?b17) ?_
      case a17 =>
        first | refine sops_yes rfl rfl rfl rfl (so_fieldAddr (v := .p _ _ _) rfl rfl rfl rfl rfl rfl rfl rfl rfl rfl ?_) | refine sops_yes rfl rfl rfl rfl (so_fieldAddr (v := .dp _ _) rfl rfl rfl rfl rfl rfl rfl rfl rfl rfl ?_) | refine sops_yes rfl rfl rfl rfl (so_fieldAddr (v := .pe _ _ _ _ _) rfl rfl rfl rfl rfl rfl rfl rfl rfl rfl ?_)
        first | refine sops_yes rfl rfl rfl rfl (so_load (v := .d _) rfl rfl rfl rfl rfl rfl rfl rfl ?_) | refine sops_yes rfl rfl rfl rfl (so_load (v := .own _ _ _ _ _) rfl rfl rfl rfl rfl rfl rfl rfl ?_)
        refine sops_yes rfl rfl rfl rfl (st_makeFunc rfl rfl ?_)
        refine sops_yes rfl rfl rfl rfl (st_call rfl rfl (containsFuncV_pure s' vlist 44 [.dp [.v (.int .i64 kind), .sl s (strRows names), .sl s (T.rows list)] 0] (fun x => !(T.hasAt list 0 x)) hrec rfl) ⟨na_d _, na_fn ⟨na_p (ds := [.v (.int .i64 kind), .sl s (strRows names), .sl s (T.rows list)]) rfl, trivial⟩, trivial⟩ rfl ?_)
        refine sops_yes rfl rfl rfl rfl (st_not rfl rfl rfl ?_)
        refine sops_go rfl (st_pick (v := .d _) rfl rfl rfl rfl ?_)
        refine sops_nil ?_
        exact ⟨rfl, rfl, rfl, rfl, [_, _, _, _, _], rfl, rfl⟩
      case b17 =>
        refine sops_no rfl rfl rfl rfl rfl ?_
        refine sops_no rfl rfl rfl rfl rfl ?_
        refine sops_no rfl rfl rfl rfl rfl ?_
        refine sops_no rfl rfl rfl rfl rfl ?_
        refine sops_no rfl rfl rfl rfl rfl ?_
        refine sops_go rfl (st_pick (v := .d _) rfl rfl rfl rfl ?_)
        refine sops_nil ?_
        exact ⟨rfl, rfl, rfl, rfl, [_, _, _, _, _], rfl, rfl⟩
      refine sops_go rfl (st_assign (v := .d _) rfl rfl rfl ?_)
      refine sops_nil ?_
      refine swp_ret ?_
      with_reducible refine inblk_ret ?_
      with_reducible refine after_ret ?_
      exact fin_b rfl rfl hS
    · rw [if_neg (by rw [hc12]; simp)] at hS
      refine swp_seq ?_
      refine swp_region ?_
      refine sops_go rfl (st_bin rfl rfl rfl rfl rfl ?_)
      refine sops_go rfl (st_assign (v := .d _) rfl rfl rfl ?_)
      refine sops_nil ?_
      refine swp_cond _ rfl (fun hc24 => ?_) (fun hc24 => ?_)
      · rw [if_pos hc24] at hS
        refine swp_seq ?_
        refine swp_seq ?_
        refine swp_region ?_
        first | refine sops_go rfl (so_fieldAddr (v := .p _ _ _) rfl rfl rfl rfl rfl rfl rfl rfl rfl rfl ?_) | refine sops_go rfl (so_fieldAddr (v := .dp _ _) rfl rfl rfl rfl rfl rfl rfl rfl rfl rfl ?_) | refine sops_go rfl (so_fieldAddr (v := .pe _ _ _ _ _) rfl rfl rfl rfl rfl rfl rfl rfl rfl rfl ?_)
        refine sops_go rfl (so_load (v := .d _) rfl rfl rfl rfl rfl rfl rfl rfl ?_)
        refine sops_go rfl (st_bin rfl rfl rfl rfl rfl ?_)
        refine sops_go rfl (st_move (v := .d _) rfl rfl rfl ?_)
        refine' sops_or (d := 29) (p := 36) [30, 31, 32, 33, 34, 35] 7 rfl rfl rfl (fun hb29 => ?a29) (fun hb29 => ?b29) ?_
        case a29 =>
          first | refine sops_yes rfl rfl rfl rfl (so_fieldAddr (v := .p _ _ _) rfl rfl rfl rfl rfl rfl rfl rfl rfl rfl ?_) | refine sops_yes rfl rfl rfl rfl (so_fieldAddr (v := .dp _ _) rfl rfl rfl rfl rfl rfl rfl rfl rfl rfl ?_) | refine sops_yes rfl rfl rfl rfl (so_fieldAddr (v := .pe _ _ _ _ _) rfl rfl rfl rfl rfl rfl rfl rfl rfl rfl ?_)
          first | refine sops_yes rfl rfl rfl rfl (so_load (v := .d _) rfl rfl rfl rfl rfl rfl rfl rfl ?_) | refine sops_yes rfl rfl rfl rfl (so_load (v := .own _ _ _ _ _) rfl rfl rfl rfl rfl rfl rfl rfl ?_)
          first | refine sops_yes rfl rfl rfl rfl (so_fieldAddr (v := .p _ _ _) rfl rfl rfl rfl rfl rfl rfl rfl rfl rfl ?_) | refine sops_yes rfl rfl rfl rfl (so_fieldAddr (v := .dp _ _) rfl rfl rfl rfl rfl rfl rfl rfl rfl rfl ?_) | refine sops_yes rfl rfl rfl rfl (so_fieldAddr (v := .pe _ _ _ _ _) rfl rfl rfl rfl rfl rfl rfl rfl rfl rfl ?_)
          first | refine sops_yes rfl rfl rfl rfl (so_load (v := .d _) rfl rfl rfl rfl rfl rfl rfl rfl ?_) | refine sops_yes rfl rfl rfl rfl (so_load (v := .own _ _ _ _ _) rfl rfl rfl rfl rfl rfl rfl rfl ?_)
          refine sops_yes rfl rfl rfl rfl (st_call rfl rfl (equalS_pure s' s vnames names) ⟨na_d _, na_d _, trivial⟩ rfl ?_)
          refine sops_yes rfl rfl rfl rfl (st_not rfl rfl rfl ?_)
          refine sops_go rfl (st_pick (v := .d _) rfl rfl rfl rfl ?_)
          refine sops_nil ?_
          exact ⟨rfl, rfl, rfl, rfl, [_, _, _, _, _, _], rfl, rfl⟩
        case b29 =>
          refine sops_no rfl rfl rfl rfl rfl ?_
          refine sops_no rfl rfl rfl rfl rfl ?_
          refine sops_no rfl rfl rfl rfl rfl ?_
          refine sops_no rfl rfl rfl rfl rfl ?_
          refine sops_no rfl rfl rfl rfl rfl ?_
          refine sops_no rfl rfl rfl rfl rfl ?_
          refine sops_go rfl (st_pick (v := .d _) rfl rfl rfl rfl ?_)
          refine sops_nil ?_
          exact ⟨rfl, rfl, rfl, rfl, [_, _, _, _, _, _], rfl, rfl⟩
        refine sops_nil ?_
        refine swp_cond _ rfl (fun hc36 => ?_) (fun hc36 => ?_)
        · rw [if_pos hc36] at hS
          refine swp_seq ?_
          refine swp_region ?_
          refine sops_go rfl (st_assign (v := .d _) rfl rfl rfl ?_)
          refine sops_nil ?_
          refine swp_ret ?_
          with_reducible refine after_ret ?_
          with_reducible refine inblk_ret ?_
          with_reducible refine after_ret ?_
          exact fin_b rfl rfl hS
        · rw [if_neg (by rw [hc36]; simp)] at hS
          have hll : vlist.length = list.length := by
            have h10 : kind = 10 := by simpa using hc24
            have e := Bool.or_eq_false_iff.1 hc36
            have e1 : vk = 8 := by simpa using e.1
            have e2 : vnames.length = names.length := by
              rcases Nat.lt_trichotomy vnames.length names.length with h | h | h
              · rw [rowsEq_len _ _ _ (by omega)] at e; simp at e
              · exact h
              · rw [rowsEq_len _ _ _ (by omega)] at e; simp at e
            have := vi.same e1
            have := ti.same (.inl h10)
            omega
          refine swp_skip ?_
          refine swp_seq ?_
          refine swp_seq ?_
          refine swp_region ?_
          first | refine sops_go rfl (so_fieldAddr (v := .p _ _ _) rfl rfl rfl rfl rfl rfl rfl rfl rfl rfl ?_) | refine sops_go rfl (so_fieldAddr (v := .dp _ _) rfl rfl rfl rfl rfl rfl rfl rfl rfl rfl ?_) | refine sops_go rfl (so_fieldAddr (v := .pe _ _ _ _ _) rfl rfl rfl rfl rfl rfl rfl rfl rfl rfl ?_)
          first | refine sops_go rfl (so_load (v := .d _) rfl rfl rfl rfl rfl rfl rfl rfl ?_) | refine sops_go rfl (so_load (v := .own _ _ _ _ _) rfl rfl rfl rfl rfl rfl rfl rfl ?_)
          refine sops_go rfl (so_lenSl rfl rfl rfl rfl rfl ?_)
          refine sops_go rfl (st_move (v := .d _) rfl rfl rfl ?_)
          refine sops_nil ?_
          refine swp_block ?_
          refine swp_lenT (i := 38) rfl fun hvl => ?_
          rw [V.rows_len] at hvl
          refine swp_loopF (F := fun k : Nat => { t := upd (upd (upd (upd (fun _ => .any) 2 (.p 0 0 0)) 38 (.d (.sl s' (V.rows vlist)))) 39 (.d (.v (.int .i64 vlist.length)))) 40 (.d (.v (.int .i64 k))), n := 98, h := upd (fun _ => .dead) 0 (.cells [.any, .any, .d (.sl s (T.rows list))]), nx := 1 })
            (fun k => k ≤ vlist.length ∧ (T.mk kind names list).has (V.mk vk flag neg digits exp bits text vnames vlist) = T.hasL (list.drop k) (vlist.drop k)) (fun k => vlist.length - k) 0 ⟨Nat.zero_le _, hS⟩ ?_ ?_
          · refine wk_of rfl (Nat.le_of_ble_eq_true rfl) (by rw [hB]; exact Nat.zero_le _) (tle_upd (le_eq rfl rfl) (tle_upd (le_eq (int_eq (by rw [V.rows_len])) rfl) (tle_upd (le_eq rfl rfl) (tle_upd (le_eq rfl rfl) (tle_any _))))) (hle_upd (.cells _ _ ⟨le_any _, le_any _, le_eq rfl rfl, trivial⟩) (hle_dead _)) (dead_upd (Nat.le_of_ble_eq_true rfl) (dead_none))
          rintro k ⟨hk, ha⟩
          refine swp_seq ?_
          refine swp_region ?_
          refine sops_go rfl (st_bin rfl rfl rfl rfl rfl ?_)
          refine sops_nil ?_
          refine swp_seq ?_
          refine swp_cond _ rfl (fun hc41 => ?_) (fun hc41 => ?_)
          · have hlt : k < vlist.length := by have := of_decide_eq_true hc41; omega
            have hk2 : k < list.length := by omega
            rw [List.drop_eq_getElem_cons hk2, List.drop_eq_getElem_cons hlt, T.hasL] at ha
            have ihk := ih _ (List.getElem_mem hk2) _ (ti.all _ (List.getElem_mem hk2)) (vi.all _ (List.getElem_mem hlt)) true true
            refine swp_skip ?_
            refine swp_seq ?_
            refine swp_block ?_
            refine swp_seq ?_
            refine swp_region ?_
            refine sops_go rfl (st_move (v := .d _) rfl rfl rfl ?_)
            refine sops_go rfl (so_indexSl rfl rfl rfl rfl rfl rfl rfl (V.rows_all _) (by omega) (by rw [V.rows_len]; omega) (V.rows_get _ _ hlt) ?_)
            generalize vlist[k] = y at ihk ha ⊢
            obtain ⟨y1, y2, y3, y4, y5, y6, y7, y8, y9⟩ := y
            first | refine sops_go rfl (so_load (v := .d (.agg [_, _, _, _, _, _, _, _, _])) rfl rfl rfl rfl rfl rfl rfl rfl ?_) | refine sops_go rfl (so_load (v := .agg [_, _, _, _, _, _, _, _, _]) rfl rfl rfl rfl rfl rfl rfl rfl ?_)
            refine sops_go rfl (so_alloc (cs := [_, _, _, _, _, _, _, _, _]) rfl rfl rfl rfl ?_)
            refine sops_go rfl (st_assign (v := .d _) rfl rfl rfl ?_)
            refine sops_go rfl (so_store rfl rfl rfl rfl rfl rfl rfl rfl rfl (zs := [_, _, _, _, _, _, _, _, _]) rfl ?_)
            refine sops_nil ?_
            refine swp_seq ?_
            refine swp_regionQ 6 (by kernel_rfl) rfl rfl rfl ?_
            first | refine h0_go rfl (so_fieldAddr (v := .p _ _ _) rfl rfl rfl rfl rfl rfl rfl rfl rfl rfl ⟨_, rfl, ?_⟩) | refine h0_go rfl (so_fieldAddr (v := .dp _ _) rfl rfl rfl rfl rfl rfl rfl rfl rfl rfl ⟨_, rfl, ?_⟩) | refine h0_go rfl (so_fieldAddr (v := .pe _ _ _ _ _) rfl rfl rfl rfl rfl rfl rfl rfl rfl rfl ⟨_, rfl, ?_⟩)
            first | refine h0_go rfl (so_load (v := .d _) rfl rfl rfl rfl rfl rfl rfl rfl ⟨_, rfl, ?_⟩) | refine h0_go rfl (so_load (v := .own _ _ _ _ _) rfl rfl rfl rfl rfl rfl rfl rfl ⟨_, rfl, ?_⟩)
            refine h0_go rfl (st_move (v := .d _) rfl rfl rfl ⟨_, rfl, ?_⟩)
            refine h0_go rfl (so_indexSl rfl rfl rfl rfl rfl rfl rfl (T.rows_all _) (by omega) (by rw [T.rows_len]; omega) (T.rows_get _ _ hk2) ⟨_, rfl, ?_⟩)
            generalize list[k] = x at ihk ha ⊢
            obtain ⟨x1, x2, x3⟩ := x
            first | refine h0_go rfl (so_load (v := .d (.agg [_, _, _])) rfl rfl rfl rfl rfl rfl rfl rfl ⟨_, rfl, ?_⟩) | refine h0_go rfl (so_load (v := .agg [_, _, _]) rfl rfl rfl rfl rfl rfl rfl rfl ⟨_, rfl, ?_⟩)
            first | refine h0_go rfl (so_load (v := .d (.agg [_, _, _, _, _, _, _, _, _])) rfl rfl rfl rfl rfl rfl rfl rfl ⟨_, rfl, ?_⟩) | refine h0_go rfl (so_load (v := .agg [_, _, _, _, _, _, _, _, _]) rfl rfl rfl rfl rfl rfl rfl rfl ⟨_, rfl, ?_⟩)
            refine h0_nil ?_
            refine sops_go rfl (st_call rfl rfl (ihk) ⟨na_d _, na_d _, trivial⟩ rfl ?_)
            refine sops_go rfl (st_not rfl rfl rfl ?_)
            refine sops_nil ?_
            refine swp_cond _ rfl (fun hc52 => ?_) (fun hc52 => ?_)
            · rw [show (T.mk x1 x2 x3).has (V.mk y1 y2 y3 y4 y5 y6 y7 y8 y9) = false by simpa using hc52] at ha
              have hS := ha
              refine swp_seq ?_
              refine swp_region ?_
              refine sops_go rfl (st_assign (v := .d _) rfl rfl rfl ?_)
              refine sops_nil ?_
              refine swp_ret ?_
              with_reducible refine inblk_ret ?_
              with_reducible refine after_ret ?_
              with_reducible refine after_ret ?_
              with_reducible refine inblk_ret ?_
              with_reducible refine after_ret ?_
              with_reducible refine inblk_ret ?_
              with_reducible refine after_ret ?_
              exact fin_b rfl rfl hS
            · rw [show (T.mk x1 x2 x3).has (V.mk y1 y2 y3 y4 y5 y6 y7 y8 y9) = true by simpa using hc52, Bool.true_and] at ha
              refine swp_skip ?_
              refine swp_region ?_
              refine sops_go rfl (st_bin rfl rfl rfl rfl rfl ?_)
              refine sops_go rfl (st_move (v := .d _) rfl rfl rfl ?_)
              refine sops_nil ?_
              refine ⟨k + 1, ⟨hlt, ha⟩, by omega, ?_⟩
              refine wk_of rfl (Nat.le_of_ble_eq_true rfl) (by rw [hB]; exact Nat.zero_le _) (tle_upd (le_eq (next_i64 hlt hvl) rfl) (tle_upd (le_eq rfl rfl) (tle_upd (le_eq rfl rfl) (tle_upd (le_eq rfl rfl) (tle_any _))))) (hle_upd (.cells _ _ ⟨le_any _, le_any _, le_eq rfl rfl, trivial⟩) (hle_dead _)) (dead_upd (Nat.le_of_ble_eq_true rfl) (dead_none))
          · have he : k = vlist.length := by have := of_decide_eq_false hc41; omega
            rw [he, List.drop_length, T.hasL_nil] at ha
            have hS := ha
            refine swp_exit ?_
            with_reducible refine after_exit ?_
            with_reducible refine after_exit ?_
            refine inblk_hit ?_
            refine swp_seq ?_
            refine swp_region ?_
            refine sops_go rfl (st_assign (v := .d _) rfl rfl rfl ?_)
            refine sops_nil ?_
            refine swp_ret ?_
            with_reducible refine inblk_ret ?_
            with_reducible refine after_ret ?_
            exact fin_b rfl rfl hS
      · rw [if_neg (by rw [hc24]; simp)] at hS
        refine swp_seq ?_
        refine swp_region ?_
        refine sops_go rfl (st_bin rfl rfl rfl rfl rfl ?_)
        refine sops_go rfl (st_assign (v := .d _) rfl rfl rfl ?_)
        refine sops_nil ?_
        refine swp_cond _ rfl (fun hc54 => ?_) (fun hc54 => ?_)
        · rw [if_pos hc54] at hS
          refine swp_seq ?_
          refine swp_region ?_
          first | refine sops_go rfl (so_fieldAddr (v := .p _ _ _) rfl rfl rfl rfl rfl rfl rfl rfl rfl rfl ?_) | refine sops_go rfl (so_fieldAddr (v := .dp _ _) rfl rfl rfl rfl rfl rfl rfl rfl rfl rfl ?_) | refine sops_go rfl (so_fieldAddr (v := .pe _ _ _ _ _) rfl rfl rfl rfl rfl rfl rfl rfl rfl rfl ?_)
          first | refine sops_go rfl (so_load (v := .d _) rfl rfl rfl rfl rfl rfl rfl rfl ?_) | refine sops_go rfl (so_load (v := .own _ _ _ _ _) rfl rfl rfl rfl rfl rfl rfl rfl ?_)
          first | refine sops_go rfl (so_fieldAddr (v := .p _ _ _) rfl rfl rfl rfl rfl rfl rfl rfl rfl rfl ?_) | refine sops_go rfl (so_fieldAddr (v := .dp _ _) rfl rfl rfl rfl rfl rfl rfl rfl rfl rfl ?_) | refine sops_go rfl (so_fieldAddr (v := .pe _ _ _ _ _) rfl rfl rfl rfl rfl rfl rfl rfl rfl rfl ?_)
          refine sops_go rfl (so_load (v := .d _) rfl rfl rfl rfl rfl rfl rfl rfl ?_)
          refine sops_go rfl (st_call rfl rfl ((indexS_pure s names text : Pure env _ _ (.d (.v (.int .i64 (idxOf names text)))))) ⟨na_d _, na_d _, trivial⟩ rfl ?_)
          refine sops_go rfl (st_assign (v := .d _) rfl rfl rfl ?_)
          refine sops_nil ?_
          refine swp_seq ?_
          refine swp_regionQ 17 (by kernel_rfl) rfl rfl rfl ?_
          first | refine h0_go rfl (so_fieldAddr (v := .p _ _ _) rfl rfl rfl rfl rfl rfl rfl rfl rfl rfl ⟨_, rfl, ?_⟩) | refine h0_go rfl (so_fieldAddr (v := .dp _ _) rfl rfl rfl rfl rfl rfl rfl rfl rfl rfl ⟨_, rfl, ?_⟩) | refine h0_go rfl (so_fieldAddr (v := .pe _ _ _ _ _) rfl rfl rfl rfl rfl rfl rfl rfl rfl rfl ⟨_, rfl, ?_⟩)
          refine h0_go rfl (so_load (v := .d _) rfl rfl rfl rfl rfl rfl rfl rfl ⟨_, rfl, ?_⟩)
          refine h0_go rfl (st_bin rfl rfl rfl rfl rfl ⟨_, rfl, ?_⟩)
          refine h0_go rfl (st_move (v := .d _) rfl rfl rfl ⟨_, rfl, ?_⟩)
          refine h0_case 64 rfl (fun hb64 => ?_) (fun hb64 => ?_)
          · have h9 : vk = 9 := by simpa using hb64
            obtain ⟨y, rfl⟩ : ∃ y, vlist = [y] := List.length_eq_one_iff.1 (vi.one h9)
            rw [hb64, Bool.true_and] at hS
            refine h0_yes rfl rfl rfl rfl (st_move (v := .d _) rfl rfl rfl ⟨_, rfl, ?_⟩)
            refine h0_yes rfl rfl rfl rfl (st_bin rfl rfl rfl rfl rfl ⟨_, rfl, ?_⟩)
            refine h0_go rfl (st_pick (v := .d _) rfl rfl rfl rfl ⟨_, rfl, ?_⟩)
            refine h0_go rfl (st_move (v := .d _) rfl rfl rfl ⟨_, rfl, ?_⟩)
            refine h0_case 68 rfl (fun hb68 => ?_) (fun hb68 => ?_)
            · rw [show decide (idxOf names text ≥ 0) = true from hb68, Bool.true_and] at hS
              have hi0 : 0 ≤ idxOf names text := of_decide_eq_true hb68
              have hi1 : (idxOf names text).toNat < list.length := by
                have h11 : kind = 11 := by simpa using hc54
                have := firstAt_lt (fun y : ByteArray => text.toList == y.toList) names 0 (by omega) hi0
                have := ti.same (.inr h11)
                have : idxOf names text = firstAt (fun y => text.toList == y.toList) names 0 := rfl
                omega
              simp only [headB] at hS
              rw [T.hasAt_eq _ _ hi1] at hS
              have ihk := ih _ (List.getElem_mem hi1) y (ti.all _ (List.getElem_mem hi1)) (vi.all y (by simp)) true true
              obtain ⟨y1, y2, y3, y4, y5, y6, y7, y8, y9⟩ := y
              first | refine h0_yes rfl rfl rfl rfl (so_fieldAddr (v := .p _ _ _) rfl rfl rfl rfl rfl rfl rfl rfl rfl rfl ⟨_, rfl, ?_⟩) | refine h0_yes rfl rfl rfl rfl (so_fieldAddr (v := .dp _ _) rfl rfl rfl rfl rfl rfl rfl rfl rfl rfl ⟨_, rfl, ?_⟩) | refine h0_yes rfl rfl rfl rfl (so_fieldAddr (v := .pe _ _ _ _ _) rfl rfl rfl rfl rfl rfl rfl rfl rfl rfl ⟨_, rfl, ?_⟩)
              first | refine h0_yes rfl rfl rfl rfl (so_load (v := .d _) rfl rfl rfl rfl rfl rfl rfl rfl ⟨_, rfl, ?_⟩) | refine h0_yes rfl rfl rfl rfl (so_load (v := .own _ _ _ _ _) rfl rfl rfl rfl rfl rfl rfl rfl ⟨_, rfl, ?_⟩)
              refine h0_yes rfl rfl rfl rfl (st_move (v := .d _) rfl rfl rfl ⟨_, rfl, ?_⟩)
              refine h0_yes rfl rfl rfl rfl (so_indexSl rfl rfl rfl rfl rfl rfl rfl (T.rows_all _) hi0 (by rw [T.rows_len]; show idxOf names text < _; omega) (T.rows_get _ _ hi1) ⟨_, rfl, ?_⟩)
              generalize list[(idxOf names text).toNat] = x at ihk hS ⊢
              obtain ⟨x1, x2, x3⟩ := x
              first | refine h0_yes rfl rfl rfl rfl (so_load (v := .d (.agg [_, _, _])) rfl rfl rfl rfl rfl rfl rfl rfl ⟨_, rfl, ?_⟩) | refine h0_yes rfl rfl rfl rfl (so_load (v := .agg [_, _, _]) rfl rfl rfl rfl rfl rfl rfl rfl ⟨_, rfl, ?_⟩)
              first | refine h0_yes rfl rfl rfl rfl (so_fieldAddr (v := .p _ _ _) rfl rfl rfl rfl rfl rfl rfl rfl rfl rfl ⟨_, rfl, ?_⟩) | refine h0_yes rfl rfl rfl rfl (so_fieldAddr (v := .dp _ _) rfl rfl rfl rfl rfl rfl rfl rfl rfl rfl ⟨_, rfl, ?_⟩) | refine h0_yes rfl rfl rfl rfl (so_fieldAddr (v := .pe _ _ _ _ _) rfl rfl rfl rfl rfl rfl rfl rfl rfl rfl ⟨_, rfl, ?_⟩)
              first | refine h0_yes rfl rfl rfl rfl (so_load (v := .d _) rfl rfl rfl rfl rfl rfl rfl rfl ⟨_, rfl, ?_⟩) | refine h0_yes rfl rfl rfl rfl (so_load (v := .own _ _ _ _ _) rfl rfl rfl rfl rfl rfl rfl rfl ⟨_, rfl, ?_⟩)
              refine h0_yes rfl rfl rfl rfl (so_indexSl rfl rfl rfl rfl rfl rfl rfl (V.rows_all _) (by omega) (by simp [V.rows]) rfl ⟨_, rfl, ?_⟩)
              first | refine h0_yes rfl rfl rfl rfl (so_load (v := .d (.agg [_, _, _, _, _, _, _, _, _])) rfl rfl rfl rfl rfl rfl rfl rfl ⟨_, rfl, ?_⟩) | refine h0_yes rfl rfl rfl rfl (so_load (v := .agg [_, _, _, _, _, _, _, _, _]) rfl rfl rfl rfl rfl rfl rfl rfl ⟨_, rfl, ?_⟩)
              refine h0_nil ?_
              refine sops_yes rfl rfl rfl rfl (st_call rfl rfl (ihk) ⟨na_d _, na_d _, trivial⟩ rfl ?_)
              refine sops_go rfl (st_pick (v := .d _) rfl rfl rfl rfl ?_)
              refine sops_go rfl (st_assign (v := .d _) rfl rfl rfl ?_)
              refine sops_nil ?_
              refine swp_ret ?_
              with_reducible refine inblk_ret ?_
              with_reducible refine after_ret ?_
              exact fin_b rfl rfl hS
            · rw [show decide (idxOf names text ≥ 0) = false from hb68, Bool.false_and] at hS
              refine h0_no rfl rfl rfl rfl rfl ?_
              refine h0_no rfl rfl rfl rfl rfl ?_
              refine h0_no rfl rfl rfl rfl rfl ?_
              refine h0_no rfl rfl rfl rfl rfl ?_
              refine h0_no rfl rfl rfl rfl rfl ?_
              refine h0_no rfl rfl rfl rfl rfl ?_
              refine h0_no rfl rfl rfl rfl rfl ?_
              refine h0_no rfl rfl rfl rfl rfl ?_
              refine h0_no rfl rfl rfl rfl rfl ?_
              refine h0_nil ?_
              refine sops_no rfl rfl rfl rfl rfl ?_
              refine sops_go rfl (st_pick (v := .d _) rfl rfl rfl rfl ?_)
              refine sops_go rfl (st_assign (v := .d _) rfl rfl rfl ?_)
              refine sops_nil ?_
              refine swp_ret ?_
              with_reducible refine inblk_ret ?_
              with_reducible refine after_ret ?_
              exact fin_b rfl rfl hS
          · rw [hb64, Bool.false_and, Bool.false_and] at hS
            refine h0_no rfl rfl rfl rfl rfl ?_
            refine h0_no rfl rfl rfl rfl rfl ?_
            refine h0_go rfl (st_pick (v := .d _) rfl rfl rfl rfl ⟨_, rfl, ?_⟩)
            refine h0_go rfl (st_move (v := .d _) rfl rfl rfl ⟨_, rfl, ?_⟩)
            refine h0_no rfl rfl rfl rfl rfl ?_
            refine h0_no rfl rfl rfl rfl rfl ?_
            refine h0_no rfl rfl rfl rfl rfl ?_
            refine h0_no rfl rfl rfl rfl rfl ?_
            refine h0_no rfl rfl rfl rfl rfl ?_
            refine h0_no rfl rfl rfl rfl rfl ?_
            refine h0_no rfl rfl rfl rfl rfl ?_
            refine h0_no rfl rfl rfl rfl rfl ?_
            refine h0_no rfl rfl rfl rfl rfl ?_
            refine h0_nil ?_
            refine sops_no rfl rfl rfl rfl rfl ?_
            refine sops_go rfl (st_pick (v := .d _) rfl rfl rfl rfl ?_)
            refine sops_go rfl (st_assign (v := .d _) rfl rfl rfl ?_)
            refine sops_nil ?_
            refine swp_ret ?_
            with_reducible refine inblk_ret ?_
            with_reducible refine after_ret ?_
            exact fin_b rfl rfl hS
        · rw [if_neg (by rw [hc54]; simp)] at hS
          refine swp_skip ?_
          refine swp_seq ?_
          refine swp_regionQ 6 (by kernel_rfl) rfl rfl rfl ?_
          have hk8 : kind = 2 ∨ kind = 3 ∨ kind = 4 ∨ kind = 5 ∨ kind = 6 ∨ kind = 7 ∨ kind = 8 := by
            simp only [beq_eq_false_iff_ne, ne_eq] at hc10 hc12 hc24 hc54
            have := ti.leaf (by omega)
            omega
          clear hc10 hc12 hc24 hc54
          rcases hk8 with rfl | rfl | rfl | rfl | rfl | rfl | rfl
          all_goals
            first | refine h0_go rfl (so_fieldAddr (v := .p _ _ _) rfl rfl rfl rfl rfl rfl rfl rfl rfl rfl ⟨_, rfl, ?_⟩) | refine h0_go rfl (so_fieldAddr (v := .dp _ _) rfl rfl rfl rfl rfl rfl rfl rfl rfl rfl ⟨_, rfl, ?_⟩) | refine h0_go rfl (so_fieldAddr (v := .pe _ _ _ _ _) rfl rfl rfl rfl rfl rfl rfl rfl rfl rfl ⟨_, rfl, ?_⟩)
            refine h0_go rfl (so_load (v := .d _) rfl rfl rfl rfl rfl rfl rfl rfl ⟨_, rfl, ?_⟩)
            first | refine h0_go rfl (so_fieldAddr (v := .p _ _ _) rfl rfl rfl rfl rfl rfl rfl rfl rfl rfl ⟨_, rfl, ?_⟩) | refine h0_go rfl (so_fieldAddr (v := .dp _ _) rfl rfl rfl rfl rfl rfl rfl rfl rfl rfl ⟨_, rfl, ?_⟩) | refine h0_go rfl (so_fieldAddr (v := .pe _ _ _ _ _) rfl rfl rfl rfl rfl rfl rfl rfl rfl rfl ⟨_, rfl, ?_⟩)
            refine h0_go rfl (so_load (v := .d _) rfl rfl rfl rfl rfl rfl rfl rfl ⟨_, rfl, ?_⟩)
            refine h0_go rfl (so_indexArr rfl rfl rfl rfl rfl rfl rfl rfl (by omega) (by omega) ⟨_, rfl, ?_⟩)
            refine h0_go rfl (so_load (v := .d _) rfl rfl rfl rfl rfl rfl rfl rfl ⟨_, rfl, ?_⟩)
            refine h0_nil ?_
            refine sops_go rfl (st_bin rfl rfl rfl rfl rfl ?_)
            refine sops_go rfl (st_move (v := .d _) rfl rfl rfl ?_)
            refine' sops_and (d := 87) (p := 97) [88, 89, 90, 91, 92, 93, 94, 95, 96] 10 rfl rfl rfl (fun hb87 => ?a87) (fun hb87 => ?b87) ?_
            case a87 =>
              first | refine sops_yes rfl rfl rfl rfl (so_fieldAddr (v := .p _ _ _) rfl rfl rfl rfl rfl rfl rfl rfl rfl rfl ?_) | refine sops_yes rfl rfl rfl rfl (so_fieldAddr (v := .dp _ _) rfl rfl rfl rfl rfl rfl rfl rfl rfl rfl ?_) | refine sops_yes rfl rfl rfl rfl (so_fieldAddr (v := .pe _ _ _ _ _) rfl rfl rfl rfl rfl rfl rfl rfl rfl rfl ?_)
              refine sops_yes rfl rfl rfl rfl (so_load (v := .d _) rfl rfl rfl rfl rfl rfl rfl rfl ?_)
              refine sops_yes rfl rfl rfl rfl (st_bin rfl rfl rfl rfl rfl ?_)
              refine sops_yes rfl rfl rfl rfl (st_move (v := .d _) rfl rfl rfl ?_)
              refine' sops_or (d := 91) (p := 96) [92, 93, 94, 95] 5 rfl rfl rfl (fun hb91 => ?a91) (fun hb91 => ?b91) ?_
              case a91 =>
                first | refine sops_yes rfl rfl rfl rfl (so_fieldAddr (v := .p _ _ _) rfl rfl rfl rfl rfl rfl rfl rfl rfl rfl ?_) | refine sops_yes rfl rfl rfl rfl (so_fieldAddr (v := .dp _ _) rfl rfl rfl rfl rfl rfl rfl rfl rfl rfl ?_) | refine sops_yes rfl rfl rfl rfl (so_fieldAddr (v := .pe _ _ _ _ _) rfl rfl rfl rfl rfl rfl rfl rfl rfl rfl ?_)
                first | refine sops_yes rfl rfl rfl rfl (so_fieldAddr (v := .p _ _ _) rfl rfl rfl rfl rfl rfl rfl rfl rfl rfl ?_) | refine sops_yes rfl rfl rfl rfl (so_fieldAddr (v := .dp _ _) rfl rfl rfl rfl rfl rfl rfl rfl rfl rfl ?_) | refine sops_yes rfl rfl rfl rfl (so_fieldAddr (v := .pe _ _ _ _ _) rfl rfl rfl rfl rfl rfl rfl rfl rfl rfl ?_)
                refine sops_yes rfl rfl rfl rfl (so_load (v := .d _) rfl rfl rfl rfl rfl rfl rfl rfl ?_)
                refine sops_yes rfl rfl rfl rfl (st_bin rfl rfl rfl rfl rfl ?_)
                refine sops_yes rfl rfl rfl rfl (st_pick (v := .d _) rfl rfl rfl rfl ?_)
                refine sops_nil ?_
                exact ⟨rfl, rfl, rfl, rfl, [_, _, _, _], rfl, rfl⟩
              case b91 =>
                refine sops_no rfl rfl rfl rfl rfl ?_
                refine sops_no rfl rfl rfl rfl rfl ?_
                refine sops_no rfl rfl rfl rfl rfl ?_
                refine sops_no rfl rfl rfl rfl rfl ?_
                refine sops_yes rfl rfl rfl rfl (st_pick (v := .d _) rfl rfl rfl rfl ?_)
                refine sops_nil ?_
                exact ⟨rfl, rfl, rfl, rfl, [_, _, _, _], rfl, rfl⟩
              refine sops_go rfl (st_pick (v := .d _) rfl rfl rfl rfl ?_)
              refine sops_nil ?_
              exact ⟨rfl, rfl, rfl, rfl, [_, _, _, _, _, _, _, _, _], rfl, rfl⟩
            case b87 =>
              refine sops_no rfl rfl rfl rfl rfl ?_
              refine sops_no rfl rfl rfl rfl rfl ?_
              refine sops_no rfl rfl rfl rfl rfl ?_
              refine sops_no rfl rfl rfl rfl rfl ?_
              refine sops_un rfl rfl rfl rfl rfl ?_
              refine sops_un rfl rfl rfl rfl rfl ?_
              refine sops_un rfl rfl rfl rfl rfl ?_
              refine sops_un rfl rfl rfl rfl rfl ?_
              refine sops_no rfl rfl rfl rfl rfl ?_
              refine sops_go rfl (st_pick (v := .d _) rfl rfl rfl rfl ?_)
              refine sops_nil ?_
              exact ⟨rfl, rfl, rfl, rfl, [_, _, _, _, _, _, _, _, _], rfl, rfl⟩
            refine sops_go rfl (st_assign (v := .d _) rfl rfl rfl ?_)
            refine sops_nil ?_
            refine swp_ret ?_
            exact fin_b rfl rfl (by rw [hS]; simp_all [kindOf])
end Go.Proofs.YtdcpnpcmgfmenaaGreatDoor
/-
  Walks: is a type part of another one? Conditions: none.
-/
set_option linter.unusedVariables false
set_option maxRecDepth 100000
namespace Go.Proofs.YtdcpnpcmgfmenaaGreatDoor
open Go Go.Proofs.YtdcpnpcmgfmenaaGreatDoor.Lg

/-- Where a name stands. -/
def pget : List (ByteArray × Nat) → ByteArray → Option Nat
  | [], _ => none
  | p :: r, s => if p.1 = s then some p.2 else pget r s
theorem pget_none : ∀ (es : List (ByteArray × Nat)) (s : ByteArray), pget es s = none → ∀ p ∈ es, p.1 ≠ s
  | p :: r, s, h, q, hq => by
    unfold pget at h
    split at h
    · cases h
    · rename_i hp
      rcases List.mem_cons.1 hq with rfl | hq
      · exact hp
      · exact pget_none r s h q hq
theorem pget_some : ∀ (es : List (ByteArray × Nat)) (s : ByteArray) (n : Nat), pget es s = some n → ∃ j : Nat, es[j]? = some (s, n)
  | p :: r, s, n, h => by
    unfold pget at h
    split at h
    · rename_i hp
      injection h with h
      exact ⟨0, by simp [← hp, ← h]⟩
    · obtain ⟨j, hj⟩ := pget_some r s n h
      exact ⟨j + 1, by simpa using hj⟩
theorem encM_keys (es : List (ByteArray × Nat)) : ∀ p ∈ encM es, Go.MapKept.IsKey .string p.1 := by
  intro p hp
  obtain ⟨q, _, rfl⟩ := List.mem_map.1 hp
  trivial
theorem encM_get (es : List (ByteArray × Nat)) (s : ByteArray) : mget (encM es) (.string s) ((pget es s).map fun n : Nat => Value.int .i64 (n : Int)) := by
  cases h : pget es s with
  | none =>
    intro p hp
    obtain ⟨q, hq, rfl⟩ := List.mem_map.1 hp
    have := pget_none es s h q hq
    simpa using this
  | some n =>
    obtain ⟨j, hj⟩ := pget_some es s n h
    exact ⟨j, by simp [encM, hj]⟩
theorem encM_one {es : List (ByteArray × Nat)} (hn : (es.map (·.1)).Nodup) (s : ByteArray) : ∀ (i j : Nat) v v', (encM es)[i]? = some (.string s, v) → (encM es)[j]? = some (.string s, v') → v = v' := by
  intro i j v v' h1 h2
  simp only [encM, List.getElem?_map, Option.map_eq_some_iff] at h1 h2
  obtain ⟨p, hp, e1⟩ := h1
  obtain ⟨q, hq, e2⟩ := h2
  simp only [Prod.mk.injEq, Value.string.injEq] at e1 e2
  have hi : i = j := by
    have h1 : i < (es.map (·.1)).length := by simp; exact (List.getElem?_eq_some_iff.1 hp).1
    have h2 : j < (es.map (·.1)).length := by simp; exact (List.getElem?_eq_some_iff.1 hq).1
    obtain ⟨_, g1⟩ := List.getElem?_eq_some_iff.1 hp
    obtain ⟨_, g2⟩ := List.getElem?_eq_some_iff.1 hq
    rcases Nat.lt_trichotomy i j with h | h | h
    · exact absurd (by simp [g1, g2, e1.1, e2.1]) (List.pairwise_iff_getElem.1 hn i j h1 h2 h)
    · exact h
    · exact absurd (by simp [g1, g2, e1.1, e2.1]) (List.pairwise_iff_getElem.1 hn j i h2 h1 h)
  subst hi
  rw [hp] at hq
  injection hq with hq
  subst hq
  rw [← e1.2, ← e2.2]
theorem placesOf_nodup (l : List ByteArray) : ((placesOf l).map (·.1)).Nodup := placesFrom_nodup l 0 [] (by simp)

theorem so_placeGet {q : Md} [Qt q] {B : Base} {Q : Exit → St → Prop} {σ : St} {o : Oper} {K : St → Prop} {E : Env} {t : TypeId} {x ix : Operand} (ho : o.op = .lookup t x ix true) {i : TI} (hi : E.ti t = some i) {kt et : TypeId} (ht : i.desc = .map kt et) {jk je : TI} (hjk : E.ti kt = some jk) (hje : E.ti et = some je) (hz : je.zero = .int .i64 0) (hd' : jk.desc = .string)
    {es : List (ByteArray × Nat)} (hx : ev E σ x = .d (.map (encM es))) {s : ByteArray} (hk : ev E σ ix = .d (.v (.string s))) (hd : dlt o.dst σ.n = true) (hnd : (es.map (·.1)).Nodup)
    (hK : K (σ.put o.dst (.tup [.d (.v (.int .i64 ((pget es s).getD 0 : Nat))), .d (.v (.bool (pget es s).isSome))]))) : Step q E B o K Q σ := by
  have hg := encM_get es s
  cases h : pget es s with
  | none =>
    rw [h] at hK hg
    exact so_lookupD ho hi ht hjk hje hx hk hd (by rw [hd']; trivial) (by rw [hd']; exact encM_keys es) (encM_one hnd s) hg (by simpa [hz, constAV] using hK)
  | some n =>
    rw [h] at hK hg
    exact so_lookupD ho hi ht hjk hje hx hk hd (by rw [hd']; trivial) (by rw [hd']; exact encM_keys es) (encM_one hnd s) hg (by simpa using hK)

mutual
def T.sub : T → T → Bool
  | .mk ka na la, b =>
    if ((b.kind == 1) || ((ka == 5) && (b.kind == 4))) = true then true
    else if (ka != b.kind) = true then false
    else if (ka == 11) = true then T.subU la na (placesOf b.names) b.list
    else rowsEq strEq na b.names && T.subR la b.list
def T.subU : List T → List ByteArray → List (ByteArray × Nat) → List T → Bool
  | x :: r, n :: ns, pl, lb => (match pget pl n with | none => false | some k => (match lb[k]? with | none => false | some y => x.sub y)) && T.subU r ns pl lb
  | _, _, _, _ => true
def T.subR : List T → List T → Bool
  | [], [] => true
  | x :: a, y :: b => x.sub y && T.subR a b
  | _, _ => false
end
theorem T.subR_eq : ∀ a b : List T, T.subR a b = rowsEq T.sub a b
  | [], [] => by rw [T.subR, rowsEq]
  | [], _ :: _ => by rw [T.subR, rowsEq] <;> simp
  | _ :: _, [] => by rw [T.subR, rowsEq] <;> simp
  | x :: a, y :: b => by rw [T.subR, rowsEq, T.subR_eq a b]
theorem T.subU_nil (l : List T) (pl : List (ByteArray × Nat)) (lb : List T) : T.subU l [] pl lb = true := by cases l <;> rw [T.subU] <;> simp

theorem mput_vals : ∀ (es : List (ByteArray × Nat)) (s : ByteArray) (i : Nat) (p : ByteArray × Nat), p ∈ mput es s i → p = (s, i) ∨ p ∈ es
  | [], s, i, p, h => by simpa [mput] using h
  | q :: r, s, i, p, h => by
    unfold mput at h
    split at h
    · rcases List.mem_cons.1 h with h | h
      · exact .inl h
      · exact .inr (List.mem_cons.2 (.inr h))
    · rcases List.mem_cons.1 h with h | h
      · exact .inr (List.mem_cons.2 (.inl h))
      · rcases mput_vals r s i p h with h | h
        · exact .inl h
        · exact .inr (List.mem_cons.2 (.inr h))
theorem placesFrom_lt : ∀ (l : List ByteArray) (i : Nat) (es : List (ByteArray × Nat)), (∀ p ∈ es, p.2 < i) → ∀ p ∈ placesFrom l i es, p.2 < i + l.length
  | [], i, es, h, p, hp => by simpa using h p hp
  | s :: r, i, es, h, p, hp => by
    have := placesFrom_lt r (i + 1) (mput es s i) (fun q hq => by
      rcases mput_vals es s i q hq with rfl | hq
      · simp
      · have := h q hq; omega) p hp
    simp only [List.length_cons]; omega
theorem pget_lt {l : List ByteArray} {s : ByteArray} {k : Nat} (h : pget (placesOf l) s = some k) : k < l.length := by
  obtain ⟨j, hj⟩ := pget_some _ _ _ h
  have := placesFrom_lt l 0 [] (by simp) _ (List.mem_of_getElem? hj)
  simpa using this

theorem sub_pure (a : T) : ∀ b : T, a.formed = true → b.formed = true → ∀ s s', Pure env 51 [.d (a.df s), .d (b.df s')] (.d (.v (.bool (a.sub b)))) := by
  revert a
  apply T.ind
  intro ka na la ih b ha hb s s'
  obtain ⟨kb, nb, lb⟩ := b
  have ia := T.inv ha
  have ib := T.inv hb
  have hS : (T.mk ka na la).sub (T.mk kb nb lb) = if ((kb == 1) || ((ka == 5) && (kb == 4))) = true then true
    else if (ka != kb) = true then false
    else if (ka == 11) = true then T.subU la na (placesOf nb) lb
    else rowsEq strEq na nb && T.subR la lb := by rw [T.sub]; rfl
  refine pure_of_body Tryz.func51 rfl rfl rfl fun B hB => ?_
  refine swp_seq ?_
  refine swp_region ?_
  refine sops_go rfl (so_box (cs := [_, _, _]) rfl rfl rfl ?_)
  refine sops_go rfl (so_box (cs := [_, _, _]) rfl rfl rfl ?_)
  refine sops_go rfl (st_assign (v := .d _) rfl rfl rfl ?_)
  refine sops_nil ?_
  refine swp_seq ?_
  refine swp_block ?_
  refine swp_seq ?_
  refine swp_region ?_
  first | refine sops_go rfl (so_fieldAddr (v := .p _ _ _) rfl rfl rfl rfl rfl rfl rfl rfl rfl rfl ?_) | refine sops_go rfl (so_fieldAddr (v := .dp _ _) rfl rfl rfl rfl rfl rfl rfl rfl rfl rfl ?_) | refine sops_go rfl (so_fieldAddr (v := .pe _ _ _ _ _) rfl rfl rfl rfl rfl rfl rfl rfl rfl rfl ?_)
  refine sops_go rfl (so_load (v := .d _) rfl rfl rfl rfl rfl rfl rfl rfl ?_)
  refine sops_go rfl (st_bin rfl rfl rfl rfl rfl ?_)
  refine sops_go rfl (st_move (v := .d _) rfl rfl rfl ?_)
  refine' sops_or (d := 14) (p := 23) [15, 16, 17, 18, 19, 20, 21, 22] 9 rfl rfl rfl (fun hb14 => ?a14) (fun hb14 => ?b14) ?_
  case a14 =>
    first | refine sops_yes rfl rfl rfl rfl (so_fieldAddr (v := .p _ _ _) rfl rfl rfl rfl rfl rfl rfl rfl rfl rfl ?_) | refine sops_yes rfl rfl rfl rfl (so_fieldAddr (v := .dp _ _) rfl rfl rfl rfl rfl rfl rfl rfl rfl rfl ?_) | refine sops_yes rfl rfl rfl rfl (so_fieldAddr (v := .pe _ _ _ _ _) rfl rfl rfl rfl rfl rfl rfl rfl rfl rfl ?_)
    refine sops_yes rfl rfl rfl rfl (so_load (v := .d _) rfl rfl rfl rfl rfl rfl rfl rfl ?_)
    refine sops_yes rfl rfl rfl rfl (st_bin rfl rfl rfl rfl rfl ?_)
    refine sops_yes rfl rfl rfl rfl (st_move (v := .d _) rfl rfl rfl ?_)
    refine' sops_and (d := 18) (p := 22) [19, 20, 21] 4 rfl rfl rfl (fun hb18 => ?a18) (fun hb18 => ?b18) ?_
    case a18 =>
      first | refine sops_yes rfl rfl rfl rfl (so_fieldAddr (v := .p _ _ _) rfl rfl rfl rfl rfl rfl rfl rfl rfl rfl ?_) | refine sops_yes rfl rfl rfl rfl (so_fieldAddr (v := .dp _ _) rfl rfl rfl rfl rfl rfl rfl rfl rfl rfl ?_) | refine sops_yes rfl rfl rfl rfl (so_fieldAddr (v := .pe _ _ _ _ _) rfl rfl rfl rfl rfl rfl rfl rfl rfl rfl ?_)
      refine sops_yes rfl rfl rfl rfl (so_load (v := .d _) rfl rfl rfl rfl rfl rfl rfl rfl ?_)
      refine sops_yes rfl rfl rfl rfl (st_bin rfl rfl rfl rfl rfl ?_)
      refine sops_yes rfl rfl rfl rfl (st_pick (v := .d _) rfl rfl rfl rfl ?_)
      refine sops_nil ?_
      exact ⟨rfl, rfl, rfl, rfl, [_, _, _], rfl, rfl⟩
    case b18 =>
      refine sops_no rfl rfl rfl rfl rfl ?_
      refine sops_no rfl rfl rfl rfl rfl ?_
      refine sops_no rfl rfl rfl rfl rfl ?_
      refine sops_yes rfl rfl rfl rfl (st_pick (v := .d _) rfl rfl rfl rfl ?_)
      refine sops_nil ?_
      exact ⟨rfl, rfl, rfl, rfl, [_, _, _], rfl, rfl⟩
    refine sops_go rfl (st_pick (v := .d _) rfl rfl rfl rfl ?_)
    refine sops_nil ?_
    exact ⟨rfl, rfl, rfl, rfl, [_, _, _, _, _, _, _, _], rfl, rfl⟩
  case b14 =>
    refine sops_no rfl rfl rfl rfl rfl ?_
    refine sops_no rfl rfl rfl rfl rfl ?_
    refine sops_no rfl rfl rfl rfl rfl ?_
    refine sops_no rfl rfl rfl rfl rfl ?_
    refine sops_un rfl rfl rfl rfl rfl ?_
    refine sops_un rfl rfl rfl rfl rfl ?_
    refine sops_un rfl rfl rfl rfl rfl ?_
    refine sops_no rfl rfl rfl rfl rfl ?_
    refine sops_go rfl (st_pick (v := .d _) rfl rfl rfl rfl ?_)
    refine sops_nil ?_
    exact ⟨rfl, rfl, rfl, rfl, [_, _, _, _, _, _, _, _], rfl, rfl⟩
  refine sops_go rfl (st_assign (v := .d _) rfl rfl rfl ?_)
  refine sops_nil ?_
  refine swp_cond _ rfl (fun hc10 => ?_) (fun hc10 => ?_)
  · rw [if_pos hc10] at hS
    refine swp_seq ?_
    refine swp_region ?_
    refine sops_go rfl (st_assign (v := .d _) rfl rfl rfl ?_)
    refine sops_nil ?_
    refine swp_ret ?_
    with_reducible refine inblk_ret ?_
    with_reducible refine after_ret ?_
    exact fin_b rfl rfl hS
  · rw [if_neg (by rw [hc10]; simp)] at hS
    refine swp_seq ?_
    refine swp_region ?_
    first | refine sops_go rfl (so_fieldAddr (v := .p _ _ _) rfl rfl rfl rfl rfl rfl rfl rfl rfl rfl ?_) | refine sops_go rfl (so_fieldAddr (v := .dp _ _) rfl rfl rfl rfl rfl rfl rfl rfl rfl rfl ?_) | refine sops_go rfl (so_fieldAddr (v := .pe _ _ _ _ _) rfl rfl rfl rfl rfl rfl rfl rfl rfl rfl ?_)
    refine sops_go rfl (so_load (v := .d _) rfl rfl rfl rfl rfl rfl rfl rfl ?_)
    first | refine sops_go rfl (so_fieldAddr (v := .p _ _ _) rfl rfl rfl rfl rfl rfl rfl rfl rfl rfl ?_) | refine sops_go rfl (so_fieldAddr (v := .dp _ _) rfl rfl rfl rfl rfl rfl rfl rfl rfl rfl ?_) | refine sops_go rfl (so_fieldAddr (v := .pe _ _ _ _ _) rfl rfl rfl rfl rfl rfl rfl rfl rfl rfl ?_)
    refine sops_go rfl (so_load (v := .d _) rfl rfl rfl rfl rfl rfl rfl rfl ?_)
    refine sops_go rfl (st_bin rfl rfl rfl rfl rfl ?_)
    refine sops_go rfl (st_assign (v := .d _) rfl rfl rfl ?_)
    refine sops_nil ?_
    refine swp_cond _ rfl (fun hc24 => ?_) (fun hc24 => ?_)
    · rw [if_pos hc24] at hS
      refine swp_seq ?_
      refine swp_region ?_
      refine sops_go rfl (st_assign (v := .d _) rfl rfl rfl ?_)
      refine sops_nil ?_
      refine swp_ret ?_
      with_reducible refine inblk_ret ?_
      with_reducible refine after_ret ?_
      exact fin_b rfl rfl hS
    · rw [if_neg (by rw [hc24]; simp)] at hS
      refine swp_seq ?_
      refine swp_region ?_
      first | refine sops_go rfl (so_fieldAddr (v := .p _ _ _) rfl rfl rfl rfl rfl rfl rfl rfl rfl rfl ?_) | refine sops_go rfl (so_fieldAddr (v := .dp _ _) rfl rfl rfl rfl rfl rfl rfl rfl rfl rfl ?_) | refine sops_go rfl (so_fieldAddr (v := .pe _ _ _ _ _) rfl rfl rfl rfl rfl rfl rfl rfl rfl rfl ?_)
      refine sops_go rfl (so_load (v := .d _) rfl rfl rfl rfl rfl rfl rfl rfl ?_)
      refine sops_go rfl (st_bin rfl rfl rfl rfl rfl ?_)
      refine sops_go rfl (st_assign (v := .d _) rfl rfl rfl ?_)
      refine sops_nil ?_
      refine swp_cond _ rfl (fun hc30 => ?_) (fun hc30 => ?_)
      · rw [if_pos hc30] at hS
        have h11 : ka = 11 := by simpa using hc30
        have h11b : kb = 11 := by have : ka = kb := by simpa using hc24
                                  omega
        have hla := ia.same (.inr h11)
        have hlb := ib.same (.inr h11b)
        refine swp_seq ?_
        refine swp_region ?_
        first | refine sops_go rfl (so_fieldAddr (v := .p _ _ _) rfl rfl rfl rfl rfl rfl rfl rfl rfl rfl ?_) | refine sops_go rfl (so_fieldAddr (v := .dp _ _) rfl rfl rfl rfl rfl rfl rfl rfl rfl rfl ?_) | refine sops_go rfl (so_fieldAddr (v := .pe _ _ _ _ _) rfl rfl rfl rfl rfl rfl rfl rfl rfl rfl ?_)
        first | refine sops_go rfl (so_load (v := .d _) rfl rfl rfl rfl rfl rfl rfl rfl ?_) | refine sops_go rfl (so_load (v := .own _ _ _ _ _) rfl rfl rfl rfl rfl rfl rfl rfl ?_)
        refine sops_go rfl (st_call rfl rfl (places_pure s' nb) ⟨na_d _, trivial⟩ rfl ?_)
        first | refine sops_go rfl (st_assign (v := .map _) rfl rfl rfl ?_) | refine sops_go rfl (st_assign (v := .d _) rfl rfl rfl ?_)
        refine sops_nil ?_
        refine swp_seq ?_
        refine swp_seq ?_
        refine swp_region ?_
        first | refine sops_go rfl (so_fieldAddr (v := .p _ _ _) rfl rfl rfl rfl rfl rfl rfl rfl rfl rfl ?_) | refine sops_go rfl (so_fieldAddr (v := .dp _ _) rfl rfl rfl rfl rfl rfl rfl rfl rfl rfl ?_) | refine sops_go rfl (so_fieldAddr (v := .pe _ _ _ _ _) rfl rfl rfl rfl rfl rfl rfl rfl rfl rfl ?_)
        first | refine sops_go rfl (so_load (v := .d _) rfl rfl rfl rfl rfl rfl rfl rfl ?_) | refine sops_go rfl (so_load (v := .own _ _ _ _ _) rfl rfl rfl rfl rfl rfl rfl rfl ?_)
        refine sops_go rfl (so_lenSl rfl rfl rfl rfl rfl ?_)
        refine sops_go rfl (st_move (v := .d _) rfl rfl rfl ?_)
        refine sops_nil ?_
        refine swp_block ?_
        refine swp_lenT (i := 38) rfl fun hvl => ?_
        rw [strRows_len] at hvl
        refine swp_loopF (F := fun k : Nat => { t := upd (upd (upd (upd (upd (upd (fun _ => .any) 2 (.p 0 0 0)) 3 (.p 1 0 0)) 5 (.d (.map (encM (placesOf nb))))) 38 (.d (.sl s (strRows na)))) 39 (.d (.v (.int .i64 na.length)))) 40 (.d (.v (.int .i64 k))), n := 80, h := upd (upd (fun _ => .dead) 0 (.cells [.any, .any, .d (.sl s (T.rows la))])) 1 (.cells [.any, .any, .d (.sl s' (T.rows lb))]), nx := 2 })
          (fun k => k ≤ na.length ∧ (T.mk ka na la).sub (T.mk kb nb lb) = T.subU (la.drop k) (na.drop k) (placesOf nb) lb) (fun k => na.length - k) 0 ⟨Nat.zero_le _, hS⟩ ?_ ?_
        · refine wk_of rfl (Nat.le_of_ble_eq_true rfl) (by rw [hB]; exact Nat.zero_le _) (tle_upd (le_eq rfl rfl) (tle_upd (le_eq (int_eq (by rw [strRows_len])) rfl) (tle_upd (le_eq rfl rfl) (tle_upd (le_eq rfl rfl) (tle_upd (le_eq rfl rfl) (tle_upd (le_eq rfl rfl) (tle_any _))))))) (hle_upd (.cells _ _ ⟨le_any _, le_any _, le_eq rfl rfl, trivial⟩) (hle_upd (.cells _ _ ⟨le_any _, le_any _, le_eq rfl rfl, trivial⟩) (hle_dead _))) (dead_upd (Nat.le_of_ble_eq_true rfl) (dead_upd (Nat.le_of_ble_eq_true rfl) (dead_none)))
        rintro k ⟨hk, ha⟩
        refine swp_seq ?_
        refine swp_region ?_
        refine sops_go rfl (st_bin rfl rfl rfl rfl rfl ?_)
        refine sops_nil ?_
        refine swp_seq ?_
        refine swp_cond _ rfl (fun hc41 => ?_) (fun hc41 => ?_)
        · have hlt : k < na.length := by have := of_decide_eq_true hc41; omega
          have hk2 : k < la.length := by omega
          rw [List.drop_eq_getElem_cons hk2, List.drop_eq_getElem_cons hlt, T.subU] at ha
          have ihk := ih _ (List.getElem_mem hk2)
          have ifk := ia.all _ (List.getElem_mem hk2)
          refine swp_skip ?_
          refine swp_seq ?_
          refine swp_block ?_
          refine swp_seq ?_
          refine swp_region ?_
          refine sops_go rfl (st_move (v := .d _) rfl rfl rfl ?_)
          refine sops_go rfl (so_indexSl rfl rfl rfl rfl rfl rfl rfl (strRows_all _) (by omega) (by rw [strRows_len]; omega) (strRows_get _ _ hlt) ?_)
          generalize na[k] = name at ha ⊢
          refine sops_go rfl (so_load (v := .d _) rfl rfl rfl rfl rfl rfl rfl rfl ?_)
          refine sops_go rfl (st_assign (v := .d _) rfl rfl rfl ?_)
          refine sops_go rfl (st_assign (v := .d _) rfl rfl rfl ?_)
          refine sops_nil ?_
          refine swp_seq ?_
          refine swp_region ?_
          first | refine sops_go rfl (st_move (v := .map _) rfl rfl rfl ?_) | refine sops_go rfl (st_move (v := .d _) rfl rfl rfl ?_)
          refine sops_go rfl (st_move (v := .d _) rfl rfl rfl ?_)
          refine sops_go rfl (so_placeGet rfl rfl rfl rfl rfl rfl rfl rfl rfl rfl (placesOf_nodup nb) ?_)
          refine sops_go rfl (st_move (v := .tup _) rfl rfl rfl ?_)
          refine sops_go rfl (st_extract (c := .d _) rfl rfl rfl rfl ?_)
          refine sops_go rfl (st_extract (c := .d _) rfl rfl rfl rfl ?_)
          refine sops_go rfl (st_assign (v := .d _) rfl rfl rfl ?_)
          refine sops_go rfl (st_assign (v := .d _) rfl rfl rfl ?_)
          refine sops_nil ?_
          refine swp_seq ?_
          refine swp_regionQ 13 (by kernel_rfl) rfl rfl rfl ?_
          refine h0_go rfl (st_move (v := .d _) rfl rfl rfl ⟨_, rfl, ?_⟩)
          refine h0_go rfl (st_not rfl rfl rfl ⟨_, rfl, ?_⟩)
          refine h0_go rfl (st_move (v := .d _) rfl rfl rfl ⟨_, rfl, ?_⟩)
          refine h0_case 53 rfl (fun hb53 => ?_) (fun hb53 => ?_)
          · have hp : pget (placesOf nb) name = none := by simpa using hb53
            rw [hp, Bool.false_and] at ha
            have hS := ha
            refine h0_no rfl rfl rfl rfl rfl ?_
            refine h0_no rfl rfl rfl rfl rfl ?_
            refine h0_no rfl rfl rfl rfl rfl ?_
            refine h0_no rfl rfl rfl rfl rfl ?_
            refine h0_no rfl rfl rfl rfl rfl ?_
            refine h0_no rfl rfl rfl rfl rfl ?_
            refine h0_no rfl rfl rfl rfl rfl ?_
            refine h0_no rfl rfl rfl rfl rfl ?_
            refine h0_no rfl rfl rfl rfl rfl ?_
            refine h0_no rfl rfl rfl rfl rfl ?_
            refine h0_nil ?_
            refine sops_no rfl rfl rfl rfl rfl ?_
            refine sops_no rfl rfl rfl rfl rfl ?_
            refine sops_go rfl (st_pick (v := .d _) rfl rfl rfl rfl ?_)
            refine sops_nil ?_
            refine swp_condT rfl ?_
            refine swp_seq ?_
            refine swp_region ?_
            refine sops_go rfl (st_assign (v := .d _) rfl rfl rfl ?_)
            refine sops_nil ?_
            refine swp_ret ?_
            with_reducible refine inblk_ret ?_
            with_reducible refine after_ret ?_
            with_reducible refine after_ret ?_
            with_reducible refine inblk_ret ?_
            with_reducible refine after_ret ?_
            with_reducible refine inblk_ret ?_
            with_reducible refine after_ret ?_
            exact fin_b rfl rfl hS
          · obtain ⟨j, hp⟩ : ∃ j, pget (placesOf nb) name = some j := by
              cases h : pget (placesOf nb) name with
              | none => rw [h] at hb53; simp at hb53
              | some j => exact ⟨j, rfl⟩
            have hj : j < lb.length := by have := pget_lt hp; omega
            simp only [hp, List.getElem?_eq_getElem hj] at ha
            have ihk := ihk _ ifk (ib.all _ (List.getElem_mem hj)) true true
            have hpj : (pget (placesOf nb) name).getD 0 = j := by rw [hp]; rfl
            rw [hpj]
            first | refine h0_yes rfl rfl rfl rfl (so_fieldAddr (v := .p _ _ _) rfl rfl rfl rfl rfl rfl rfl rfl rfl rfl ⟨_, rfl, ?_⟩) | refine h0_yes rfl rfl rfl rfl (so_fieldAddr (v := .dp _ _) rfl rfl rfl rfl rfl rfl rfl rfl rfl rfl ⟨_, rfl, ?_⟩) | refine h0_yes rfl rfl rfl rfl (so_fieldAddr (v := .pe _ _ _ _ _) rfl rfl rfl rfl rfl rfl rfl rfl rfl rfl ⟨_, rfl, ?_⟩)
            first | refine h0_yes rfl rfl rfl rfl (so_load (v := .d _) rfl rfl rfl rfl rfl rfl rfl rfl ⟨_, rfl, ?_⟩) | refine h0_yes rfl rfl rfl rfl (so_load (v := .own _ _ _ _ _) rfl rfl rfl rfl rfl rfl rfl rfl ⟨_, rfl, ?_⟩)
            refine h0_yes rfl rfl rfl rfl (st_move (v := .d _) rfl rfl rfl ⟨_, rfl, ?_⟩)
            refine h0_yes rfl rfl rfl rfl (so_indexSl rfl rfl rfl rfl rfl rfl rfl (T.rows_all _) (by omega) (by rw [T.rows_len]; omega) (T.rows_get _ _ hk2) ⟨_, rfl, ?_⟩)
            generalize la[k] = x at ihk ha ⊢
            obtain ⟨x1, x2, x3⟩ := x
            first | refine h0_yes rfl rfl rfl rfl (so_load (v := .d (.agg [_, _, _])) rfl rfl rfl rfl rfl rfl rfl rfl ⟨_, rfl, ?_⟩) | refine h0_yes rfl rfl rfl rfl (so_load (v := .agg [_, _, _]) rfl rfl rfl rfl rfl rfl rfl rfl ⟨_, rfl, ?_⟩)
            first | refine h0_yes rfl rfl rfl rfl (so_fieldAddr (v := .p _ _ _) rfl rfl rfl rfl rfl rfl rfl rfl rfl rfl ⟨_, rfl, ?_⟩) | refine h0_yes rfl rfl rfl rfl (so_fieldAddr (v := .dp _ _) rfl rfl rfl rfl rfl rfl rfl rfl rfl rfl ⟨_, rfl, ?_⟩) | refine h0_yes rfl rfl rfl rfl (so_fieldAddr (v := .pe _ _ _ _ _) rfl rfl rfl rfl rfl rfl rfl rfl rfl rfl ⟨_, rfl, ?_⟩)
            first | refine h0_yes rfl rfl rfl rfl (so_load (v := .d _) rfl rfl rfl rfl rfl rfl rfl rfl ⟨_, rfl, ?_⟩) | refine h0_yes rfl rfl rfl rfl (so_load (v := .own _ _ _ _ _) rfl rfl rfl rfl rfl rfl rfl rfl ⟨_, rfl, ?_⟩)
            refine h0_yes rfl rfl rfl rfl (st_move (v := .d _) rfl rfl rfl ⟨_, rfl, ?_⟩)
            refine h0_yes rfl rfl rfl rfl (so_indexSl rfl rfl rfl rfl rfl rfl rfl (T.rows_all _) (by omega) (by rw [T.rows_len]; omega) (T.rows_get _ _ hj) ⟨_, rfl, ?_⟩)
            generalize lb[j] = y at ihk ha ⊢
            obtain ⟨y1, y2, y3⟩ := y
            first | refine h0_yes rfl rfl rfl rfl (so_load (v := .d (.agg [_, _, _])) rfl rfl rfl rfl rfl rfl rfl rfl ⟨_, rfl, ?_⟩) | refine h0_yes rfl rfl rfl rfl (so_load (v := .agg [_, _, _]) rfl rfl rfl rfl rfl rfl rfl rfl ⟨_, rfl, ?_⟩)
            refine h0_nil ?_
            refine sops_yes rfl rfl rfl rfl (st_call rfl rfl (ihk) ⟨na_d _, na_d _, trivial⟩ rfl ?_)
            refine sops_yes rfl rfl rfl rfl (st_not rfl rfl rfl ?_)
            refine sops_go rfl (st_pick (v := .d _) rfl rfl rfl rfl ?_)
            refine sops_nil ?_
            refine swp_cond _ rfl (fun hc66 => ?_) (fun hc66 => ?_)
            · rw [show (T.mk x1 x2 x3).sub (T.mk y1 y2 y3) = false by simpa using hc66, Bool.false_and] at ha
              have hS := ha
              refine swp_seq ?_
              refine swp_region ?_
              refine sops_go rfl (st_assign (v := .d _) rfl rfl rfl ?_)
              refine sops_nil ?_
              refine swp_ret ?_
              with_reducible refine inblk_ret ?_
              with_reducible refine after_ret ?_
              with_reducible refine after_ret ?_
              with_reducible refine inblk_ret ?_
              with_reducible refine after_ret ?_
              with_reducible refine inblk_ret ?_
              with_reducible refine after_ret ?_
              exact fin_b rfl rfl hS
            · rw [show (T.mk x1 x2 x3).sub (T.mk y1 y2 y3) = true by simpa using hc66, Bool.true_and] at ha
              refine swp_skip ?_
              refine swp_region ?_
              refine sops_go rfl (st_bin rfl rfl rfl rfl rfl ?_)
              refine sops_go rfl (st_move (v := .d _) rfl rfl rfl ?_)
              refine sops_nil ?_
              refine ⟨k + 1, ⟨hlt, ha⟩, by omega, ?_⟩
              refine wk_of rfl (Nat.le_of_ble_eq_true rfl) (by rw [hB]; exact Nat.zero_le _) (tle_upd (le_eq (next_i64 hlt hvl) rfl) (tle_upd (le_eq rfl rfl) (tle_upd (le_eq rfl rfl) (tle_upd (le_eq rfl rfl) (tle_upd (le_eq rfl rfl) (tle_upd (le_eq rfl rfl) (tle_any _))))))) (hle_upd (.cells _ _ ⟨le_any _, le_any _, le_eq rfl rfl, trivial⟩) (hle_upd (.cells _ _ ⟨le_any _, le_any _, le_eq rfl rfl, trivial⟩) (hle_dead _))) (dead_upd (Nat.le_of_ble_eq_true rfl) (dead_upd (Nat.le_of_ble_eq_true rfl) (dead_none)))
        · have he : k = na.length := by have := of_decide_eq_false hc41; omega
          rw [he, List.drop_length, T.subU_nil] at ha
          have hS := ha
          refine swp_exit ?_
          with_reducible refine after_exit ?_
          with_reducible refine after_exit ?_
          refine inblk_hit ?_
          refine swp_seq ?_
          refine swp_region ?_
          refine sops_go rfl (st_assign (v := .d _) rfl rfl rfl ?_)
          refine sops_nil ?_
          refine swp_ret ?_
          with_reducible refine inblk_ret ?_
          with_reducible refine after_ret ?_
          exact fin_b rfl rfl hS
      · rw [if_neg (by rw [hc30]; simp), T.subR_eq] at hS
        refine swp_skip ?_
        refine swp_seq ?_
        refine swp_region ?_
        first | refine sops_go rfl (so_fieldAddr (v := .p _ _ _) rfl rfl rfl rfl rfl rfl rfl rfl rfl rfl ?_) | refine sops_go rfl (so_fieldAddr (v := .dp _ _) rfl rfl rfl rfl rfl rfl rfl rfl rfl rfl ?_) | refine sops_go rfl (so_fieldAddr (v := .pe _ _ _ _ _) rfl rfl rfl rfl rfl rfl rfl rfl rfl rfl ?_)
        first | refine sops_go rfl (so_load (v := .d _) rfl rfl rfl rfl rfl rfl rfl rfl ?_) | refine sops_go rfl (so_load (v := .own _ _ _ _ _) rfl rfl rfl rfl rfl rfl rfl rfl ?_)
        first | refine sops_go rfl (so_fieldAddr (v := .p _ _ _) rfl rfl rfl rfl rfl rfl rfl rfl rfl rfl ?_) | refine sops_go rfl (so_fieldAddr (v := .dp _ _) rfl rfl rfl rfl rfl rfl rfl rfl rfl rfl ?_) | refine sops_go rfl (so_fieldAddr (v := .pe _ _ _ _ _) rfl rfl rfl rfl rfl rfl rfl rfl rfl rfl ?_)
        first | refine sops_go rfl (so_load (v := .d _) rfl rfl rfl rfl rfl rfl rfl rfl ?_) | refine sops_go rfl (so_load (v := .own _ _ _ _ _) rfl rfl rfl rfl rfl rfl rfl rfl ?_)
        refine sops_go rfl (st_call rfl rfl (equalS_pure s s' na nb) ⟨na_d _, na_d _, trivial⟩ rfl ?_)
        refine sops_go rfl (st_move (v := .d _) rfl rfl rfl ?_)
        refine' sops_and (d := 73) (p := 79) [74, 75, 76, 77, 78] 6 rfl rfl rfl (fun hb73 => ?a73) (fun hb73 => ?b73) ?_
        case a73 =>
          first | refine sops_yes rfl rfl rfl rfl (so_fieldAddr (v := .p _ _ _) rfl rfl rfl rfl rfl rfl rfl rfl rfl rfl ?_) | refine sops_yes rfl rfl rfl rfl (so_fieldAddr (v := .dp _ _) rfl rfl rfl rfl rfl rfl rfl rfl rfl rfl ?_) | refine sops_yes rfl rfl rfl rfl (so_fieldAddr (v := .pe _ _ _ _ _) rfl rfl rfl rfl rfl rfl rfl rfl rfl rfl ?_)
          first | refine sops_yes rfl rfl rfl rfl (so_load (v := .d _) rfl rfl rfl rfl rfl rfl rfl rfl ?_) | refine sops_yes rfl rfl rfl rfl (so_load (v := .own _ _ _ _ _) rfl rfl rfl rfl rfl rfl rfl rfl ?_)
          first | refine sops_yes rfl rfl rfl rfl (so_fieldAddr (v := .p _ _ _) rfl rfl rfl rfl rfl rfl rfl rfl rfl rfl ?_) | refine sops_yes rfl rfl rfl rfl (so_fieldAddr (v := .dp _ _) rfl rfl rfl rfl rfl rfl rfl rfl rfl rfl ?_) | refine sops_yes rfl rfl rfl rfl (so_fieldAddr (v := .pe _ _ _ _ _) rfl rfl rfl rfl rfl rfl rfl rfl rfl rfl ?_)
          first | refine sops_yes rfl rfl rfl rfl (so_load (v := .d _) rfl rfl rfl rfl rfl rfl rfl rfl ?_) | refine sops_yes rfl rfl rfl rfl (so_load (v := .own _ _ _ _ _) rfl rfl rfl rfl rfl rfl rfl rfl ?_)
          refine sops_yes rfl rfl rfl rfl (st_call rfl rfl (equalFuncT_pure s s' la lb 51 [] T.sub (fun x hx y hy => by have := ih x hx y (ia.all x hx) (ib.all y hy) true true; rwa [← T.df_d, ← T.df_d] at this) rfl) ⟨na_d _, na_d _, na_free rfl, trivial⟩ rfl ?_)
          refine sops_go rfl (st_pick (v := .d _) rfl rfl rfl rfl ?_)
          refine sops_nil ?_
          exact ⟨rfl, rfl, rfl, rfl, [_, _, _, _, _], rfl, rfl⟩
        case b73 =>
          refine sops_no rfl rfl rfl rfl rfl ?_
          refine sops_no rfl rfl rfl rfl rfl ?_
          refine sops_no rfl rfl rfl rfl rfl ?_
          refine sops_no rfl rfl rfl rfl rfl ?_
          refine sops_no rfl rfl rfl rfl rfl ?_
          refine sops_go rfl (st_pick (v := .d _) rfl rfl rfl rfl ?_)
          refine sops_nil ?_
          exact ⟨rfl, rfl, rfl, rfl, [_, _, _, _, _], rfl, rfl⟩
        refine sops_go rfl (st_assign (v := .d _) rfl rfl rfl ?_)
        refine sops_nil ?_
        refine swp_ret ?_
        exact fin_b rfl rfl hS
end Go.Proofs.YtdcpnpcmgfmenaaGreatDoor
/-
  Walks: types.Has, both, Sub. Conditions: none.
-/
set_option linter.unusedVariables false
set_option maxRecDepth 100000
namespace Go.Proofs.YtdcpnpcmgfmenaaGreatDoor
open Go Go.Proofs.YtdcpnpcmgfmenaaGreatDoor.Lg

theorem T.check_ok {t : T} (h : t.check = 0) : t.formed = true := by
  unfold T.check at h
  split at h
  · assumption
  · simp at h
theorem V.check_ok {v : V} (h : v.check = 0) : v.formed = true := by
  unfold V.check at h
  split at h
  · assumption
  · simp at h

def T.Has (t : T) (v : V) : Bool × Int := if (t.check != 0) = true then (false, t.check) else if (v.check != 0) = true then (false, v.check) else (t.has v, 0)

theorem Has_pure (t : T) (v : V) (ht : t.fit) (hv : v.fit) (s s' : Bool) : Pure env 9 [.d (t.df s), .d (v.df s')] (.tup [.d (.v (.bool (t.Has v).1)), .d (.v (.int .i64 (t.Has v).2))]) := by
  have h1 := checkT_pure t ht s
  have h2 := checkV_pure v hv s'
  have h3 : t.check = 0 → v.check = 0 → Pure env 21 [.d (t.df s), .d (v.df s')] (.d (.v (.bool (t.has v)))) := fun e1 e2 => has_pure t v (T.check_ok e1) (V.check_ok e2) s s'
  have hS : t.Has v = if (t.check != 0) = true then (false, t.check) else if (v.check != 0) = true then (false, v.check) else (t.has v, 0) := rfl
  generalize t.check = tc at *
  generalize v.check = vc at *
  generalize t.has v = r at *
  generalize t.Has v = R at *
  obtain ⟨kind, names, list⟩ := t
  obtain ⟨vk, flag, neg, digits, exp, bits, text, vnames, vlist⟩ := v
  refine pure_of_body Tryz.func9 rfl rfl rfl fun B hB => ?_
  refine swp_seq ?_
  refine swp_region ?_
  refine sops_go rfl (so_box (cs := [_, _, _]) rfl rfl rfl ?_)
  refine sops_go rfl (so_box (cs := [_, _, _, _, _, _, _, _, _]) rfl rfl rfl ?_)
  refine sops_go rfl (st_assign (v := .d _) rfl rfl rfl ?_)
  refine sops_go rfl (st_assign (v := .d _) rfl rfl rfl ?_)
  refine sops_nil ?_
  refine swp_seq ?_
  refine swp_seq ?_
  refine swp_region ?_
  first | refine sops_go rfl (so_load (v := .d (.agg [_, _, _])) rfl rfl rfl rfl rfl rfl rfl rfl ?_) | refine sops_go rfl (so_load (v := .agg [_, _, _]) rfl rfl rfl rfl rfl rfl rfl rfl ?_)
  refine sops_go rfl (st_call rfl rfl (h1) ⟨na_d _, trivial⟩ rfl ?_)
  refine sops_go rfl (st_assign (v := .d _) rfl rfl rfl ?_)
  refine sops_nil ?_
  refine swp_seq ?_
  refine swp_region ?_
  refine sops_go rfl (st_move (v := .d _) rfl rfl rfl ?_)
  refine sops_go rfl (st_bin rfl rfl rfl rfl rfl ?_)
  refine sops_nil ?_
  refine swp_cond _ rfl (fun hc11 => ?_) (fun hc11 => ?_)
  · rw [if_pos hc11] at hS
    refine swp_seq ?_
    refine swp_region ?_
    refine sops_go rfl (st_move (v := .d _) rfl rfl rfl ?_)
    refine sops_go rfl (st_assign (v := .d _) rfl rfl rfl ?_)
    refine sops_go rfl (st_assign (v := .d _) rfl rfl rfl ?_)
    refine sops_nil ?_
    refine swp_ret ?_
    with_reducible refine after_ret ?_
    exact fin_2v rfl rfl rfl (by rw [hS]) (by rw [hS])
  · rw [if_neg (by rw [hc11]; simp)] at hS
    refine swp_skip ?_
    refine swp_seq ?_
    refine swp_seq ?_
    refine swp_region ?_
    first | refine sops_go rfl (so_load (v := .d (.agg [_, _, _, _, _, _, _, _, _])) rfl rfl rfl rfl rfl rfl rfl rfl ?_) | refine sops_go rfl (so_load (v := .agg [_, _, _, _, _, _, _, _, _]) rfl rfl rfl rfl rfl rfl rfl rfl ?_)
    refine sops_go rfl (st_call rfl rfl (h2) ⟨na_d _, trivial⟩ rfl ?_)
    refine sops_go rfl (st_assign (v := .d _) rfl rfl rfl ?_)
    refine sops_nil ?_
    refine swp_seq ?_
    refine swp_region ?_
    refine sops_go rfl (st_move (v := .d _) rfl rfl rfl ?_)
    refine sops_go rfl (st_bin rfl rfl rfl rfl rfl ?_)
    refine sops_nil ?_
    refine swp_cond _ rfl (fun hc16 => ?_) (fun hc16 => ?_)
    · rw [if_pos hc16] at hS
      refine swp_seq ?_
      refine swp_region ?_
      refine sops_go rfl (st_move (v := .d _) rfl rfl rfl ?_)
      refine sops_go rfl (st_assign (v := .d _) rfl rfl rfl ?_)
      refine sops_go rfl (st_assign (v := .d _) rfl rfl rfl ?_)
      refine sops_nil ?_
      refine swp_ret ?_
      with_reducible refine after_ret ?_
      exact fin_2v rfl rfl rfl (by rw [hS]) (by rw [hS])
    · rw [if_neg (by rw [hc16]; simp)] at hS
      refine swp_skip ?_
      refine swp_seq ?_
      refine swp_region ?_
      first | refine sops_go rfl (so_load (v := .d (.agg [_, _, _])) rfl rfl rfl rfl rfl rfl rfl rfl ?_) | refine sops_go rfl (so_load (v := .agg [_, _, _]) rfl rfl rfl rfl rfl rfl rfl rfl ?_)
      first | refine sops_go rfl (so_load (v := .d (.agg [_, _, _, _, _, _, _, _, _])) rfl rfl rfl rfl rfl rfl rfl rfl ?_) | refine sops_go rfl (so_load (v := .agg [_, _, _, _, _, _, _, _, _]) rfl rfl rfl rfl rfl rfl rfl rfl ?_)
      refine sops_go rfl (st_call rfl rfl (h3 (by simpa using hc11) (by simpa using hc16)) ⟨na_d _, na_d _, trivial⟩ rfl ?_)
      refine sops_go rfl (st_assign (v := .d _) rfl rfl rfl ?_)
      refine sops_go rfl (st_assign (v := .d _) rfl rfl rfl ?_)
      refine sops_nil ?_
      refine swp_ret ?_
      exact fin_2v rfl rfl rfl (by rw [hS]) (by rw [hS])

def T.both (a b : T) : Int := if (a.check != 0) = true then a.check else b.check
theorem both_pure (a b : T) (ha : a.fit) (hb : b.fit) (s s' : Bool) : Pure env 50 [.d (a.df s), .d (b.df s')] (.d (.v (.int .i64 (a.both b)))) := by
  have h1 := checkT_pure a ha s
  have h2 := checkT_pure b hb s'
  have hS : a.both b = if (a.check != 0) = true then a.check else b.check := rfl
  generalize a.check = ac at *
  generalize b.check = bc at *
  generalize a.both b = R at *
  obtain ⟨kind, names, list⟩ := a
  obtain ⟨kind', names', list'⟩ := b
  refine pure_of_body Tryz.func50 rfl rfl rfl fun B hB => ?_
  refine swp_seq ?_
  refine swp_region ?_
  refine sops_go rfl (so_box (cs := [_, _, _]) rfl rfl rfl ?_)
  refine sops_go rfl (so_box (cs := [_, _, _]) rfl rfl rfl ?_)
  refine sops_go rfl (st_assign (v := .d _) rfl rfl rfl ?_)
  refine sops_nil ?_
  refine swp_seq ?_
  refine swp_seq ?_
  refine swp_region ?_
  first | refine sops_go rfl (so_load (v := .d (.agg [_, _, _])) rfl rfl rfl rfl rfl rfl rfl rfl ?_) | refine sops_go rfl (so_load (v := .agg [_, _, _]) rfl rfl rfl rfl rfl rfl rfl rfl ?_)
  refine sops_go rfl (st_call rfl rfl (h1) ⟨na_d _, trivial⟩ rfl ?_)
  refine sops_go rfl (st_assign (v := .d _) rfl rfl rfl ?_)
  refine sops_nil ?_
  refine swp_seq ?_
  refine swp_region ?_
  refine sops_go rfl (st_move (v := .d _) rfl rfl rfl ?_)
  refine sops_go rfl (st_bin rfl rfl rfl rfl rfl ?_)
  refine sops_nil ?_
  refine swp_cond _ rfl (fun hc9 => ?_) (fun hc9 => ?_)
  · rw [if_pos hc9] at hS
    refine swp_seq ?_
    refine swp_region ?_
    refine sops_go rfl (st_move (v := .d _) rfl rfl rfl ?_)
    refine sops_go rfl (st_assign (v := .d _) rfl rfl rfl ?_)
    refine sops_nil ?_
    refine swp_ret ?_
    with_reducible refine after_ret ?_
    exact fin_i rfl rfl hS
  · rw [if_neg (by rw [hc9]; simp)] at hS
    refine swp_skip ?_
    refine swp_seq ?_
    refine swp_region ?_
    first | refine sops_go rfl (so_load (v := .d (.agg [_, _, _])) rfl rfl rfl rfl rfl rfl rfl rfl ?_) | refine sops_go rfl (so_load (v := .agg [_, _, _]) rfl rfl rfl rfl rfl rfl rfl rfl ?_)
    refine sops_go rfl (st_call rfl rfl (h2) ⟨na_d _, trivial⟩ rfl ?_)
    refine sops_go rfl (st_assign (v := .d _) rfl rfl rfl ?_)
    refine sops_nil ?_
    refine swp_ret ?_
    exact fin_i rfl rfl hS
theorem T.both_ok {a b : T} (h : a.both b = 0) : a.formed = true ∧ b.formed = true := by
  unfold T.both at h
  split at h
  · rename_i hc; simp at hc; exact absurd h hc
  · rename_i hc; simp at hc; exact ⟨T.check_ok hc, T.check_ok h⟩

def T.Sub (a b : T) : Bool × Int := if (a.both b != 0) = true then (false, a.both b) else (a.sub b, 0)
theorem Sub_pure (a b : T) (ha : a.fit) (hb : b.fit) (s s' : Bool) : Pure env 25 [.d (a.df s), .d (b.df s')] (.tup [.d (.v (.bool (a.Sub b).1)), .d (.v (.int .i64 (a.Sub b).2))]) := by
  have h1 := both_pure a b ha hb s s'
  have h2 : a.both b = 0 → Pure env 51 [.d (a.df s), .d (b.df s')] (.d (.v (.bool (a.sub b)))) := fun e => sub_pure a b (T.both_ok e).1 (T.both_ok e).2 s s'
  have hS : a.Sub b = if (a.both b != 0) = true then (false, a.both b) else (a.sub b, 0) := rfl
  generalize a.both b = ac at *
  generalize a.sub b = r at *
  generalize a.Sub b = R at *
  obtain ⟨kind, names, list⟩ := a
  obtain ⟨kind', names', list'⟩ := b
  refine pure_of_body Tryz.func25 rfl rfl rfl fun B hB => ?_
  refine swp_seq ?_
  refine swp_region ?_
  refine sops_go rfl (so_box (cs := [_, _, _]) rfl rfl rfl ?_)
  refine sops_go rfl (so_box (cs := [_, _, _]) rfl rfl rfl ?_)
  refine sops_go rfl (st_assign (v := .d _) rfl rfl rfl ?_)
  refine sops_go rfl (st_assign (v := .d _) rfl rfl rfl ?_)
  refine sops_nil ?_
  refine swp_seq ?_
  refine swp_seq ?_
  refine swp_region ?_
  first | refine sops_go rfl (so_load (v := .d (.agg [_, _, _])) rfl rfl rfl rfl rfl rfl rfl rfl ?_) | refine sops_go rfl (so_load (v := .agg [_, _, _]) rfl rfl rfl rfl rfl rfl rfl rfl ?_)
  first | refine sops_go rfl (so_load (v := .d (.agg [_, _, _])) rfl rfl rfl rfl rfl rfl rfl rfl ?_) | refine sops_go rfl (so_load (v := .agg [_, _, _]) rfl rfl rfl rfl rfl rfl rfl rfl ?_)
  refine sops_go rfl (st_call rfl rfl (h1) ⟨na_d _, na_d _, trivial⟩ rfl ?_)
  refine sops_go rfl (st_assign (v := .d _) rfl rfl rfl ?_)
  refine sops_nil ?_
  refine swp_seq ?_
  refine swp_region ?_
  refine sops_go rfl (st_move (v := .d _) rfl rfl rfl ?_)
  refine sops_go rfl (st_bin rfl rfl rfl rfl rfl ?_)
  refine sops_nil ?_
  refine swp_cond _ rfl (fun hc11 => ?_) (fun hc11 => ?_)
  · rw [if_pos hc11] at hS
    refine swp_seq ?_
    refine swp_region ?_
    refine sops_go rfl (st_move (v := .d _) rfl rfl rfl ?_)
    refine sops_go rfl (st_assign (v := .d _) rfl rfl rfl ?_)
    refine sops_go rfl (st_assign (v := .d _) rfl rfl rfl ?_)
    refine sops_nil ?_
    refine swp_ret ?_
    with_reducible refine after_ret ?_
    exact fin_2v rfl rfl rfl (by rw [hS]) (by rw [hS])
  · rw [if_neg (by rw [hc11]; simp)] at hS
    refine swp_skip ?_
    refine swp_seq ?_
    refine swp_region ?_
    first | refine sops_go rfl (so_load (v := .d (.agg [_, _, _])) rfl rfl rfl rfl rfl rfl rfl rfl ?_) | refine sops_go rfl (so_load (v := .agg [_, _, _]) rfl rfl rfl rfl rfl rfl rfl rfl ?_)
    first | refine sops_go rfl (so_load (v := .d (.agg [_, _, _])) rfl rfl rfl rfl rfl rfl rfl rfl ?_) | refine sops_go rfl (so_load (v := .agg [_, _, _]) rfl rfl rfl rfl rfl rfl rfl rfl ?_)
    refine sops_go rfl (st_call rfl rfl (h2 (by simpa using hc11)) ⟨na_d _, na_d _, trivial⟩ rfl ?_)
    refine sops_go rfl (st_assign (v := .d _) rfl rfl rfl ?_)
    refine sops_go rfl (st_assign (v := .d _) rfl rfl rfl ?_)
    refine sops_nil ?_
    refine swp_ret ?_
    exact fin_2v rfl rfl rfl (by rw [hS]) (by rw [hS])
end Go.Proofs.YtdcpnpcmgfmenaaGreatDoor
/-
  Rows of one's own, handed back: as data, or as rows that the caller may go on with. Conditions: none.
-/
set_option linter.unusedVariables false
set_option linter.unusedSimpArgs false
namespace Go.Proofs.YtdcpnpcmgfmenaaGreatDoor.Lg
open Go Go.RowKit

section
variable {E : Env} {B : Base} {Q : Exit → St → Prop} {σ : St} {fn : Func}

theorem ra_own {l k e sz off n : Nat} {rows : List (List D)} (hl : σ.h l = .arr k e sz (rows.map (·.map .d))) (hn : off + n ≤ rows.length) (hk : ∀ r ∈ rows, ∀ c ∈ r, Keeps c) : RA E σ (.own l k sz off n) (.d (.sl true ((rows.drop off).take n))) := fun B g w a hB hr y hy => by
  cases hy with
  | own _ _ _ _ _ _ h0 h1 h2 h3 =>
    have hor := hr.hr.hp l h1
    rw [hl] at hor
    obtain ⟨f1, f2, f3, f4, xs, f5, f6⟩ := hor
    have hown := h3 f1
    by_cases hn0 : n = 0
    · subst hn0
      have : ∃ b c, y = .slice b 0 c := by
        unfold OwnV at hown
        split at hown
        · exact ⟨_, _, hown⟩
        · obtain ⟨b, c, h, _⟩ := hown; exact ⟨b, c, h⟩
      obtain ⟨b, c, rfl⟩ := this
      rw [List.take_zero]; exact .d _ _ (.nil _ _ _)
    · have hvt : g.vt l = false := by
        cases hv : g.vt l with
        | false => rfl
        | true => obtain ⟨h, _⟩ := f4 hv; simp at h; subst h; simp at hn; omega
      obtain ⟨a1, a2, a3, cur, a4, a5, a6⟩ := owns_block hvt f5
      have hlt := (Array.getElem?_eq_some_iff.1 a4).1
      have : ∃ c, y = .slice (some ⟨g.ρ l, off * sz, none⟩) n c ∧ n ≤ c := by
        unfold OwnV at hown
        split at hown
        · rename_i h; subst h; exact ⟨g.cap l, by simp [hown, handle, hvt], by simp at a2; omega⟩
        · obtain ⟨b, c, h, hnc, h'⟩ := hown; exact ⟨c, by rw [h, h' (by omega)], hnc⟩
      obtain ⟨c, rfl, hnc⟩ := this
      have hrl : ∀ r ∈ rows, r.length = sz := fun r hr' => by simpa using f3 (r.map .d) (List.mem_map_of_mem hr')
      have hlen : ((rows.drop off).take n).length = n := by simp; omega
      have hfl := flat_length hrl
      have hsub : ∀ (i : Nat) c, ((rows.drop off).take n).flatten[i]? = some c → rows.flatten[off * sz + i]? = some c := by
        intro i c hc
        have h4 : rows.flatten = (rows.take off).flatten ++ ((rows.drop off).take n).flatten ++ ((rows.drop off).drop n).flatten := by
          rw [← List.flatten_append, ← List.flatten_append, List.append_assoc, List.take_append_drop, List.take_append_drop]
        have h5 : (rows.take off).flatten.length = off * sz := by
          rw [flat_length (n := sz) (fun r hr' => hrl r (List.mem_of_mem_take hr')), List.length_take, Nat.min_eq_left (by omega)]
        rw [h4, List.append_assoc, List.getElem?_append_right (by omega), h5, show off * sz + i - off * sz = i by omega, List.getElem?_append_left (List.getElem?_eq_some_iff.1 hc).1]
        exact hc
      have hres : resI B.g.I B.w w (g.ρ l) := by
        rcases hr.ext.own (g.ρ l) ⟨l, h1, by rw [hl]; simp, hvt, rfl⟩ with ⟨l', h, _⟩ | h
        · omega
        · exact .inr ⟨h, hlt⟩
      have get : ∀ (i : Nat) c, rows.flatten[i]? = some c → cur[i]? = some (cur.getD i undef) ∧ DR w (resI B.g.I B.w w) (resI B.g.I B.w w) c (cur.getD i undef) := by
        intro i c hc
        have hi : i < rows.length * sz := by rw [← hfl]; exact (List.getElem?_eq_some_iff.1 hc).1
        have hi2 : i < cur.size := by
          have : rows.length * sz ≤ cur.size := by rw [a5]; exact Nat.mul_le_mul_right sz (by simpa using a2)
          omega
        have e : cur.getD i undef = cur[i] := by simp [hi2]
        refine ⟨by rw [e]; exact Array.getElem?_eq_getElem hi2, ?_⟩
        have hd := vr_data (f6 i (.d c) (cur.getD i undef) (by
          show (rows.map (List.map AV.d)).flatten[i]? = _
          rw [← List.map_flatten, List.getElem?_map, hc]; rfl) (by
          rw [← a6, List.getElem?_take_of_lt (by simpa using hi), Array.getElem?_toList, e]; exact Array.getElem?_eq_getElem hi2))
        obtain ⟨r, hrm, hcr⟩ := List.mem_flatten.1 (List.mem_of_getElem? hc)
        exact (hk r hrm c hcr w g.I g.J _ hr.hr.IJ hd).mono (fun b hb => res_I hB hr hb) (fun b hb => res_I hB hr hb) (fun _ _ => rfl)
      have hfin := DR.sl (w := w) (I := resI B.g.I B.w w) (J := resI B.g.I B.w w) true ((rows.drop off).take n) (g.ρ l) (off * sz) c (fun i => cur.getD (off * sz + i) undef) (fun _ => hres) hres (by rw [hlen]; simp at f2; exact ⟨by omega, hnc⟩)
        (fun i c hc => by
          have := (get _ c (hsub i c hc)).1
          simp only [World.cell?, a4, Option.isSome_none, Bool.false_eq_true, if_false]; exact this)
        (fun i c hc => (get _ c (hsub i c hc)).2)
      rw [hlen] at hfin
      exact .d _ _ hfin
theorem ra_row {l k e sz : Nat} {rows : List (List D)} {n : Nat} (hl : σ.h l = .arr k e sz (rows.map (·.map .d))) (hn : n = rows.length) (hk : ∀ r ∈ rows, ∀ c ∈ r, Keeps c) : RA E σ (.own l k sz 0 n) (.d (.sl true rows)) := by
  have := ra_own (E := E) (σ := σ) (off := 0) (n := n) hl (by omega) hk
  rw [List.drop_zero, hn, List.take_length] at this
  rw [hn]; exact this

/-! ### A row for the caller to go on with -/
def G.resO (g : G) (w w' : World) (b c : Nat) (v : Bool) : G :=
  { g.at 0 b c v with I := fun x => g.I x ∨ (w.heap.size ≤ x ∧ x < w'.heap.size ∧ x ≠ b), J := fun x => g.I x ∨ (w.heap.size ≤ x ∧ x < w'.heap.size ∧ x ≠ b) }

def PureO (E : Env) (f : FuncId) (args : List AV) (e sz : Nat) (rows : List (List D)) : Prop :=
  Enters E.P f ∧ ∀ w g (vs : Array Value), HRel E w g 0 (fun _ => .dead) → vs.size = args.length → (∀ (i : Nat) c x, args[i]? = some c → vs[i]? = some x → VR w g 0 c x) →
    Calls E.P f vs w fun en w' => ∃ b c v, en = .returned (handle (g.resO w w' b c v) 0 rows.length) ∧ Below w.heap.size w w' ∧ (v = true ∨ (w.heap.size ≤ b ∧ b < w'.heap.size)) ∧
      OR w' (g.resO w w' b c v) 1 0 (.arr 0 e sz (rows.map (·.map .d)))

theorem or_move {w : World} {g g' : G} {l l' nx nx' k k' e sz : Nat} {rows : List (List D)} (h1 : g'.ρ l' = g.ρ l) (h2 : g'.cap l' = g.cap l) (h3 : g'.vt l' = g.vt l) (hκ : g'.κ l' = k')
    (hc : ∀ (c : D) (x : Value), (∃ r ∈ rows, c ∈ r) → DR w g.I g.J c x → DR w g'.I g'.J c x)
    (h : OR w g nx l (.arr k e sz (rows.map (·.map .d)))) : OR w g' nx' l' (.arr k' e sz (rows.map (·.map .d))) := by
  obtain ⟨f1, f2, f3, f4, xs, f5, f6⟩ := h
  have hh : ∀ n, handle g' l' n = handle g l n := fun n => by unfold handle; rw [h1, h2, h3]
  refine ⟨hκ, f2, f3, by rw [h3, h2]; exact f4, xs, by rw [hh]; exact f5, fun i c x hc' hx => ?_⟩
  have := f6 i c x hc' hx
  have hm : c ∈ (rows.map (List.map AV.d)).flatten := List.mem_of_getElem? hc'
  rw [← List.map_flatten] at hm
  obtain ⟨d, hd, rfl⟩ := List.mem_map.1 hm
  exact .d _ _ (hc d x (by obtain ⟨r, h1, h2⟩ := List.mem_flatten.1 hd; exact ⟨r, h1, h2⟩) (vr_data this))

theorem st_callO {q : Md} [Nw q] {o : Oper} {K : St → Prop} {fo : Operand} {ar : Array Operand} {ts : Array TypeId} (ho : o.op = .call { callee := .value fo, args := ar, argTypes := ts }) {f : FuncId} {caps : List AV} (hf : ev E σ fo = .fn f caps)
    {args : List AV} {e sz : Nat} {rows : List (List D)} (hp : PureO E f args e sz rows) (ha : NAs E σ (ar.toList.map (ev E σ) ++ caps) args) (hd : dlt o.dst σ.n = true)
    (hK : K (St.put { σ with h := upd σ.h σ.nx (.arr 0 e sz (rows.map (·.map .d))), nx := σ.nx + 1 } o.dst (.own σ.nx 0 sz 0 rows.length))) : Step q E B o K Q σ := by
  refine step_newW _ _ (by simp) (fun B g w a hr next Q' hn => ?_) hd hK
  have hfo := ev_ok hr fo
  rw [hf] at hfo
  generalize hfx : a.eval fo = fx at hfo
  cases hfo with
  | fn _ _ xs h1 h2 =>
    have hexec : (execOp a.eval o).run E.P w = .ok (.enter f (ar.map a.eval ++ xs)) w := by
      simp only [execOp, ho, resolve, hfx, Deferred.ofValue, Sem.run_bind, Sem.run_pure, Result.andThen_ok, invoke, Array.empty_append]
      exact hp.1 _ _
    obtain ⟨hl, hget⟩ := nas_get ha
    have hc := hp.2 w (g.callee w) (ar.map a.eval ++ xs) (callee_hr hr.hr) (by rw [← hl]; simp [h1]) (fun i c x hc hx => by
      have hi : i < (ar.toList.map (ev E σ) ++ caps).length := by rw [hl]; exact (List.getElem?_eq_some_iff.1 hc).1
      refine hget i _ c (List.getElem?_eq_getElem hi) hc B g w a hr x ?_
      by_cases his : i < ar.size
      · have e1 : (ar.toList.map (ev E σ) ++ caps)[i] = ev E σ ar[i] := by
          rw [List.getElem_append_left (by simpa using his)]; simp
        have e2 : x = a.eval ar[i] := by
          rw [Array.getElem?_append_left (by simpa using his)] at hx
          simp [his] at hx; exact hx.symm
        rw [e1, e2]; exact ev_ok hr _
      · have hi2 : i - ar.size < caps.length := by simp at hi; omega
        have e1 : (ar.toList.map (ev E σ) ++ caps)[i]? = caps[i - ar.size]? := by
          rw [List.getElem?_append_right (by simpa using his)]; simp
        rw [Array.getElem?_append_right (by simpa using his)] at hx
        refine h2 (i - ar.size) _ x ?_ (by simpa using hx)
        rw [← e1]; exact List.getElem?_eq_getElem hi)
    unfold Oper.wp
    rw [hexec, Oper.upon_enter]
    refine hc.mono ?_
    rintro en w' ⟨b, c, v, rfl, hb, hbv, hor⟩
    refine hn w' _ b c v hb hbv (or_move (g := (g.callee w).resO w w' b c v) (g' := g.mk' σ.nx b c v w w') (l := 0) (l' := σ.nx) (by simp [G.mk', G.at, upd, G.resO]) (by simp [G.mk', G.at, upd, G.resO]) (by simp [G.mk', G.at, upd, G.resO]) (by simp [G.mk', G.at, upd]) (fun c x _ hd => hd.mono (fun _ h => h) (fun x h => ?_) (fun _ _ => rfl)) hor) ?_
    · rcases h with h | h
      · exact .inl (hr.hr.IJ x h)
      · exact .inr h
    · refine .own _ _ _ _ _ _ ?_ (by omega) (by simp [G.mk', G.at, upd]) (fun _ => ?_)
      · unfold handle; rfl
      · unfold OwnV; simp [handle, G.mk', G.at, upd, G.resO]

def FinO (E : Env) (fn : Func) (e sz : Nat) (rows : List (List D)) : Exit → St → Prop := fun en σ =>
  (en = .ret ∨ en = .normal) ∧ (∀ r ∈ rows, ∀ c ∈ r, Keeps c) ∧ ∃ t, fn.results = #[.tmp t] ∧
    ((σ.t t = .d (.v (.slice none 0 0)) ∧ rows = []) ∨ ∃ l k, σ.t t = .own l k sz 0 rows.length ∧ σ.h l = .arr k e sz (rows.map (·.map .d)))

theorem pureO_of_body {f : FuncId} {c : Code} (hf : E.P.funcs[f]? = some fn) (hname : (fn.name == "runtime.NumGoroutine") = false) (hb : fn.body = some c) {args : List AV} {e sz : Nat} {rows : List (List D)} (hn' : decide (args.length ≤ fn.ntmps) = true)
    (h : ∀ B : Base, B.nx = 0 → SWP E B c (FinO E fn e sz rows) (initSt args fn.ntmps)) : PureO E f args e sz rows := by
  have hn : args.length ≤ fn.ntmps := by simpa using hn'
  refine ⟨enters_of hf hname hb, fun w g vs hr hs hv => ?_⟩
  let B : Base := ⟨w, g, 0, fun _ => .dead⟩
  have hrel : Rel E B g (initSt args fn.ntmps) w { tmps := vs ++ Array.replicate (fn.ntmps - vs.size) undef, defers := [] } := by
    refine ⟨by simp [initSt]; omega, fun i => ?_, hr, ⟨rfl, rfl, rfl, Nat.le_refl _, fun _ _ _ => rfl, GLe.refl _ _, Nat.le_refl _, fun b h => .inl h, fun b h => .inl h⟩, rfl⟩
    simp only [initSt, argsT_get, Nat.zero_le, if_true, Nat.sub_zero]
    by_cases hi : i < args.length
    · have h1 : args.getD i .any = args[i] := by simp [List.getD, hi]
      have h2 : (vs ++ Array.replicate (fn.ntmps - vs.size) undef).getD i undef = vs[i]'(by omega) := by
        rw [Array.getD_eq_getD_getElem?, Array.getElem?_append_left (by omega), Array.getElem?_eq_getElem (by omega)]; rfl
      rw [h1, h2]
      exact hv i _ _ (List.getElem?_eq_getElem hi) (Array.getElem?_eq_getElem (by omega))
    · have : args.getD i .any = .any := by simp [List.getD, List.getElem?_eq_none (Nat.le_of_not_lt hi)]
      rw [this]; exact .any _
  refine calls_of_wp hf hb (wp_mono (h B rfl g w _ hrel) ?_)
  rintro en a' w' ⟨g', σ', hr', he, hk, t, hres, hval⟩
  have hbel : Below w.heap.size w w' := ⟨hr'.ext.os, hr'.ext.tape, hr'.ext.output, hr'.ext.size, fun k hk => hr'.ext.block k hk (fun ⟨l, hl, _⟩ => Nat.not_lt_zero _ hl)⟩
  have key : ∃ b c v, a'.tmps.getD t undef = handle (g.resO w w' b c v) 0 rows.length ∧ (v = true ∨ (w.heap.size ≤ b ∧ b < w'.heap.size)) ∧ OR w' (g.resO w w' b c v) 1 0 (.arr 0 e sz (rows.map (·.map .d))) := by
    have htm := hr'.tm t
    rcases hval with ⟨h1, rfl⟩ | ⟨l, k, h1, h2⟩
    · rw [h1] at htm
      refine ⟨0, 0, true, by rw [vr_val htm]; simp [handle, G.resO, G.at, upd], .inl rfl, ?_⟩
      refine ⟨by simp [G.resO, G.at, upd], by simp, by simp, fun _ => ⟨rfl, by simp [G.resO, G.at, upd]⟩, [], ⟨by simp, .inl ⟨by simp [handle, G.resO, G.at, upd], rfl⟩⟩, by simp⟩
    · rw [h1] at htm
      generalize a'.tmps.getD t undef = y at htm
      cases htm with
      | own _ _ _ _ _ _ h0 hl1 hl2 hl3 =>
        have hor := hr'.hr.hp l hl1
        rw [h2] at hor
        have hκ := hor.1
        have hy := hl3 hκ
        unfold OwnV at hy
        simp only [if_true] at hy
        have hblk : g'.vt l = true ∨ (w.heap.size ≤ g'.ρ l ∧ g'.ρ l < w'.heap.size) := by
          cases hv : g'.vt l with
          | true => exact .inl rfl
          | false =>
            right
            have ho : Owned g' σ'.nx σ'.h (g'.ρ l) := ⟨l, hl1, by rw [h2]; simp, hv, rfl⟩
            refine ⟨?_, Owned.lt hr'.hr ho⟩
            rcases hr'.ext.own _ ho with ⟨l', h, _⟩ | h
            · exact absurd h (Nat.not_lt_zero _)
            · exact h
        refine ⟨g'.ρ l, g'.cap l, g'.vt l, by rw [hy]; simp [handle, G.resO, G.at, upd], hblk, ?_⟩
        refine or_move (g := g') (g' := g.resO w w' (g'.ρ l) (g'.cap l) (g'.vt l)) (l := l) (l' := 0) (by simp [G.resO, G.at, upd]) (by simp [G.resO, G.at, upd]) (by simp [G.resO, G.at, upd]) (by simp [G.resO, G.at, upd]) (fun c x hc hd => ?_) hor
        obtain ⟨r, hrm, hcr⟩ := hc
        by_cases hv : g'.vt l = true
        · have := (hor.2.2.2.1 hv).1
          have hrn : rows = [] := by simpa using this
          rw [hrn] at hrm; cases hrm
        · have hv : g'.vt l = false := by simpa using hv
          have hsub : ∀ b, g'.I b → (g.resO w w' (g'.ρ l) (g'.cap l) (g'.vt l)).I b := fun b hb => by
            have := res_I (B := B) rfl hr' hb
            rcases this with h | h
            · exact .inl h
            · refine .inr ⟨h.1, h.2, fun e => ?_⟩
              exact hr'.hr.dis b (hr'.hr.IJ b hb) ⟨l, hl1, by rw [h2]; simp, hv, e.symm⟩
          exact (hk r hrm c hcr w' g'.I g'.J x hr'.hr.IJ hd).mono hsub hsub (fun _ _ => rfl)
  obtain ⟨b, c, v, k1, k2, k3⟩ := key
  rcases he with rfl | rfl
  · exact ⟨hr'.df, _, results_tmp hres _ _ _, b, c, v, by rw [k1], hbel, k2, k3⟩
  · exact ⟨hr'.df, _, results_tmp hres _ _ _, b, c, v, by rw [k1], hbel, k2, k3⟩

theorem rows_bnd (rows : List (List D)) (n : Nat) : ∀ r ∈ rows.map (·.map AV.d), ∀ c ∈ r, c.bnd n = true := by
  intro r hr c hc
  obtain ⟨r', _, rfl⟩ := List.mem_map.1 hr
  obtain ⟨d, _, rfl⟩ := List.mem_map.1 hc
  rfl

/-! ### Is a slice nil? -/
theorem so_nilSl {o : Oper} {K : St → Prop} {op : BinOp} {t u : TypeId} {x : Operand} (ho : o.op = .binOp op t x (.const (.slice none 0 0)) u) {i : TI} (hi : E.ti t = some i) {e : TypeId} (ht : i.desc = .slice e) {s : Bool} {es : List (List D)} (hx : ev E σ x = .d (.sl s es)) (hop : op = .eql) (hd : dlt o.dst σ.n = true)
    (hK : ∀ b : Bool, (b = true → es = []) → K (σ.put o.dst (.d (.v (.bool b))))) : Step .all E B o K Q σ := by
  subst hop
  intro g w a hr next hn
  have hx' := ev_ok hr x
  rw [hx] at hx'
  have hd' := vr_data hx'
  obtain ⟨ad, n, c, hax, hes⟩ : ∃ ad n c, a.eval x = .slice ad n c ∧ (ad = none → es = []) := by
    generalize a.eval x = y at hd'
    cases hd' with
    | nil s ad c => exact ⟨ad, 0, c, rfl, fun _ => rfl⟩
    | sl s es b off c f h1 h2 h3 h4 h5 => exact ⟨_, _, _, rfl, fun h => by cases h⟩
  have hrun : (execOp a.eval o).run E.P w = .ok (.value (.bool ad.isNone)) w := by
    simp only [execOp, ho]
    refine run_v ?_
    have : (binOp .eql t (.slice ad n c) (.slice none 0 0)).run E.P w = .ok (.bool ad.isNone) w := by
      simp [binOp, run_equal_slice_nil w t e ad n c (by rw [E.und hi, ht])]
    rw [show a.eval (.const (.slice none 0 0)) = .slice none 0 0 from rfl, hax]
    simpa [eqGuard] using this
  unfold Oper.wp
  rw [hrun, Oper.upon_value]
  exact hn g _ w _ (rel_put hr hd (.d _ _ (.v _))) (hK _ (fun h => hes (by simpa using h)))
end
end Go.Proofs.YtdcpnpcmgfmenaaGreatDoor.Lg
/-
  Walks: rows cloned. Conditions: none.
-/
set_option linter.unusedVariables false
set_option maxRecDepth 100000
namespace Go.Proofs.YtdcpnpcmgfmenaaGreatDoor
open Go Go.Proofs.YtdcpnpcmgfmenaaGreatDoor.Lg

theorem strRows_keeps (l : List ByteArray) : ∀ r ∈ strRows l, ∀ c ∈ r, Keeps c := by
  intro r hr c hc
  obtain ⟨s, _, rfl⟩ := List.mem_map.1 hr
  simp at hc; subst hc; exact keeps_v _
theorem T.rows_keeps (l : List T) : ∀ r ∈ T.rows l, ∀ c ∈ r, Keeps c := by
  intro r hr c hc
  rw [T.rows_eq] at hr
  obtain ⟨x, _, rfl⟩ := List.mem_map.1 hr
  exact x.keeps c hc
theorem strRows_ok (l : List ByteArray) : ∀ r ∈ (strRows l).map (·.map AV.d), r.length = 1 ∧ r.all cellOk = true := by
  intro r hr
  obtain ⟨r', hr', rfl⟩ := List.mem_map.1 hr
  obtain ⟨s, _, rfl⟩ := List.mem_map.1 hr'
  exact ⟨rfl, rfl⟩
theorem T.rows_ok (l : List T) : ∀ r ∈ (T.rows l).map (·.map AV.d), r.length = 3 ∧ r.all cellOk = true := by
  intro r hr
  obtain ⟨r', hr', rfl⟩ := List.mem_map.1 hr
  rw [T.rows_eq] at hr'
  obtain ⟨x, _, rfl⟩ := List.mem_map.1 hr'
  obtain ⟨a, b, c⟩ := x
  exact ⟨rfl, rfl⟩
theorem own_len {l k sz off n n' : Nat} (h : n = n') : AV.own l k sz off n = AV.own l k sz off n' := by rw [h]

theorem cloneS_pure (s : Bool) (l : List ByteArray) (hl : l.length ≤ 1000000) : PureO env 70 [.d (.sl s (strRows l))] 9 1 (strRows l) := by
  refine pureO_of_body Tryz.func70 rfl rfl rfl fun B hB => ?_
  refine swp_seq ?_
  refine swp_region ?_
  first | refine sops_go rfl (st_assign (v := .d _) rfl rfl rfl ?_) | refine sops_go rfl (st_assign (v := .own _ _ _ _ _) rfl rfl rfl ?_)
  refine sops_nil ?_
  refine swp_seq ?_
  refine swp_seq ?_
  refine swp_region ?_
  first | refine sops_go rfl (st_move (v := .d _) rfl rfl rfl ?_) | refine sops_go rfl (st_move (v := .own _ _ _ _ _) rfl rfl rfl ?_)
  refine sops_go rfl (so_nilSl rfl rfl rfl rfl rfl rfl fun bz hbz => ?_)
  refine sops_nil ?_
  refine swp_cond _ rfl (fun hc4 => ?_) (fun hc4 => ?_)
  · refine swp_seq ?_
    refine swp_region ?_
    first | refine sops_go rfl (st_assign (v := .d _) rfl rfl rfl ?_) | refine sops_go rfl (st_assign (v := .own _ _ _ _ _) rfl rfl rfl ?_)
    refine sops_nil ?_
    refine swp_ret ?_
    with_reducible refine after_ret ?_
    exact ⟨.inl rfl, strRows_keeps l, 2, rfl, .inl ⟨rfl, hbz hc4⟩⟩
  · refine swp_skip ?_
    refine swp_seq ?_
    refine swp_region ?_
    refine sops_go rfl (so_buildSlice (rows := []) rfl rfl rfl rfl rfl rfl rfl rfl rfl ?_)
    first | refine sops_go rfl (st_move (v := .d _) rfl rfl rfl ?_) | refine sops_go rfl (st_move (v := .own _ _ _ _ _) rfl rfl rfl ?_)
    refine sops_go rfl (so_append rfl rfl rfl rfl rfl rfl rfl rfl rfl rfl rfl (strRows_ok l) (by show (_ + _) * 16 ≤ _; simp [strRows]; omega) (by first | (simp [strRows]; done) | (simp [strRows]; omega)) ?_)
    first | refine sops_go rfl (st_assign (v := .d _) rfl rfl rfl ?_) | refine sops_go rfl (st_assign (v := .own _ _ _ _ _) rfl rfl rfl ?_)
    refine sops_nil ?_
    refine swp_ret ?_
    exact ⟨.inl rfl, strRows_keeps l, 2, rfl, .inr ⟨0, 1, own_len (by simp), rfl⟩⟩
theorem cloneT_pure (s : Bool) (l : List T) (hl : l.length ≤ 1000000) : PureO env 71 [.d (.sl s (T.rows l))] 26 3 (T.rows l) := by
  refine pureO_of_body Tryz.func71 rfl rfl rfl fun B hB => ?_
  refine swp_seq ?_
  refine swp_region ?_
  first | refine sops_go rfl (st_assign (v := .d _) rfl rfl rfl ?_) | refine sops_go rfl (st_assign (v := .own _ _ _ _ _) rfl rfl rfl ?_)
  refine sops_nil ?_
  refine swp_seq ?_
  refine swp_seq ?_
  refine swp_region ?_
  first | refine sops_go rfl (st_move (v := .d _) rfl rfl rfl ?_) | refine sops_go rfl (st_move (v := .own _ _ _ _ _) rfl rfl rfl ?_)
  refine sops_go rfl (so_nilSl rfl rfl rfl rfl rfl rfl fun bz hbz => ?_)
  refine sops_nil ?_
  refine swp_cond _ rfl (fun hc4 => ?_) (fun hc4 => ?_)
  · refine swp_seq ?_
    refine swp_region ?_
    first | refine sops_go rfl (st_assign (v := .d _) rfl rfl rfl ?_) | refine sops_go rfl (st_assign (v := .own _ _ _ _ _) rfl rfl rfl ?_)
    refine sops_nil ?_
    refine swp_ret ?_
    with_reducible refine after_ret ?_
    exact ⟨.inl rfl, T.rows_keeps l, 2, rfl, .inl ⟨rfl, hbz hc4⟩⟩
  · refine swp_skip ?_
    refine swp_seq ?_
    refine swp_region ?_
    refine sops_go rfl (so_buildSlice (rows := []) rfl rfl rfl rfl rfl rfl rfl rfl rfl ?_)
    first | refine sops_go rfl (st_move (v := .d _) rfl rfl rfl ?_) | refine sops_go rfl (st_move (v := .own _ _ _ _ _) rfl rfl rfl ?_)
    refine sops_go rfl (so_append rfl rfl rfl rfl rfl rfl rfl rfl rfl rfl rfl (T.rows_ok l) (by show (_ + _) * 56 ≤ _; simp [T.rows_eq]; omega) (by first | (simp [T.rows_eq]; done) | (simp [T.rows_eq]; omega)) ?_)
    first | refine sops_go rfl (st_assign (v := .d _) rfl rfl rfl ?_) | refine sops_go rfl (st_assign (v := .own _ _ _ _ _) rfl rfl rfl ?_)
    refine sops_nil ?_
    refine swp_ret ?_
    exact ⟨.inl rfl, T.rows_keeps l, 2, rfl, .inr ⟨0, 1, own_len (by simp), rfl⟩⟩
end Go.Proofs.YtdcpnpcmgfmenaaGreatDoor
/-
  Walks: a type in memory of its own. Conditions: none.
-/
set_option linter.unusedVariables false
set_option maxRecDepth 100000
namespace Go.Proofs.YtdcpnpcmgfmenaaGreatDoor
open Go Go.Proofs.YtdcpnpcmgfmenaaGreatDoor.Lg

mutual
/-- Rows are short, all the way down. -/
def T.slim : T → Prop
  | .mk _ names list => names.length ≤ 1000 ∧ list.length ≤ 1000 ∧ T.slimL list
def T.slimL : List T → Prop
  | [] => True
  | x :: r => x.slim ∧ T.slimL r
end
theorem T.slimL_iff : ∀ l : List T, T.slimL l ↔ ∀ x ∈ l, x.slim
  | [] => by simp [T.slimL]
  | x :: r => by rw [T.slimL, T.slimL_iff r]; simp
theorem T.rows_take (l : List T) (k : Nat) (h : k < l.length) : T.rows (l.take (k + 1)) = T.rows (l.take k) ++ [l[k].cells] := by
  simp only [T.rows_eq, List.take_succ_eq_append_getElem h, List.map_append]; rfl

theorem own_pure (t : T) : t.slim → ∀ s, Pure env 52 [.d (t.df s)] (.d t.d) := by
  revert t
  apply T.ind
  intro kind names list ih hs s
  obtain ⟨hs1, hs2, hs3⟩ := hs
  rw [T.slimL_iff] at hs3
  refine pure_of_body Tryz.func52 rfl rfl rfl fun B hB => ?_
  refine swp_seq ?_
  refine swp_region ?_
  refine sops_go rfl (so_box (cs := [_, _, _]) rfl rfl rfl ?_)
  refine sops_go rfl (so_alloc (cs := [_, _, _]) rfl rfl rfl rfl ?_)
  refine sops_nil ?_
  refine swp_seq ?_
  refine swp_region ?_
  first | refine sops_go rfl (so_fieldAddr (v := .p _ _ _) rfl rfl rfl rfl rfl rfl rfl rfl rfl rfl ?_) | refine sops_go rfl (so_fieldAddr (v := .dp _ _) rfl rfl rfl rfl rfl rfl rfl rfl rfl rfl ?_) | refine sops_go rfl (so_fieldAddr (v := .pe _ _ _ _ _) rfl rfl rfl rfl rfl rfl rfl rfl rfl rfl ?_)
  first | refine sops_go rfl (so_load (v := .d _) rfl rfl rfl rfl rfl rfl rfl rfl ?_) | refine sops_go rfl (so_load (v := .own _ _ _ _ _) rfl rfl rfl rfl rfl rfl rfl rfl ?_)
  refine sops_go rfl (st_callO rfl rfl (cloneS_pure s names (by omega)) ⟨na_d _, trivial⟩ rfl ?_)
  first | refine sops_go rfl (so_fieldAddr (v := .p _ _ _) rfl rfl rfl rfl rfl rfl rfl rfl rfl rfl ?_) | refine sops_go rfl (so_fieldAddr (v := .dp _ _) rfl rfl rfl rfl rfl rfl rfl rfl rfl rfl ?_) | refine sops_go rfl (so_fieldAddr (v := .pe _ _ _ _ _) rfl rfl rfl rfl rfl rfl rfl rfl rfl rfl ?_)
  refine sops_go rfl (so_store rfl rfl rfl rfl rfl rfl rfl rfl rfl (zs := [_, _, _]) rfl ?_)
  refine sops_nil ?_
  refine swp_seq ?_
  refine swp_region ?_
  first | refine sops_go rfl (st_assign (v := .d _) rfl rfl rfl ?_) | refine sops_go rfl (st_assign (v := .own _ _ _ _ _) rfl rfl rfl ?_)
  refine sops_nil ?_
  refine swp_seq ?_
  refine swp_seq ?_
  refine swp_region ?_
  first | refine sops_go rfl (so_fieldAddr (v := .p _ _ _) rfl rfl rfl rfl rfl rfl rfl rfl rfl rfl ?_) | refine sops_go rfl (so_fieldAddr (v := .dp _ _) rfl rfl rfl rfl rfl rfl rfl rfl rfl rfl ?_) | refine sops_go rfl (so_fieldAddr (v := .pe _ _ _ _ _) rfl rfl rfl rfl rfl rfl rfl rfl rfl rfl ?_)
  first | refine sops_go rfl (so_load (v := .d _) rfl rfl rfl rfl rfl rfl rfl rfl ?_) | refine sops_go rfl (so_load (v := .own _ _ _ _ _) rfl rfl rfl rfl rfl rfl rfl rfl ?_)
  refine sops_go rfl (so_lenSl rfl rfl rfl rfl rfl ?_)
  refine sops_go rfl (st_move (v := .d _) rfl rfl rfl ?_)
  refine sops_nil ?_
  refine swp_block ?_
  refine swp_wk (wk_virt 3 26 3 rfl) ?_
  refine swp_loopF (F := fun i : Nat × Nat => { t := upd (upd (upd (upd (upd (upd (fun _ => .any) 1 (.p 0 0 0)) 2 (.p 1 0 0)) 3 (.own 3 i.2 3 0 i.1)) 11 (.d (.sl s (T.rows list)))) 12 (.d (.v (.int .i64 list.length)))) 13 (.d (.v (.int .i64 i.1))), n := 26, h := upd (upd (upd (upd (fun _ => .dead) 0 (.cells [.d (.v (.int .i64 kind)), .own 2 0 1 0 (strRows names).length, .any])) 1 (.cells [.any, .any, .any])) 2 (.arr 0 9 1 ((strRows names).map (·.map .d)))) 3 (.arr i.2 26 3 ((T.rows (list.take i.1)).map (·.map .d))), nx := 4 })
    (fun i => i.1 ≤ list.length) (fun i => list.length - i.1) (0, 0) (Nat.zero_le _) ?_ ?_
  · refine wk_of rfl (Nat.le_of_ble_eq_true rfl) (by rw [hB]; exact Nat.zero_le _) (tle_upd (le_eq rfl rfl) (tle_upd (le_eq (int_eq (by rw [T.rows_len])) rfl) (tle_upd (le_eq rfl rfl) (tle_upd (le_eq rfl rfl) (tle_upd (le_eq rfl rfl) (tle_upd (le_eq rfl rfl) (tle_any _))))))) (hle_upd (.arr _ _ _ _ _ (rfl) (rows_bnd _ _)) (hle_upd (.arr _ _ _ _ _ (rfl) (rows_bnd _ _)) (hle_upd (.cells _ _ ⟨le_any _, le_any _, le_any _, trivial⟩) (hle_upd (.cells _ _ ⟨le_eq rfl rfl, le_eq rfl rfl, le_any _, trivial⟩) (hle_dead _))))) (dead_upd (Nat.le_of_ble_eq_true rfl) (dead_upd (Nat.le_of_ble_eq_true rfl) (dead_upd (Nat.le_of_ble_eq_true rfl) (dead_upd (Nat.le_of_ble_eq_true rfl) (dead_none)))))
  rintro ⟨k, ver⟩ hk
  have hk : k ≤ list.length := hk
  refine swp_seq ?_
  refine swp_region ?_
  refine sops_go rfl (st_bin rfl rfl rfl rfl rfl ?_)
  refine sops_nil ?_
  refine swp_seq ?_
  refine swp_cond _ rfl (fun hc14 => ?_) (fun hc14 => ?_)
  · have hlt : k < list.length := by have := of_decide_eq_true hc14; omega
    have hx := ih _ (List.getElem_mem hlt) (hs3 _ (List.getElem_mem hlt)) true
    have htk := T.rows_take list k hlt
    refine swp_skip ?_
    refine swp_seq ?_
    refine swp_block ?_
    refine swp_seq ?_
    refine swp_region ?_
    refine sops_go rfl (so_indexSl rfl rfl rfl rfl rfl rfl rfl (T.rows_all _) (by omega) (by rw [T.rows_len]; omega) (T.rows_get _ _ hlt) ?_)
    generalize list[k] = x at hx htk ⊢
    obtain ⟨x1, x2, x3⟩ := x
    first | refine sops_go rfl (so_load (v := .d (.agg [_, _, _])) rfl rfl rfl rfl rfl rfl rfl rfl ?_) | refine sops_go rfl (so_load (v := .agg [_, _, _]) rfl rfl rfl rfl rfl rfl rfl rfl ?_)
    refine sops_go rfl (so_alloc (cs := [_, _, _]) rfl rfl rfl rfl ?_)
    refine sops_go rfl (so_store rfl rfl rfl rfl rfl rfl rfl rfl rfl (zs := [_, _, _]) rfl ?_)
    refine sops_nil ?_
    refine swp_region ?_
    first | refine sops_go rfl (st_move (v := .d _) rfl rfl rfl ?_) | refine sops_go rfl (st_move (v := .own _ _ _ _ _) rfl rfl rfl ?_)
    first | refine sops_go rfl (so_load (v := .d (.agg [_, _, _])) rfl rfl rfl rfl rfl rfl rfl rfl ?_) | refine sops_go rfl (so_load (v := .agg [_, _, _]) rfl rfl rfl rfl rfl rfl rfl rfl ?_)
    refine sops_go rfl (st_call rfl rfl (hx) ⟨na_d _, trivial⟩ rfl ?_)
    refine sops_go rfl (so_buildSlice (rows := [[_, _, _]]) rfl rfl rfl rfl rfl rfl rfl rfl rfl ?_)
    refine sops_go rfl (so_append rfl rfl rfl rfl rfl rfl rfl rfl rfl rfl (by simp [T.rows_len]; omega) (by intro r hr; simp at hr; subst hr; exact ⟨rfl, rfl⟩) (by show (_ + _) * 56 ≤ _; simp [T.rows_len]; omega) (by simp [T.rows_len]; omega) ?_)
    first | refine sops_go rfl (st_assign (v := .d _) rfl rfl rfl ?_) | refine sops_go rfl (st_assign (v := .own _ _ _ _ _) rfl rfl rfl ?_)
    refine sops_nil ?_
    refine swp_region ?_
    refine sops_go rfl (st_bin rfl rfl rfl rfl rfl ?_)
    refine sops_go rfl (st_move (v := .d _) rfl rfl rfl ?_)
    refine sops_nil ?_
    refine ⟨(k + 1, ver + 1), hlt, by show list.length - (k + 1) < list.length - k; omega, ?_⟩
    refine wk_of rfl (Nat.le_of_ble_eq_true rfl) (by rw [hB]; exact Nat.zero_le _) (tle_upd (le_eq (next_i64 hlt (by omega)) rfl) (tle_upd (le_eq rfl rfl) (tle_upd (le_eq rfl rfl) (tle_upd (le_eq (own_len (by simp [T.rows_len]; omega)) rfl) (tle_upd (le_eq rfl rfl) (tle_upd (le_eq rfl rfl) (tle_any _))))))) (hle_upd (.arr _ _ _ _ _ ((by rw [htk]; simp [T.cells])) (rows_bnd _ _)) (hle_upd (.arr _ _ _ _ _ (rfl) (rows_bnd _ _)) (hle_upd (.cells _ _ ⟨le_any _, le_any _, le_any _, trivial⟩) (hle_upd (.cells _ _ ⟨le_eq rfl rfl, le_eq rfl rfl, le_any _, trivial⟩) (hle_dead _))))) (dead_upd (Nat.le_of_ble_eq_true rfl) (dead_upd (Nat.le_of_ble_eq_true rfl) (dead_upd (Nat.le_of_ble_eq_true rfl) (dead_upd (Nat.le_of_ble_eq_true rfl) (dead_none)))))
  · have he : k = list.length := by have := of_decide_eq_false hc14; omega
    subst he
    rw [List.take_length]
    refine swp_exit ?_
    with_reducible refine after_exit ?_
    with_reducible refine after_exit ?_
    refine inblk_hit ?_
    refine swp_seq ?_
    refine swp_region ?_
    first | refine sops_go rfl (st_move (v := .d _) rfl rfl rfl ?_) | refine sops_go rfl (st_move (v := .own _ _ _ _ _) rfl rfl rfl ?_)
    first | refine sops_go rfl (so_fieldAddr (v := .p _ _ _) rfl rfl rfl rfl rfl rfl rfl rfl rfl rfl ?_) | refine sops_go rfl (so_fieldAddr (v := .dp _ _) rfl rfl rfl rfl rfl rfl rfl rfl rfl rfl ?_) | refine sops_go rfl (so_fieldAddr (v := .pe _ _ _ _ _) rfl rfl rfl rfl rfl rfl rfl rfl rfl rfl ?_)
    refine sops_go rfl (so_store rfl rfl rfl rfl rfl rfl rfl rfl rfl (zs := [_, _, _]) rfl ?_)
    refine sops_nil ?_
    refine swp_seq ?_
    refine swp_region ?_
    first | refine sops_go rfl (so_load (v := .d (.agg [_, _, _])) rfl rfl rfl rfl rfl rfl rfl rfl ?_) | refine sops_go rfl (so_load (v := .agg [_, _, _]) rfl rfl rfl rfl rfl rfl rfl rfl ?_)
    refine sops_go rfl (so_store rfl rfl rfl rfl rfl rfl rfl rfl rfl (zs := [_, _, _]) rfl ?_)
    refine sops_nil ?_
    refine swp_ret ?_
    exact fin_c rfl (rc_of rfl rfl rfl rfl rfl (ra_agg ⟨ra_d (keeps_v _), ra_row rfl rfl (strRows_keeps _), ra_row rfl (by rw [T.rows_len]) (T.rows_keeps _), trivial⟩))
end Go.Proofs.YtdcpnpcmgfmenaaGreatDoor
/-
  Walks: the least type that two are part of. Conditions: none.
-/
set_option linter.unusedVariables false
set_option maxRecDepth 100000
namespace Go.Proofs.YtdcpnpcmgfmenaaGreatDoor
open Go Go.Proofs.YtdcpnpcmgfmenaaGreatDoor.Lg

def T.every : T := .mk 1 [] []
def T.joinL (pl : List (ByteArray × Nat)) : List ByteArray → List T → List ByteArray → List T → Option (List ByteArray × List T)
  | n :: ns, y :: ys, nm, ls => match pget pl n with
    | none => T.joinL pl ns ys (nm ++ [n]) (ls ++ [y])
    | some k => if y.sub (ls.getD k .every) = true then T.joinL pl ns ys nm ls else if (ls.getD k .every).sub y = true then T.joinL pl ns ys nm (ls.set k y) else none
  | _, _, nm, ls => some (nm, ls)
def T.joinFin : Option (List ByteArray × List T) → T
  | none => .every
  | some (nm, ls) => if ((T.mk 11 nm ls).check != 0) = true then .every else .mk 11 nm ls
def T.join (a b : T) : T :=
  if a.sub b = true then b else if b.sub a = true then a else if (a.kind != 11 || b.kind != 11) = true then .every
  else T.joinFin (T.joinL (placesOf a.names) b.names b.list a.names a.list)

theorem na_row {E : Env} {σ : St} {l k e sz n : Nat} {rows : List (List D)} (hl : σ.h l = .arr k e sz (rows.map (·.map .d))) (hn : n = rows.length) : NA E σ (.own l k sz 0 n) (.d (.sl false rows)) := by
  have := na_own (E := E) (σ := σ) (off := 0) (n := n) hl (by omega)
  rw [List.drop_zero, hn, List.take_length] at this
  rw [hn]; exact this
theorem ra_dagg {E : Env} {σ : St} {cs ds : List D} (h : RAs E σ (cs.map .d) (ds.map .d)) : RA E σ (.d (.agg cs)) (.d (.agg ds)) := fun B g w a hB hr y hy => by
  obtain ⟨h1, h2⟩ := ras_get h
  have hy := vr_data hy
  cases hy with
  | agg _ xs g1 g2 =>
    refine .d _ _ (.agg _ _ (by simp at h1; omega) fun i d x hd hx => ?_)
    have hi : i < cs.length := by simp at h1; rw [h1]; exact (List.getElem?_eq_some_iff.1 hd).1
    exact vr_data (h2 i (.d cs[i]) (.d d) (by simp [hi]) (by simp [hd]) B g w a hB hr x (.d _ _ (g2 i _ x (List.getElem?_eq_getElem hi) hx)))
theorem at_pe {h : Nat → AO} {l k e sz i : Nat} {es : List (List AV)} {row : List AV} (hl : h l = .arr k e sz es) (hr : es[i]? = some row) : at_ h (.pe l k sz i 0) = some row := by simp [at_, hl, hr]
theorem T.rows_at {l : List T} {k : Nat} {kind : Int} {names : List ByteArray} {list : List T} (h : l[k]? = some (.mk kind names list)) : ((T.rows l).map (·.map AV.d))[k]? = some [.d (.v (.int .i64 kind)), .d (.sl true (strRows names)), .d (.sl true (T.rows list))] := by
  simp [T.rows_eq, h, T.cells]
theorem T.rows_set (l : List T) (k : Nat) (y : T) : ((T.rows l).map (·.map AV.d)).set k (y.cells.map .d) = (T.rows (l.set k y)).map (·.map .d) := by
  simp [T.rows_eq, List.map_set]

structure JInv (n i : Nat) (nm : List ByteArray) (ls : List T) : Prop where
  lo : n ≤ ls.length
  hi : ls.length ≤ 1000 + i
  hn : nm.length ≤ 1000 + i
  fn : ∀ x ∈ nm, fits x
  ff : ∀ x ∈ ls, x.fit
  fo : ∀ x ∈ ls, x.formed = true
theorem JInv.add {n i : Nat} {nm : List ByteArray} {ls : List T} (h : JInv n i nm ls) {s : ByteArray} {y : T} (hs : fits s) (hf : y.fit) (ho : y.formed = true) : JInv n (i + 1) (nm ++ [s]) (ls ++ [y]) :=
  ⟨by have := h.lo; simp; omega, by have := h.hi; simp; omega, by have := h.hn; simp; omega, by intro x hx; simp at hx; rcases hx with hx | rfl; exact h.fn x hx; exact hs,
    by intro x hx; simp at hx; rcases hx with hx | rfl; exact h.ff x hx; exact hf, by intro x hx; simp at hx; rcases hx with hx | rfl; exact h.fo x hx; exact ho⟩
theorem JInv.set {n i k : Nat} {nm : List ByteArray} {ls : List T} (h : JInv n i nm ls) {y : T} (hf : y.fit) (ho : y.formed = true) : JInv n (i + 1) nm (ls.set k y) :=
  ⟨by have := h.lo; simp; omega, by have := h.hi; simp; omega, by have := h.hn; omega, h.fn, by intro x hx; rcases List.mem_or_eq_of_mem_set hx with hx | rfl; exact h.ff x hx; exact hf,
    by intro x hx; rcases List.mem_or_eq_of_mem_set hx with hx | rfl; exact h.fo x hx; exact ho⟩
theorem JInv.up {n i : Nat} {nm : List ByteArray} {ls : List T} (h : JInv n i nm ls) : JInv n (i + 1) nm ls := ⟨h.lo, by have := h.hi; omega, by have := h.hn; omega, h.fn, h.ff, h.fo⟩

structure JI where
  i : Nat
  nm : List ByteArray
  ls : List T
  v1 : Nat
  v2 : Nat

theorem join_pure (a b : T) (ha : a.formed = true) (hb : b.formed = true) (hfa : a.fit) (hfb : b.fit) (hsa : a.slim) (hsb : b.slim) : Pure env 53 [.d (a.df true), .d (b.df true)] (.d ((a.join b).df true)) := by
  have hsub := sub_pure a b ha hb true true
  have hsub' := sub_pure b a hb ha true true
  have hS : a.join b = if a.sub b = true then b else if b.sub a = true then a else if (a.kind != 11 || b.kind != 11) = true then .every
    else T.joinFin (T.joinL (placesOf a.names) b.names b.list a.names a.list) := rfl
  generalize a.sub b = r1 at *
  generalize b.sub a = r2 at *
  generalize a.join b = R at *
  obtain ⟨ka, na, la⟩ := a
  obtain ⟨kb, nb, lb⟩ := b
  have ia := T.inv ha
  have ib := T.inv hb
  obtain ⟨hsa1, hsa2, hsa3⟩ := hsa
  obtain ⟨hsb1, hsb2, hsb3⟩ := hsb
  have hS : R = if r1 = true then .mk kb nb lb else if r2 = true then .mk ka na la else if (ka != 11 || kb != 11) = true then .every else T.joinFin (T.joinL (placesOf na) nb lb na la) := hS
  refine pure_of_body Tryz.func53 rfl rfl rfl fun B hB => ?_
  refine swp_seq ?_
  refine swp_region ?_
  refine sops_go rfl (so_box (cs := [_, _, _]) rfl rfl rfl ?_)
  refine sops_go rfl (so_box (cs := [_, _, _]) rfl rfl rfl ?_)
  refine sops_go rfl (so_alloc (cs := [_, _, _]) rfl rfl rfl rfl ?_)
  refine sops_nil ?_
  refine swp_seq ?_
  refine swp_region ?_
  first | refine sops_go rfl (so_build (v := .d (.agg [_, _, _])) rfl rfl rfl rfl rfl rfl rfl ?_) | refine sops_go rfl (so_build (v := .agg [_, _, _]) rfl rfl rfl rfl rfl rfl rfl ?_)
  refine sops_go rfl (so_alloc (cs := [_, _, _]) rfl rfl rfl rfl ?_)
  refine sops_go rfl (so_store rfl rfl rfl rfl rfl rfl rfl rfl rfl (zs := [_, _, _]) rfl ?_)
  refine sops_nil ?_
  refine swp_seq ?_
  refine swp_block ?_
  refine swp_seq ?_
  refine swp_region ?_
  first | refine sops_go rfl (so_load (v := .d (.agg [_, _, _])) rfl rfl rfl rfl rfl rfl rfl rfl ?_) | refine sops_go rfl (so_load (v := .agg [_, _, _]) rfl rfl rfl rfl rfl rfl rfl rfl ?_)
  first | refine sops_go rfl (so_load (v := .d (.agg [_, _, _])) rfl rfl rfl rfl rfl rfl rfl rfl ?_) | refine sops_go rfl (so_load (v := .agg [_, _, _]) rfl rfl rfl rfl rfl rfl rfl rfl ?_)
  refine sops_go rfl (st_call rfl rfl (hsub) ⟨na_d _, na_d _, trivial⟩ rfl ?_)
  refine sops_go rfl (st_assign (v := .d _) rfl rfl rfl ?_)
  refine sops_nil ?_
  refine swp_cond _ rfl (fun hc13 => ?_) (fun hc13 => ?_)
  · rw [if_pos hc13] at hS
    refine swp_seq ?_
    refine swp_region ?_
    first | refine sops_go rfl (so_load (v := .d (.agg [_, _, _])) rfl rfl rfl rfl rfl rfl rfl rfl ?_) | refine sops_go rfl (so_load (v := .agg [_, _, _]) rfl rfl rfl rfl rfl rfl rfl rfl ?_)
    refine sops_go rfl (so_store rfl rfl rfl rfl rfl rfl rfl rfl rfl (zs := [_, _, _]) rfl ?_)
    refine sops_nil ?_
    refine swp_ret ?_
    with_reducible refine inblk_ret ?_
    with_reducible refine after_ret ?_
    exact fin_c rfl (rc_of rfl rfl rfl rfl rfl (by rw [hS]; exact ra_d (T.keepsD (.mk kb nb lb))))
  · rw [if_neg (by rw [hc13]; simp)] at hS
    refine swp_seq ?_
    refine swp_region ?_
    first | refine sops_go rfl (so_load (v := .d (.agg [_, _, _])) rfl rfl rfl rfl rfl rfl rfl rfl ?_) | refine sops_go rfl (so_load (v := .agg [_, _, _]) rfl rfl rfl rfl rfl rfl rfl rfl ?_)
    first | refine sops_go rfl (so_load (v := .d (.agg [_, _, _])) rfl rfl rfl rfl rfl rfl rfl rfl ?_) | refine sops_go rfl (so_load (v := .agg [_, _, _]) rfl rfl rfl rfl rfl rfl rfl rfl ?_)
    refine sops_go rfl (st_call rfl rfl (hsub') ⟨na_d _, na_d _, trivial⟩ rfl ?_)
    refine sops_go rfl (st_assign (v := .d _) rfl rfl rfl ?_)
    refine sops_nil ?_
    refine swp_cond _ rfl (fun hc18 => ?_) (fun hc18 => ?_)
    · rw [if_pos hc18] at hS
      refine swp_seq ?_
      refine swp_region ?_
      first | refine sops_go rfl (so_load (v := .d (.agg [_, _, _])) rfl rfl rfl rfl rfl rfl rfl rfl ?_) | refine sops_go rfl (so_load (v := .agg [_, _, _]) rfl rfl rfl rfl rfl rfl rfl rfl ?_)
      refine sops_go rfl (so_store rfl rfl rfl rfl rfl rfl rfl rfl rfl (zs := [_, _, _]) rfl ?_)
      refine sops_nil ?_
      refine swp_ret ?_
      with_reducible refine inblk_ret ?_
      with_reducible refine after_ret ?_
      exact fin_c rfl (rc_of rfl rfl rfl rfl rfl (by rw [hS]; exact ra_d (T.keepsD (.mk ka na la))))
    · rw [if_neg (by rw [hc18]; simp)] at hS
      refine swp_seq ?_
      refine swp_region ?_
      first | refine sops_go rfl (so_fieldAddr (v := .p _ _ _) rfl rfl rfl rfl rfl rfl rfl rfl rfl rfl ?_) | refine sops_go rfl (so_fieldAddr (v := .dp _ _) rfl rfl rfl rfl rfl rfl rfl rfl rfl rfl ?_) | refine sops_go rfl (so_fieldAddr (v := .pe _ _ _ _ _) rfl rfl rfl rfl rfl rfl rfl rfl rfl rfl ?_)
      refine sops_go rfl (so_load (v := .d _) rfl rfl rfl rfl rfl rfl rfl rfl ?_)
      refine sops_go rfl (st_bin rfl rfl rfl rfl rfl ?_)
      refine sops_go rfl (st_move (v := .d _) rfl rfl rfl ?_)
      refine' sops_or (d := 27) (p := 31) [28, 29, 30] 4 rfl rfl rfl (fun hb27 => ?a27) (fun hb27 => ?b27) ?_
      case a27 =>
        first | refine sops_yes rfl rfl rfl rfl (so_fieldAddr (v := .p _ _ _) rfl rfl rfl rfl rfl rfl rfl rfl rfl rfl ?_) | refine sops_yes rfl rfl rfl rfl (so_fieldAddr (v := .dp _ _) rfl rfl rfl rfl rfl rfl rfl rfl rfl rfl ?_) | refine sops_yes rfl rfl rfl rfl (so_fieldAddr (v := .pe _ _ _ _ _) rfl rfl rfl rfl rfl rfl rfl rfl rfl rfl ?_)
        refine sops_yes rfl rfl rfl rfl (so_load (v := .d _) rfl rfl rfl rfl rfl rfl rfl rfl ?_)
        refine sops_yes rfl rfl rfl rfl (st_bin rfl rfl rfl rfl rfl ?_)
        refine sops_go rfl (st_pick (v := .d _) rfl rfl rfl rfl ?_)
        refine sops_nil ?_
        exact ⟨rfl, rfl, rfl, rfl, [_, _, _], rfl, rfl⟩
      case b27 =>
        refine sops_no rfl rfl rfl rfl rfl ?_
        refine sops_no rfl rfl rfl rfl rfl ?_
        refine sops_no rfl rfl rfl rfl rfl ?_
        refine sops_go rfl (st_pick (v := .d _) rfl rfl rfl rfl ?_)
        refine sops_nil ?_
        exact ⟨rfl, rfl, rfl, rfl, [_, _, _], rfl, rfl⟩
      refine sops_go rfl (st_assign (v := .d _) rfl rfl rfl ?_)
      refine sops_nil ?_
      refine swp_cond _ rfl (fun hc23 => ?_) (fun hc23 => ?_)
      · rw [if_pos (show (ka != 11 || kb != 11) = true from hc23)] at hS
        refine swp_seq ?_
        refine swp_region ?_
        first | refine sops_go rfl (so_load (v := .d (.agg [_, _, _])) rfl rfl rfl rfl rfl rfl rfl rfl ?_) | refine sops_go rfl (so_load (v := .agg [_, _, _]) rfl rfl rfl rfl rfl rfl rfl rfl ?_)
        refine sops_go rfl (so_store rfl rfl rfl rfl rfl rfl rfl rfl rfl (zs := [_, _, _]) rfl ?_)
        refine sops_nil ?_
        refine swp_ret ?_
        with_reducible refine inblk_ret ?_
        with_reducible refine after_ret ?_
        exact fin_c rfl (rc_of rfl rfl rfl rfl rfl (by rw [hS]; exact ra_dagg ⟨ra_d (keeps_v _), ra_nil, ra_nil, trivial⟩))
      · rw [if_neg (by rw [show (ka != 11 || kb != 11) = false from hc23]; simp)] at hS
        have e23 := Bool.or_eq_false_iff.1 hc23
        have hka : ka = 11 := by simpa using e23.1
        have hkb : kb = 11 := by simpa using e23.2
        have hla := ia.same (.inr hka)
        have hlb := ib.same (.inr hkb)
        refine swp_skip ?_
        refine swp_seq ?_
        refine swp_regionS 8 7 6 (by kernel_rfl) rfl rfl rfl rfl rfl rfl rfl rfl (Env.zer env (i := ti26) rfl) rfl ?_
        first | refine hd_go 0 rfl rfl rfl (so_fieldAddr (v := .p _ _ _) rfl rfl rfl rfl rfl rfl rfl rfl rfl rfl ⟨_, rfl, ?_⟩) | refine hd_go 0 rfl rfl rfl (so_fieldAddr (v := .dp _ _) rfl rfl rfl rfl rfl rfl rfl rfl rfl rfl ⟨_, rfl, ?_⟩) | refine hd_go 0 rfl rfl rfl (so_fieldAddr (v := .pe _ _ _ _ _) rfl rfl rfl rfl rfl rfl rfl rfl rfl rfl ⟨_, rfl, ?_⟩)
        first | refine hd_go 0 rfl rfl rfl (so_load (v := .d _) rfl rfl rfl rfl rfl rfl rfl rfl ⟨_, rfl, ?_⟩) | refine hd_go 0 rfl rfl rfl (so_load (v := .own _ _ _ _ _) rfl rfl rfl rfl rfl rfl rfl rfl ⟨_, rfl, ?_⟩)
        refine hd_new rfl rfl rfl (st_callO rfl rfl (cloneS_pure true na (by omega)) ⟨na_d _, trivial⟩ rfl ⟨_, _, rfl, ?_⟩)
        first | refine hd_go 0 rfl rfl rfl (so_fieldAddr (v := .p _ _ _) rfl rfl rfl rfl rfl rfl rfl rfl rfl rfl ⟨_, rfl, ?_⟩) | refine hd_go 0 rfl rfl rfl (so_fieldAddr (v := .dp _ _) rfl rfl rfl rfl rfl rfl rfl rfl rfl rfl ⟨_, rfl, ?_⟩) | refine hd_go 0 rfl rfl rfl (so_fieldAddr (v := .pe _ _ _ _ _) rfl rfl rfl rfl rfl rfl rfl rfl rfl rfl ⟨_, rfl, ?_⟩)
        first | refine hd_go 0 rfl rfl rfl (so_load (v := .d _) rfl rfl rfl rfl rfl rfl rfl rfl ⟨_, rfl, ?_⟩) | refine hd_go 0 rfl rfl rfl (so_load (v := .own _ _ _ _ _) rfl rfl rfl rfl rfl rfl rfl rfl ⟨_, rfl, ?_⟩)
        refine hd_new rfl rfl rfl (st_callO rfl rfl (cloneT_pure true la (by omega)) ⟨na_d _, trivial⟩ rfl ⟨_, _, rfl, ?_⟩)
        first | refine hd_go 2 rfl rfl rfl (so_build (v := .d (.agg [_, _, _])) rfl rfl rfl rfl rfl rfl rfl ⟨_, rfl, ?_⟩) | refine hd_go 2 rfl rfl rfl (so_build (v := .agg [_, _, _]) rfl rfl rfl rfl rfl rfl rfl ⟨_, rfl, ?_⟩)
        refine hd_side 0 rfl rfl rfl (Env.zer env (i := ti26) rfl) rfl rfl ?_
        refine hd_nil ?_
        refine sops_go rfl (so_store rfl rfl rfl rfl rfl rfl rfl rfl rfl (zs := [_, _, _]) rfl ?_)
        refine sops_nil ?_
        refine swp_seq ?_
        refine swp_region ?_
        first | refine sops_go rfl (so_fieldAddr (v := .p _ _ _) rfl rfl rfl rfl rfl rfl rfl rfl rfl rfl ?_) | refine sops_go rfl (so_fieldAddr (v := .dp _ _) rfl rfl rfl rfl rfl rfl rfl rfl rfl rfl ?_) | refine sops_go rfl (so_fieldAddr (v := .pe _ _ _ _ _) rfl rfl rfl rfl rfl rfl rfl rfl rfl rfl ?_)
        first | refine sops_go rfl (so_load (v := .d _) rfl rfl rfl rfl rfl rfl rfl rfl ?_) | refine sops_go rfl (so_load (v := .own _ _ _ _ _) rfl rfl rfl rfl rfl rfl rfl rfl ?_)
        refine sops_go rfl (st_call rfl rfl (places_pure true na) ⟨na_d _, trivial⟩ rfl ?_)
        first | refine sops_go rfl (st_assign (v := .map _) rfl rfl rfl ?_) | refine sops_go rfl (st_assign (v := .d _) rfl rfl rfl ?_)
        refine sops_nil ?_
        refine swp_seq ?_
        refine swp_seq ?_
        refine swp_region ?_
        first | refine sops_go rfl (so_fieldAddr (v := .p _ _ _) rfl rfl rfl rfl rfl rfl rfl rfl rfl rfl ?_) | refine sops_go rfl (so_fieldAddr (v := .dp _ _) rfl rfl rfl rfl rfl rfl rfl rfl rfl rfl ?_) | refine sops_go rfl (so_fieldAddr (v := .pe _ _ _ _ _) rfl rfl rfl rfl rfl rfl rfl rfl rfl rfl ?_)
        first | refine sops_go rfl (so_load (v := .d _) rfl rfl rfl rfl rfl rfl rfl rfl ?_) | refine sops_go rfl (so_load (v := .own _ _ _ _ _) rfl rfl rfl rfl rfl rfl rfl rfl ?_)
        refine sops_go rfl (so_lenSl rfl rfl rfl rfl rfl ?_)
        refine sops_go rfl (st_move (v := .d _) rfl rfl rfl ?_)
        refine sops_nil ?_
        refine swp_block ?_
        refine swp_loopF (F := fun j : JI => { t := upd (upd (upd (upd (upd (upd (upd (upd (fun _ => .any) 3 (.p 1 0 0)) 4 (.p 2 0 0)) 5 (.p 3 0 0)) 6 (.p 6 0 0)) 7 (.d (.map (encM (placesOf na))))) 44 (.d (.sl true (strRows nb)))) 45 (.d (.v (.int .i64 nb.length)))) 46 (.d (.v (.int .i64 j.i))), n := 116, h := upd (upd (upd (upd (upd (upd (fun _ => .dead) 1 (.cells [.any, .any, .d (.sl true (T.rows lb))])) 2 (.cells [.any, .any, .any])) 3 (.cells [.d (.v (.int .i64 1)), .d (.v (.slice none 0 0)), .d (.v (.slice none 0 0))])) 4 (.arr j.v1 9 1 ((strRows j.nm).map (·.map .d)))) 5 (.arr j.v2 26 3 ((T.rows j.ls).map (·.map .d)))) 6 (.cells [.d (.v (.int .i64 11)), .own 4 j.v1 1 0 (strRows j.nm).length, .own 5 j.v2 3 0 (T.rows j.ls).length]), nx := 7 })
          (fun j => j.i ≤ nb.length ∧ JInv la.length j.i j.nm j.ls ∧ R = T.joinFin (T.joinL (placesOf na) (nb.drop j.i) (lb.drop j.i) j.nm j.ls)) (fun j => nb.length - j.i) ⟨0, na, la, 0, 0⟩ ⟨Nat.zero_le _, ⟨Nat.le_refl _, by show la.length ≤ _; omega, by show na.length ≤ _; omega, hfa.1, (T.fitL_iff la).1 hfa.2, ia.all⟩, hS⟩ ?_ ?_
        · refine wk_of rfl (Nat.le_of_ble_eq_true rfl) (by rw [hB]; exact Nat.zero_le _) (tle_upd (le_eq rfl rfl) (tle_upd (le_eq (int_eq (by rw [strRows_len])) rfl) (tle_upd (le_eq rfl rfl) (tle_upd (le_eq rfl rfl) (tle_upd (le_eq rfl rfl) (tle_upd (le_eq rfl rfl) (tle_upd (le_eq rfl rfl) (tle_upd (le_eq rfl rfl) (tle_any _))))))))) (hle_upd (.cells _ _ ⟨le_eq rfl rfl, le_eq rfl rfl, le_eq rfl rfl, trivial⟩) (hle_upd (.arr _ _ _ _ _ (rfl) (rows_bnd _ _)) (hle_upd (.arr _ _ _ _ _ (rfl) (rows_bnd _ _)) (hle_upd (.cells _ _ ⟨le_eq rfl rfl, le_eq rfl rfl, le_eq rfl rfl, trivial⟩) (hle_upd (.cells _ _ ⟨le_any _, le_any _, le_any _, trivial⟩) (hle_upd (.cells _ _ ⟨le_any _, le_any _, le_eq rfl rfl, trivial⟩) (hle_dead _))))))) (dead_upd (Nat.le_of_ble_eq_true rfl) (dead_upd (Nat.le_of_ble_eq_true rfl) (dead_upd (Nat.le_of_ble_eq_true rfl) (dead_upd (Nat.le_of_ble_eq_true rfl) (dead_upd (Nat.le_of_ble_eq_true rfl) (dead_upd (Nat.le_of_ble_eq_true rfl) (dead_none)))))))
        rintro ⟨i, nm, ls, v1, v2⟩ ⟨hi, hj, hS⟩
        dsimp only
        have hi : i ≤ nb.length := hi
        have hj : JInv la.length i nm ls := hj
        have hS : R = T.joinFin (T.joinL (placesOf na) (nb.drop i) (lb.drop i) nm ls) := hS
        have hj1 := hj.lo
        have hj2 := hj.hi
        have hj3 := hj.hn
        refine swp_seq ?_
        refine swp_region ?_
        refine sops_go rfl (st_bin rfl rfl rfl rfl rfl ?_)
        refine sops_nil ?_
        refine swp_seq ?_
        refine swp_cond _ rfl (fun hc47 => ?_) (fun hc47 => ?_)
        · have hlt : i < nb.length := by have := of_decide_eq_true hc47; exact Int.ofNat_lt.1 this
          have hk2 : i < lb.length := by omega
          rw [List.drop_eq_getElem_cons hk2, List.drop_eq_getElem_cons hlt, T.joinL] at hS
          have hyo := ib.all _ (List.getElem_mem hk2)
          have hyf := (T.fitL_iff lb).1 hfb.2 _ (List.getElem_mem hk2)
          have hnf := hfb.1 _ (List.getElem_mem hlt)
          refine swp_skip ?_
          refine swp_seq ?_
          refine swp_block ?_
          refine swp_seq ?_
          refine swp_region ?_
          refine sops_go rfl (st_move (v := .d _) rfl rfl rfl ?_)
          refine sops_go rfl (so_indexSl rfl rfl rfl rfl rfl rfl rfl (strRows_all _) (by omega) (by rw [strRows_len]; omega) (strRows_get _ _ hlt) ?_)
          generalize nb[i] = name at hS hnf ⊢
          refine sops_go rfl (so_load (v := .d _) rfl rfl rfl rfl rfl rfl rfl rfl ?_)
          refine sops_go rfl (st_assign (v := .d _) rfl rfl rfl ?_)
          refine sops_go rfl (st_assign (v := .d _) rfl rfl rfl ?_)
          refine sops_nil ?_
          refine swp_seq ?_
          refine swp_region ?_
          first | refine sops_go rfl (st_move (v := .map _) rfl rfl rfl ?_) | refine sops_go rfl (st_move (v := .d _) rfl rfl rfl ?_)
          refine sops_go rfl (st_move (v := .d _) rfl rfl rfl ?_)
          refine sops_go rfl (so_placeGet rfl rfl rfl rfl rfl rfl rfl rfl rfl rfl (placesOf_nodup na) ?_)
          refine sops_go rfl (st_move (v := .tup _) rfl rfl rfl ?_)
          refine sops_go rfl (st_extract (c := .d _) rfl rfl rfl rfl ?_)
          refine sops_go rfl (st_extract (c := .d _) rfl rfl rfl rfl ?_)
          refine sops_go rfl (st_assign (v := .d _) rfl rfl rfl ?_)
          refine sops_go rfl (st_assign (v := .d _) rfl rfl rfl ?_)
          refine sops_nil ?_
          refine swp_block ?_
          refine swp_seq ?_
          refine swp_region ?_
          refine sops_go rfl (st_move (v := .d _) rfl rfl rfl ?_)
          refine sops_go rfl (st_not rfl rfl rfl ?_)
          refine sops_go rfl (st_assign (v := .d _) rfl rfl rfl ?_)
          refine sops_nil ?_
          refine swp_cond _ rfl (fun hc58 => ?_) (fun hc58 => ?_)
          · have hp : pget (placesOf na) name = none := by simpa using hc58
            simp only [hp] at hS
            refine swp_seq ?_
            refine swp_region ?_
            first | refine sops_go rfl (so_fieldAddr (v := .p _ _ _) rfl rfl rfl rfl rfl rfl rfl rfl rfl rfl ?_) | refine sops_go rfl (so_fieldAddr (v := .dp _ _) rfl rfl rfl rfl rfl rfl rfl rfl rfl rfl ?_) | refine sops_go rfl (so_fieldAddr (v := .pe _ _ _ _ _) rfl rfl rfl rfl rfl rfl rfl rfl rfl rfl ?_)
            first | refine sops_go rfl (so_load (v := .d _) rfl rfl rfl rfl rfl rfl rfl rfl ?_) | refine sops_go rfl (so_load (v := .own _ _ _ _ _) rfl rfl rfl rfl rfl rfl rfl rfl ?_)
            refine sops_go rfl (st_move (v := .d _) rfl rfl rfl ?_)
            refine sops_go rfl (so_buildSlice (rows := [[_]]) rfl rfl rfl rfl rfl rfl rfl rfl rfl ?_)
            refine sops_go rfl (so_append rfl rfl rfl rfl rfl rfl rfl rfl rfl rfl (by simp) (by intro r hr; simp at hr; subst hr; exact ⟨rfl, rfl⟩) (by show (_ + _) * 16 ≤ _; simp [strRows]; omega) (by simp [strRows]; omega) ?_)
            first | refine sops_go rfl (so_fieldAddr (v := .p _ _ _) rfl rfl rfl rfl rfl rfl rfl rfl rfl rfl ?_) | refine sops_go rfl (so_fieldAddr (v := .dp _ _) rfl rfl rfl rfl rfl rfl rfl rfl rfl rfl ?_) | refine sops_go rfl (so_fieldAddr (v := .pe _ _ _ _ _) rfl rfl rfl rfl rfl rfl rfl rfl rfl rfl ?_)
            refine sops_go rfl (so_store rfl rfl rfl rfl rfl rfl rfl rfl rfl (zs := [_, _, _]) rfl ?_)
            refine sops_nil ?_
            refine swp_regionD 8 (by kernel_rfl) rfl rfl rfl ?_
            first | refine hd_go 0 rfl rfl rfl (so_fieldAddr (v := .p _ _ _) rfl rfl rfl rfl rfl rfl rfl rfl rfl rfl ⟨_, rfl, ?_⟩) | refine hd_go 0 rfl rfl rfl (so_fieldAddr (v := .dp _ _) rfl rfl rfl rfl rfl rfl rfl rfl rfl rfl ⟨_, rfl, ?_⟩) | refine hd_go 0 rfl rfl rfl (so_fieldAddr (v := .pe _ _ _ _ _) rfl rfl rfl rfl rfl rfl rfl rfl rfl rfl ⟨_, rfl, ?_⟩)
            first | refine hd_go 0 rfl rfl rfl (so_load (v := .d _) rfl rfl rfl rfl rfl rfl rfl rfl ⟨_, rfl, ?_⟩) | refine hd_go 0 rfl rfl rfl (so_load (v := .own _ _ _ _ _) rfl rfl rfl rfl rfl rfl rfl rfl ⟨_, rfl, ?_⟩)
            first | refine hd_go 0 rfl rfl rfl (so_fieldAddr (v := .p _ _ _) rfl rfl rfl rfl rfl rfl rfl rfl rfl rfl ⟨_, rfl, ?_⟩) | refine hd_go 0 rfl rfl rfl (so_fieldAddr (v := .dp _ _) rfl rfl rfl rfl rfl rfl rfl rfl rfl rfl ⟨_, rfl, ?_⟩) | refine hd_go 0 rfl rfl rfl (so_fieldAddr (v := .pe _ _ _ _ _) rfl rfl rfl rfl rfl rfl rfl rfl rfl rfl ⟨_, rfl, ?_⟩)
            first | refine hd_go 0 rfl rfl rfl (so_load (v := .d _) rfl rfl rfl rfl rfl rfl rfl rfl ⟨_, rfl, ?_⟩) | refine hd_go 0 rfl rfl rfl (so_load (v := .own _ _ _ _ _) rfl rfl rfl rfl rfl rfl rfl rfl ⟨_, rfl, ?_⟩)
            refine hd_go 0 rfl rfl rfl (st_move (v := .d _) rfl rfl rfl ⟨_, rfl, ?_⟩)
            refine hd_go 0 rfl rfl rfl (so_indexSl rfl rfl rfl rfl rfl rfl rfl (T.rows_all _) (by omega) (by rw [T.rows_len]; omega) (T.rows_get _ _ hk2) ⟨_, rfl, ?_⟩)
            generalize lb[i] = y at hS hyo hyf ⊢
            obtain ⟨y1, y2, y3⟩ := y
            first | refine hd_go 0 rfl rfl rfl (so_load (v := .d (.agg [_, _, _])) rfl rfl rfl rfl rfl rfl rfl rfl ⟨_, rfl, ?_⟩) | refine hd_go 0 rfl rfl rfl (so_load (v := .agg [_, _, _]) rfl rfl rfl rfl rfl rfl rfl rfl ⟨_, rfl, ?_⟩)
            refine hd_new rfl rfl rfl (so_buildSlice (rows := [[_, _, _]]) rfl rfl rfl rfl rfl rfl rfl rfl rfl ⟨_, _, rfl, ?_⟩)
            refine hd_nil ?_
            refine sops_go rfl (so_append rfl rfl rfl rfl rfl rfl rfl rfl rfl rfl (by simp) (by intro r hr; simp at hr; subst hr; exact ⟨rfl, rfl⟩) (by show (_ + _) * 56 ≤ _; simp [T.rows_eq]; omega) (by simp [T.rows_eq]; omega) ?_)
            first | refine sops_go rfl (so_fieldAddr (v := .p _ _ _) rfl rfl rfl rfl rfl rfl rfl rfl rfl rfl ?_) | refine sops_go rfl (so_fieldAddr (v := .dp _ _) rfl rfl rfl rfl rfl rfl rfl rfl rfl rfl ?_) | refine sops_go rfl (so_fieldAddr (v := .pe _ _ _ _ _) rfl rfl rfl rfl rfl rfl rfl rfl rfl rfl ?_)
            refine sops_go rfl (so_store rfl rfl rfl rfl rfl rfl rfl rfl rfl (zs := [_, _, _]) rfl ?_)
            refine sops_nil ?_
            refine swp_region ?_
            refine sops_go rfl (st_bin rfl rfl rfl rfl rfl ?_)
            refine sops_go rfl (st_move (v := .d _) rfl rfl rfl ?_)
            refine sops_nil ?_
            refine ⟨⟨i + 1, nm ++ [name], ls ++ [.mk y1 y2 y3], v1 + 1, v2 + 1⟩, ⟨hlt, hj.add hnf hyf hyo, hS⟩, by show nb.length - (i + 1) < nb.length - i; omega, ?_⟩
            refine wk_of rfl (Nat.le_of_ble_eq_true rfl) (by rw [hB]; exact Nat.zero_le _) (tle_upd (le_eq (next_i64 hlt (by omega)) rfl) (tle_upd (le_eq rfl rfl) (tle_upd (le_eq rfl rfl) (tle_upd (le_eq rfl rfl) (tle_upd (le_eq rfl rfl) (tle_upd (le_eq rfl rfl) (tle_upd (le_eq rfl rfl) (tle_upd (le_eq rfl rfl) (tle_any _))))))))) (hle_upd (.cells _ _ ⟨le_eq rfl rfl, le_eq (own_len (by simp [strRows])) rfl, le_eq (own_len (by simp [T.rows_eq])) rfl, trivial⟩) (hle_upd (.arr _ _ _ _ _ ((by simp [T.rows_eq, T.cells])) (rows_bnd _ _)) (hle_upd (.arr _ _ _ _ _ ((by simp [strRows])) (rows_bnd _ _)) (hle_upd (.cells _ _ ⟨le_eq rfl rfl, le_eq rfl rfl, le_eq rfl rfl, trivial⟩) (hle_upd (.cells _ _ ⟨le_any _, le_any _, le_any _, trivial⟩) (hle_upd (.cells _ _ ⟨le_any _, le_any _, le_eq rfl rfl, trivial⟩) (hle_dead _))))))) (dead_upd (Nat.le_of_ble_eq_true rfl) (dead_upd (Nat.le_of_ble_eq_true rfl) (dead_upd (Nat.le_of_ble_eq_true rfl) (dead_upd (Nat.le_of_ble_eq_true rfl) (dead_upd (Nat.le_of_ble_eq_true rfl) (dead_upd (Nat.le_of_ble_eq_true rfl) (dead_none)))))))
          · obtain ⟨k, hp⟩ : ∃ k, pget (placesOf na) name = some k := by
              cases h : pget (placesOf na) name with
              | none => rw [h] at hc58; simp at hc58
              | some k => exact ⟨k, rfl⟩
            have hk : k < ls.length := by have := pget_lt hp; omega
            simp only [hp] at hS
            have hpk : (pget (placesOf na) name).getD 0 = k := by rw [hp]; rfl
            rw [hpk]
            have hlk : ls[k]? = some ls[k] := List.getElem?_eq_getElem hk
            have hzf := hj.fo _ (List.getElem_mem hk)
            have hzi := hj.ff _ (List.getElem_mem hk)
            rw [show ls.getD k .every = ls[k] by simp [List.getD, hk]] at hS
            generalize ls[k] = z at hS hlk hzf hzi
            have hs1 := sub_pure _ _ hyo hzf true true
            have hs2 := sub_pure _ _ hzf hyo true true
            obtain ⟨z1, z2, z3⟩ := z
            have hat := T.rows_at hlk
            refine swp_seq ?_
            refine swp_regionQ 10 (by kernel_rfl) rfl rfl rfl ?_
            first | refine h0_go rfl (so_fieldAddr (v := .p _ _ _) rfl rfl rfl rfl rfl rfl rfl rfl rfl rfl ⟨_, rfl, ?_⟩) | refine h0_go rfl (so_fieldAddr (v := .dp _ _) rfl rfl rfl rfl rfl rfl rfl rfl rfl rfl ⟨_, rfl, ?_⟩) | refine h0_go rfl (so_fieldAddr (v := .pe _ _ _ _ _) rfl rfl rfl rfl rfl rfl rfl rfl rfl rfl ⟨_, rfl, ?_⟩)
            first | refine h0_go rfl (so_load (v := .d _) rfl rfl rfl rfl rfl rfl rfl rfl ⟨_, rfl, ?_⟩) | refine h0_go rfl (so_load (v := .own _ _ _ _ _) rfl rfl rfl rfl rfl rfl rfl rfl ⟨_, rfl, ?_⟩)
            refine h0_go rfl (st_move (v := .d _) rfl rfl rfl ⟨_, rfl, ?_⟩)
            refine h0_go rfl (so_indexSl rfl rfl rfl rfl rfl rfl rfl (T.rows_all _) (by omega) (by rw [T.rows_len]; omega) (T.rows_get _ _ hk2) ⟨_, rfl, ?_⟩)
            have hyr : (T.rows lb).getD i [] = (lb[i]).cells := T.rows_get _ _ hk2
            generalize lb[i] = y at hS hyo hyf hs1 hs2 hyr ⊢
            obtain ⟨y1, y2, y3⟩ := y
            first | refine h0_go rfl (so_load (v := .d (.agg [_, _, _])) rfl rfl rfl rfl rfl rfl rfl rfl ⟨_, rfl, ?_⟩) | refine h0_go rfl (so_load (v := .agg [_, _, _]) rfl rfl rfl rfl rfl rfl rfl rfl ⟨_, rfl, ?_⟩)
            first | refine h0_go rfl (so_fieldAddr (v := .p _ _ _) rfl rfl rfl rfl rfl rfl rfl rfl rfl rfl ⟨_, rfl, ?_⟩) | refine h0_go rfl (so_fieldAddr (v := .dp _ _) rfl rfl rfl rfl rfl rfl rfl rfl rfl rfl ⟨_, rfl, ?_⟩) | refine h0_go rfl (so_fieldAddr (v := .pe _ _ _ _ _) rfl rfl rfl rfl rfl rfl rfl rfl rfl rfl ⟨_, rfl, ?_⟩)
            first | refine h0_go rfl (so_load (v := .d _) rfl rfl rfl rfl rfl rfl rfl rfl ⟨_, rfl, ?_⟩) | refine h0_go rfl (so_load (v := .own _ _ _ _ _) rfl rfl rfl rfl rfl rfl rfl rfl ⟨_, rfl, ?_⟩)
            refine h0_go rfl (st_move (v := .d _) rfl rfl rfl ⟨_, rfl, ?_⟩)
            refine h0_go rfl (so_indexOwn rfl rfl rfl rfl rfl rfl rfl rfl rfl (by omega) (by simp [T.rows_eq]; omega) (by simp) ⟨_, rfl, ?_⟩)
            refine h0_go rfl (so_load (v := .d (.agg [_, _, _])) rfl rfl rfl (at_pe rfl (by simpa using hat)) rfl rfl rfl rfl ⟨_, rfl, ?_⟩)
            refine h0_nil ?_
            refine sops_go rfl (st_call rfl rfl (hs1) ⟨na_d _, na_d _, trivial⟩ rfl ?_)
            refine sops_go rfl (st_assign (v := .d _) rfl rfl rfl ?_)
            refine sops_nil ?_
            refine swp_cond _ rfl (fun hc77 => ?_) (fun hc77 => ?_)
            · rw [if_pos hc77] at hS
              refine swp_skip ?_
              refine swp_region ?_
              refine sops_go rfl (st_bin rfl rfl rfl rfl rfl ?_)
              refine sops_go rfl (st_move (v := .d _) rfl rfl rfl ?_)
              refine sops_nil ?_
              refine ⟨⟨i + 1, nm, ls, v1, v2⟩, ⟨hlt, hj.up, hS⟩, by show nb.length - (i + 1) < nb.length - i; omega, ?_⟩
              refine wk_of rfl (Nat.le_of_ble_eq_true rfl) (by rw [hB]; exact Nat.zero_le _) (tle_upd (le_eq (next_i64 hlt (by omega)) rfl) (tle_upd (le_eq rfl rfl) (tle_upd (le_eq rfl rfl) (tle_upd (le_eq rfl rfl) (tle_upd (le_eq rfl rfl) (tle_upd (le_eq rfl rfl) (tle_upd (le_eq rfl rfl) (tle_upd (le_eq rfl rfl) (tle_any _))))))))) (hle_upd (.cells _ _ ⟨le_eq rfl rfl, le_eq rfl rfl, le_eq rfl rfl, trivial⟩) (hle_upd (.arr _ _ _ _ _ (rfl) (rows_bnd _ _)) (hle_upd (.arr _ _ _ _ _ (rfl) (rows_bnd _ _)) (hle_upd (.cells _ _ ⟨le_eq rfl rfl, le_eq rfl rfl, le_eq rfl rfl, trivial⟩) (hle_upd (.cells _ _ ⟨le_any _, le_any _, le_any _, trivial⟩) (hle_upd (.cells _ _ ⟨le_any _, le_any _, le_eq rfl rfl, trivial⟩) (hle_dead _))))))) (dead_upd (Nat.le_of_ble_eq_true rfl) (dead_upd (Nat.le_of_ble_eq_true rfl) (dead_upd (Nat.le_of_ble_eq_true rfl) (dead_upd (Nat.le_of_ble_eq_true rfl) (dead_upd (Nat.le_of_ble_eq_true rfl) (dead_upd (Nat.le_of_ble_eq_true rfl) (dead_none)))))))
            · rw [if_neg (by rw [hc77]; simp)] at hS
              refine swp_seq ?_
              refine swp_regionQ 10 (by kernel_rfl) rfl rfl rfl ?_
              first | refine h0_go rfl (so_fieldAddr (v := .p _ _ _) rfl rfl rfl rfl rfl rfl rfl rfl rfl rfl ⟨_, rfl, ?_⟩) | refine h0_go rfl (so_fieldAddr (v := .dp _ _) rfl rfl rfl rfl rfl rfl rfl rfl rfl rfl ⟨_, rfl, ?_⟩) | refine h0_go rfl (so_fieldAddr (v := .pe _ _ _ _ _) rfl rfl rfl rfl rfl rfl rfl rfl rfl rfl ⟨_, rfl, ?_⟩)
              first | refine h0_go rfl (so_load (v := .d _) rfl rfl rfl rfl rfl rfl rfl rfl ⟨_, rfl, ?_⟩) | refine h0_go rfl (so_load (v := .own _ _ _ _ _) rfl rfl rfl rfl rfl rfl rfl rfl ⟨_, rfl, ?_⟩)
              refine h0_go rfl (st_move (v := .d _) rfl rfl rfl ⟨_, rfl, ?_⟩)
              refine h0_go rfl (so_indexOwn rfl rfl rfl rfl rfl rfl rfl rfl rfl (by omega) (by simp [T.rows_eq]; omega) (by simp) ⟨_, rfl, ?_⟩)
              refine h0_go rfl (so_load (v := .d (.agg [_, _, _])) rfl rfl rfl (at_pe rfl (by simpa using hat)) rfl rfl rfl rfl ⟨_, rfl, ?_⟩)
              first | refine h0_go rfl (so_fieldAddr (v := .p _ _ _) rfl rfl rfl rfl rfl rfl rfl rfl rfl rfl ⟨_, rfl, ?_⟩) | refine h0_go rfl (so_fieldAddr (v := .dp _ _) rfl rfl rfl rfl rfl rfl rfl rfl rfl rfl ⟨_, rfl, ?_⟩) | refine h0_go rfl (so_fieldAddr (v := .pe _ _ _ _ _) rfl rfl rfl rfl rfl rfl rfl rfl rfl rfl ⟨_, rfl, ?_⟩)
              first | refine h0_go rfl (so_load (v := .d _) rfl rfl rfl rfl rfl rfl rfl rfl ⟨_, rfl, ?_⟩) | refine h0_go rfl (so_load (v := .own _ _ _ _ _) rfl rfl rfl rfl rfl rfl rfl rfl ⟨_, rfl, ?_⟩)
              refine h0_go rfl (st_move (v := .d _) rfl rfl rfl ⟨_, rfl, ?_⟩)
              refine h0_go rfl (so_indexSl rfl rfl rfl rfl rfl rfl rfl (T.rows_all _) (by omega) (by rw [T.rows_len]; omega) hyr ⟨_, rfl, ?_⟩)
              first | refine h0_go rfl (so_load (v := .d (.agg [_, _, _])) rfl rfl rfl rfl rfl rfl rfl rfl ⟨_, rfl, ?_⟩) | refine h0_go rfl (so_load (v := .agg [_, _, _]) rfl rfl rfl rfl rfl rfl rfl rfl ⟨_, rfl, ?_⟩)
              refine h0_nil ?_
              refine sops_go rfl (st_call rfl rfl (hs2) ⟨na_d _, na_d _, trivial⟩ rfl ?_)
              refine sops_go rfl (st_assign (v := .d _) rfl rfl rfl ?_)
              refine sops_nil ?_
              refine swp_cond _ rfl (fun hc89 => ?_) (fun hc89 => ?_)
              · rw [if_pos hc89] at hS
                refine swp_regionQ 8 (by kernel_rfl) rfl rfl rfl ?_
                first | refine h0_go rfl (so_fieldAddr (v := .p _ _ _) rfl rfl rfl rfl rfl rfl rfl rfl rfl rfl ⟨_, rfl, ?_⟩) | refine h0_go rfl (so_fieldAddr (v := .dp _ _) rfl rfl rfl rfl rfl rfl rfl rfl rfl rfl ⟨_, rfl, ?_⟩) | refine h0_go rfl (so_fieldAddr (v := .pe _ _ _ _ _) rfl rfl rfl rfl rfl rfl rfl rfl rfl rfl ⟨_, rfl, ?_⟩)
                first | refine h0_go rfl (so_load (v := .d _) rfl rfl rfl rfl rfl rfl rfl rfl ⟨_, rfl, ?_⟩) | refine h0_go rfl (so_load (v := .own _ _ _ _ _) rfl rfl rfl rfl rfl rfl rfl rfl ⟨_, rfl, ?_⟩)
                refine h0_go rfl (st_move (v := .d _) rfl rfl rfl ⟨_, rfl, ?_⟩)
                first | refine h0_go rfl (so_fieldAddr (v := .p _ _ _) rfl rfl rfl rfl rfl rfl rfl rfl rfl rfl ⟨_, rfl, ?_⟩) | refine h0_go rfl (so_fieldAddr (v := .dp _ _) rfl rfl rfl rfl rfl rfl rfl rfl rfl rfl ⟨_, rfl, ?_⟩) | refine h0_go rfl (so_fieldAddr (v := .pe _ _ _ _ _) rfl rfl rfl rfl rfl rfl rfl rfl rfl rfl ⟨_, rfl, ?_⟩)
                first | refine h0_go rfl (so_load (v := .d _) rfl rfl rfl rfl rfl rfl rfl rfl ⟨_, rfl, ?_⟩) | refine h0_go rfl (so_load (v := .own _ _ _ _ _) rfl rfl rfl rfl rfl rfl rfl rfl ⟨_, rfl, ?_⟩)
                refine h0_go rfl (st_move (v := .d _) rfl rfl rfl ⟨_, rfl, ?_⟩)
                refine h0_go rfl (so_indexSl rfl rfl rfl rfl rfl rfl rfl (T.rows_all _) (by omega) (by rw [T.rows_len]; omega) hyr ⟨_, rfl, ?_⟩)
                first | refine h0_go rfl (so_load (v := .d (.agg [_, _, _])) rfl rfl rfl rfl rfl rfl rfl rfl ⟨_, rfl, ?_⟩) | refine h0_go rfl (so_load (v := .agg [_, _, _]) rfl rfl rfl rfl rfl rfl rfl rfl ⟨_, rfl, ?_⟩)
                refine h0_nil ?_
                refine sops_go rfl (so_indexOwn rfl rfl rfl rfl rfl rfl rfl rfl rfl (by omega) (by simp [T.rows_eq]; omega) (by simp) ?_)
                refine sops_go rfl (so_storeE rfl rfl rfl rfl rfl rfl rfl rfl (by simp [T.rows_eq]; omega) (by simp) ?_)
                refine sops_nil ?_
                refine swp_region ?_
                refine sops_go rfl (st_bin rfl rfl rfl rfl rfl ?_)
                refine sops_go rfl (st_move (v := .d _) rfl rfl rfl ?_)
                refine sops_nil ?_
                refine ⟨⟨i + 1, nm, ls.set k (.mk y1 y2 y3), v1, v2⟩, ⟨hlt, hj.set hyf hyo, hS⟩, by show nb.length - (i + 1) < nb.length - i; omega, ?_⟩
                refine wk_of rfl (Nat.le_of_ble_eq_true rfl) (by rw [hB]; exact Nat.zero_le _) (tle_upd (le_eq (next_i64 hlt (by omega)) rfl) (tle_upd (le_eq rfl rfl) (tle_upd (le_eq rfl rfl) (tle_upd (le_eq rfl rfl) (tle_upd (le_eq rfl rfl) (tle_upd (le_eq rfl rfl) (tle_upd (le_eq rfl rfl) (tle_upd (le_eq rfl rfl) (tle_any _))))))))) (hle_upd (.cells _ _ ⟨le_eq rfl rfl, le_eq rfl rfl, le_eq (own_len (by simp [T.rows_eq])) rfl, trivial⟩) (hle_upd (.arr _ _ _ _ _ ((by rw [← T.rows_set]; simp [splice, List.getD, hat, T.cells])) (rows_bnd _ _)) (hle_upd (.arr _ _ _ _ _ (rfl) (rows_bnd _ _)) (hle_upd (.cells _ _ ⟨le_eq rfl rfl, le_eq rfl rfl, le_eq rfl rfl, trivial⟩) (hle_upd (.cells _ _ ⟨le_any _, le_any _, le_any _, trivial⟩) (hle_upd (.cells _ _ ⟨le_any _, le_any _, le_eq rfl rfl, trivial⟩) (hle_dead _))))))) (dead_upd (Nat.le_of_ble_eq_true rfl) (dead_upd (Nat.le_of_ble_eq_true rfl) (dead_upd (Nat.le_of_ble_eq_true rfl) (dead_upd (Nat.le_of_ble_eq_true rfl) (dead_upd (Nat.le_of_ble_eq_true rfl) (dead_upd (Nat.le_of_ble_eq_true rfl) (dead_none)))))))
              · rw [if_neg (by rw [hc89]; simp)] at hS
                refine swp_seq ?_
                refine swp_region ?_
                first | refine sops_go rfl (so_load (v := .d (.agg [_, _, _])) rfl rfl rfl rfl rfl rfl rfl rfl ?_) | refine sops_go rfl (so_load (v := .agg [_, _, _]) rfl rfl rfl rfl rfl rfl rfl rfl ?_)
                refine sops_go rfl (so_store rfl rfl rfl rfl rfl rfl rfl rfl rfl (zs := [_, _, _]) rfl ?_)
                refine sops_nil ?_
                refine swp_ret ?_
                with_reducible refine inblk_ret ?_
                with_reducible refine inblk_ret ?_
                with_reducible refine after_ret ?_
                with_reducible refine after_ret ?_
                with_reducible refine inblk_ret ?_
                with_reducible refine after_ret ?_
                exact fin_c rfl (rc_of rfl rfl rfl rfl rfl (by rw [hS]; exact ra_dagg ⟨ra_d (keeps_v _), ra_nil, ra_nil, trivial⟩))
        · have he : i = nb.length := by have := of_decide_eq_false hc47; have h2 : ¬ (i : Int) < (nb.length : Int) := this; omega
          rw [he, List.drop_length, show T.joinL (placesOf na) [] (lb.drop nb.length) nm ls = some (nm, ls) by rw [T.joinL]; simp] at hS
          have hR : R = if ((T.mk 11 nm ls).check != 0) = true then .every else .mk 11 nm ls := hS
          have hck := checkT_pure (.mk 11 nm ls) ⟨hj.fn, (T.fitL_iff ls).2 hj.ff⟩ false
          refine swp_exit ?_
          with_reducible refine after_exit ?_
          with_reducible refine after_exit ?_
          refine inblk_hit ?_
          refine swp_seq ?_
          refine swp_seq ?_
          refine swp_region ?_
          first | refine sops_go rfl (so_load (v := .d (.agg [_, _, _])) rfl rfl rfl rfl rfl rfl rfl rfl ?_) | refine sops_go rfl (so_load (v := .agg [_, _, _]) rfl rfl rfl rfl rfl rfl rfl rfl ?_)
          refine sops_go rfl (st_call rfl rfl (hck) ⟨na_agg ⟨na_d _, na_row rfl rfl, na_row rfl rfl, trivial⟩, trivial⟩ rfl ?_)
          refine sops_go rfl (st_bin rfl rfl rfl rfl rfl ?_)
          refine sops_nil ?_
          refine swp_cond _ rfl (fun hc113 => ?_) (fun hc113 => ?_)
          · rw [if_pos hc113] at hR
            have hS := hR
            refine swp_seq ?_
            refine swp_region ?_
            first | refine sops_go rfl (so_load (v := .d (.agg [_, _, _])) rfl rfl rfl rfl rfl rfl rfl rfl ?_) | refine sops_go rfl (so_load (v := .agg [_, _, _]) rfl rfl rfl rfl rfl rfl rfl rfl ?_)
            refine sops_go rfl (so_store rfl rfl rfl rfl rfl rfl rfl rfl rfl (zs := [_, _, _]) rfl ?_)
            refine sops_nil ?_
            refine swp_ret ?_
            with_reducible refine after_ret ?_
            exact fin_c rfl (rc_of rfl rfl rfl rfl rfl (by rw [hS]; exact ra_dagg ⟨ra_d (keeps_v _), ra_nil, ra_nil, trivial⟩))
          · rw [if_neg (by rw [hc113]; simp)] at hR
            have hS := hR
            refine swp_skip ?_
            refine swp_seq ?_
            refine swp_region ?_
            first | refine sops_go rfl (so_load (v := .d (.agg [_, _, _])) rfl rfl rfl rfl rfl rfl rfl rfl ?_) | refine sops_go rfl (so_load (v := .agg [_, _, _]) rfl rfl rfl rfl rfl rfl rfl rfl ?_)
            refine sops_go rfl (so_store rfl rfl rfl rfl rfl rfl rfl rfl rfl (zs := [_, _, _]) rfl ?_)
            refine sops_nil ?_
            refine swp_ret ?_
            exact fin_c rfl (rc_of rfl rfl rfl rfl rfl (by rw [hS]; exact ra_agg ⟨ra_d (keeps_v _), ra_row rfl rfl (strRows_keeps _), ra_row rfl rfl (T.rows_keeps _), trivial⟩))
end Go.Proofs.YtdcpnpcmgfmenaaGreatDoor
/-
  Walks: types.Join, and the laws' own examples. Conditions: none.
-/
set_option linter.unusedVariables false
set_option maxRecDepth 100000
namespace Go.Proofs.YtdcpnpcmgfmenaaGreatDoor
open Go Go.Proofs.YtdcpnpcmgfmenaaGreatDoor.Lg

theorem na_dagg {E : Env} {σ : St} {cs ds : List D} (h : NAs E σ (cs.map .d) (ds.map .d)) : NA E σ (.d (.agg cs)) (.d (.agg ds)) := fun B g w a hr y hy => by
  obtain ⟨h1, h2⟩ := nas_get h
  have hy := vr_data hy
  cases hy with
  | agg _ xs g1 g2 =>
    refine .d _ _ (.agg _ _ (by simp at h1; omega) fun i d x hd hx => ?_)
    have hi : i < cs.length := by simp at h1; rw [h1]; exact (List.getElem?_eq_some_iff.1 hd).1
    exact vr_data (h2 i (.d cs[i]) (.d d) (by simp [hi]) (by simp [hd]) B g w a hr x (.d _ _ (g2 i _ x (List.getElem?_eq_getElem hi) hx)))

theorem T.spanF_ok : ∀ (l : List T) (a : Sp), (T.spanF l a).ok = (a.ok && l.all fun x => x.span.ok)
  | [], a => by rw [T.spanF]; simp
  | x :: r, a => by rw [T.spanF, T.spanF_ok r]; simp [Sp.add, Bool.and_assoc]
theorem T.slim_of : ∀ t : T, t.formed = true → t.span.ok = true → t.slim := by
  apply T.ind
  intro kind names list ih hf hs
  have ti := T.inv hf
  rw [T.span] at hs
  simp only [T.spanF_ok, Bool.and_eq_true, List.all_eq_true] at hs
  obtain ⟨h1, h2⟩ := hs
  have hl : list.length ≤ 256 := by
    simp only [shortRows, Bool.and_eq_true, decide_eq_true_eq] at h1
    omega
  refine ⟨?_, by omega, (T.slimL_iff list).2 fun x hx => ih x hx (ti.all x hx) (h2 x hx)⟩
  by_cases h9 : kind = 9
  · rw [ti.bare h9]; simp
  · by_cases h10 : kind = 10 ∨ kind = 11
    · have := ti.same h10; omega
    · rw [(ti.leaf (by omega)).1]; simp
theorem T.check_slim {t : T} (h : t.check = 0) : t.slim := by
  have hf := T.check_ok h
  refine T.slim_of t hf ?_
  unfold T.check at h
  rw [if_pos hf] at h
  split at h
  · simp at h
  · rename_i hl
    simp only [T.long, Bool.or_eq_true, not_or, Bool.not_eq_true, Bool.not_eq_false'] at hl
    simpa using hl.1
theorem T.join_slim {a b : T} (ha : a.slim) (hb : b.slim) : (a.join b).slim := by
  have hv : T.every.slim := ⟨by simp, by simp, by trivial⟩
  unfold T.join
  split
  · exact hb
  · split
    · exact ha
    · split
      · exact hv
      · unfold T.joinFin
        split
        · exact hv
        · split
          · exact hv
          · rename_i h; exact T.check_slim (by simpa using h)

def T.none : T := .mk 0 [] []
def T.Join (a b : T) : T × Int := if (a.both b != 0) = true then (.none, a.both b) else (a.join b, 0)
theorem T.both_checks {a b : T} (h : a.both b = 0) : a.check = 0 ∧ b.check = 0 := by
  unfold T.both at h
  split at h
  · rename_i hc; simp at hc; exact absurd h hc
  · rename_i hc; simp at hc; exact ⟨hc, h⟩

theorem Join_pure (a b : T) (ha : a.fit) (hb : b.fit) : Pure env 26 [.d (a.df true), .d (b.df true)] (.tup [.d (a.Join b).1.d, .d (.v (.int .i64 (a.Join b).2))]) := by
  have h1 := both_pure a b ha hb true true
  have h2 : a.both b = 0 → Pure env 53 [.d (a.df true), .d (b.df true)] (.d ((a.join b).df true)) := fun e =>
    join_pure a b (T.both_ok e).1 (T.both_ok e).2 ha hb (T.check_slim (T.both_checks e).1) (T.check_slim (T.both_checks e).2)
  have h3 : a.both b = 0 → Pure env 52 [.d ((a.join b).df true)] (.d (a.join b).d) := fun e => own_pure _ (T.join_slim (T.check_slim (T.both_checks e).1) (T.check_slim (T.both_checks e).2)) true
  have hS : a.Join b = if (a.both b != 0) = true then (.none, a.both b) else (a.join b, 0) := rfl
  generalize a.both b = ac at *
  generalize a.join b = r at *
  generalize a.Join b = R at *
  obtain ⟨kind, names, list⟩ := a
  obtain ⟨kind', names', list'⟩ := b
  obtain ⟨r1, r2, r3⟩ := r
  refine pure_of_body Tryz.func26 rfl rfl rfl fun B hB => ?_
  refine swp_seq ?_
  refine swp_region ?_
  refine sops_go rfl (so_box (cs := [_, _, _]) rfl rfl rfl ?_)
  refine sops_go rfl (so_box (cs := [_, _, _]) rfl rfl rfl ?_)
  refine sops_go rfl (so_alloc (cs := [_, _, _]) rfl rfl rfl rfl ?_)
  refine sops_go rfl (st_assign (v := .d _) rfl rfl rfl ?_)
  refine sops_nil ?_
  refine swp_seq ?_
  refine swp_seq ?_
  refine swp_region ?_
  first | refine sops_go rfl (so_load (v := .d (.agg [_, _, _])) rfl rfl rfl rfl rfl rfl rfl rfl ?_) | refine sops_go rfl (so_load (v := .agg [_, _, _]) rfl rfl rfl rfl rfl rfl rfl rfl ?_)
  first | refine sops_go rfl (so_load (v := .d (.agg [_, _, _])) rfl rfl rfl rfl rfl rfl rfl rfl ?_) | refine sops_go rfl (so_load (v := .agg [_, _, _]) rfl rfl rfl rfl rfl rfl rfl rfl ?_)
  refine sops_go rfl (st_call rfl rfl (h1) ⟨na_d _, na_d _, trivial⟩ rfl ?_)
  refine sops_go rfl (st_assign (v := .d _) rfl rfl rfl ?_)
  refine sops_nil ?_
  refine swp_seq ?_
  refine swp_region ?_
  refine sops_go rfl (st_move (v := .d _) rfl rfl rfl ?_)
  refine sops_go rfl (st_bin rfl rfl rfl rfl rfl ?_)
  refine sops_nil ?_
  refine swp_cond _ rfl (fun hc11 => ?_) (fun hc11 => ?_)
  · rw [if_pos hc11] at hS
    refine swp_seq ?_
    refine swp_region ?_
    first | refine sops_go rfl (so_build (v := .d (.agg [_, _, _])) rfl rfl rfl rfl rfl rfl rfl ?_) | refine sops_go rfl (so_build (v := .agg [_, _, _]) rfl rfl rfl rfl rfl rfl rfl ?_)
    refine sops_go rfl (st_move (v := .d _) rfl rfl rfl ?_)
    refine sops_go rfl (so_store rfl rfl rfl rfl rfl rfl rfl rfl rfl (zs := [_, _, _]) rfl ?_)
    refine sops_go rfl (st_assign (v := .d _) rfl rfl rfl ?_)
    refine sops_nil ?_
    refine swp_ret ?_
    with_reducible refine after_ret ?_
    rw [hS]; exact fin_cv rfl (rc_of rfl rfl rfl rfl rfl (ra_dagg ⟨ra_d (keeps_v _), ra_nil, ra_nil, trivial⟩)) rfl rfl
  · rw [if_neg (by rw [hc11]; simp)] at hS
    refine swp_skip ?_
    refine swp_seq ?_
    refine swp_region ?_
    first | refine sops_go rfl (so_load (v := .d (.agg [_, _, _])) rfl rfl rfl rfl rfl rfl rfl rfl ?_) | refine sops_go rfl (so_load (v := .agg [_, _, _]) rfl rfl rfl rfl rfl rfl rfl rfl ?_)
    first | refine sops_go rfl (so_load (v := .d (.agg [_, _, _])) rfl rfl rfl rfl rfl rfl rfl rfl ?_) | refine sops_go rfl (so_load (v := .agg [_, _, _]) rfl rfl rfl rfl rfl rfl rfl rfl ?_)
    refine sops_go rfl (st_call rfl rfl (h2 (by simpa using hc11)) ⟨na_d _, na_d _, trivial⟩ rfl ?_)
    refine sops_go rfl (st_call rfl rfl (h3 (by simpa using hc11)) ⟨na_d _, trivial⟩ rfl ?_)
    refine sops_go rfl (so_store rfl rfl rfl rfl rfl rfl rfl rfl rfl (zs := [_, _, _]) rfl ?_)
    refine sops_go rfl (st_assign (v := .d _) rfl rfl rfl ?_)
    refine sops_nil ?_
    refine swp_ret ?_
    rw [hS]; exact fin_cv rfl (rc_of rfl rfl rfl rfl rfl (ra_d (T.keepsD (.mk r1 r2 r3)))) rfl rfl

theorem plain_pure (k : Int) : Pure env 24 [.d (.v (.int .i64 k))] (.d (T.mk k [] []).d) := by
  refine pure_of_body Tryz.func24 rfl rfl rfl fun B hB => ?_
  refine swp_seq ?_
  refine swp_region ?_
  refine sops_go rfl (so_alloc (cs := [_, _, _]) rfl rfl rfl rfl ?_)
  refine sops_nil ?_
  refine swp_seq ?_
  refine swp_region ?_
  refine sops_go rfl (st_move (v := .d _) rfl rfl rfl ?_)
  first | refine sops_go rfl (so_build (v := .d (.agg [_, _, _])) rfl rfl rfl rfl rfl rfl rfl ?_) | refine sops_go rfl (so_build (v := .agg [_, _, _]) rfl rfl rfl rfl rfl rfl rfl ?_)
  refine sops_go rfl (so_store rfl rfl rfl rfl rfl rfl rfl rfl rfl (zs := [_, _, _]) rfl ?_)
  refine sops_nil ?_
  refine swp_ret ?_
  exact fin_c rfl (rc_of rfl rfl rfl rfl rfl (ra_dagg ⟨ra_d (keeps_v _), ra_nil, ra_nil, trivial⟩))
theorem union_pure (s : ByteArray) (t : T) : Pure env 27 [.d (.v (.string s)), .d t.d] (.d (T.mk 11 [s] [t]).d) := by
  obtain ⟨kind, names, list⟩ := t
  refine pure_of_body Tryz.func27 rfl rfl rfl fun B hB => ?_
  refine swp_seq ?_
  refine swp_region ?_
  refine sops_go rfl (so_box (cs := [_, _, _]) rfl rfl rfl ?_)
  refine sops_go rfl (so_alloc (cs := [_, _, _]) rfl rfl rfl rfl ?_)
  refine sops_nil ?_
  refine swp_seq ?_
  refine swp_region ?_
  refine sops_go rfl (st_move (v := .d _) rfl rfl rfl ?_)
  refine sops_go rfl (so_buildSlice (rows := [[_]]) rfl rfl rfl rfl rfl rfl rfl rfl rfl ?_)
  first | refine sops_go rfl (so_load (v := .d (.agg [_, _, _])) rfl rfl rfl rfl rfl rfl rfl rfl ?_) | refine sops_go rfl (so_load (v := .agg [_, _, _]) rfl rfl rfl rfl rfl rfl rfl rfl ?_)
  refine sops_go rfl (so_buildSlice (rows := [[_, _, _]]) rfl rfl rfl rfl rfl rfl rfl rfl rfl ?_)
  first | refine sops_go rfl (so_build (v := .d (.agg [_, _, _])) rfl rfl rfl rfl rfl rfl rfl ?_) | refine sops_go rfl (so_build (v := .agg [_, _, _]) rfl rfl rfl rfl rfl rfl rfl ?_)
  refine sops_go rfl (so_store rfl rfl rfl rfl rfl rfl rfl rfl rfl (zs := [_, _, _]) rfl ?_)
  refine sops_nil ?_
  refine swp_ret ?_
  exact fin_c rfl (rc_of rfl rfl rfl rfl rfl (ra_agg ⟨ra_d (keeps_v _), ra_row (rows := strRows [s]) rfl rfl (strRows_keeps _), ra_row (rows := T.rows [.mk kind names list]) rfl rfl (T.rows_keeps _), trivial⟩))

def tA : T := .mk 11 [⟨#[97]⟩] [.mk 5 [] []]
def tB : T := .mk 11 [⟨#[98]⟩] [.mk 7 [] []]
def vFive : V := .mk 3 false false ⟨#[53]⟩ 0 0 ⟨#[]⟩ [] []
def vHalf : V := .mk 3 false false ⟨#[53]⟩ (-1) 0 ⟨#[]⟩ [] []
theorem aw1 : (T.mk 5 [] []).Has vFive = (true, 0) := by kernel_rfl
theorem aw2 : (T.mk 5 [] []).Has vHalf = (false, 0) := by kernel_rfl
theorem aw3 : (T.mk 5 [] []).Sub (T.mk 4 [] []) = (true, 0) := by kernel_rfl
theorem aw4 : (T.mk 4 [] []).Sub (T.mk 5 [] []) = (false, 0) := by kernel_rfl
theorem aw5 : tA.Join tB = (.mk 11 [⟨#[97]⟩, ⟨#[98]⟩] [.mk 5 [] [], .mk 7 [] []], 0) := by kernel_rfl
theorem aw6 : (T.mk 0 [] []).check = 110 := by kernel_rfl
theorem aw7 : (T.mk 9 [] []).check = 110 := by kernel_rfl
end Go.Proofs.YtdcpnpcmgfmenaaGreatDoor
/-
  Plain law: parts of types, and their values. Conditions: none.
-/
set_option linter.unusedVariables false
set_option linter.unusedSimpArgs false
namespace Go.Proofs.YtdcpnpcmgfmenaaGreatDoor
open Go Go.Proofs.YtdcpnpcmgfmenaaGreatDoor.Lg

theorem text_eq {x y : ByteArray} (h : x.toList = y.toList) : x = y := by
  rw [ByteArray.toList_eq, ByteArray.toList_eq] at h
  cases x; cases y; congr; exact Array.toList_inj.1 h
theorem strEq_iff (x y : ByteArray) : strEq x y = true ↔ x = y := by
  unfold strEq
  constructor
  · intro h; exact text_eq (by simpa using h)
  · rintro rfl; simp
theorem rowsEq_str : ∀ (a b : List ByteArray), rowsEq strEq a b = true ↔ a = b
  | [], [] => by simp [rowsEq]
  | [], _ :: _ => by simp [rowsEq]
  | _ :: _, [] => by simp [rowsEq]
  | x :: a, y :: b => by simp only [rowsEq, Bool.and_eq_true, strEq_iff, rowsEq_str a b, List.cons.injEq]
theorem rowsEq_iff {α : Type} (p : α → α → Bool) : ∀ (a b : List α), rowsEq p a b = true ↔ a.length = b.length ∧ ∀ (i : Nat) (h : i < a.length) (h' : i < b.length), p a[i] b[i] = true
  | [], [] => by simp [rowsEq]
  | [], _ :: _ => by simp [rowsEq]
  | _ :: _, [] => by simp [rowsEq]
  | x :: a, y :: b => by
    simp only [rowsEq, Bool.and_eq_true, rowsEq_iff p a b, List.length_cons, Nat.add_right_cancel_iff]
    constructor
    · rintro ⟨h0, h1, h2⟩
      refine ⟨h1, fun i h h' => ?_⟩
      cases i with
      | zero => exact h0
      | succ i => exact h2 i (by omega) (by omega)
    · rintro ⟨h1, h2⟩
      exact ⟨h2 0 (by omega) (by omega), h1, fun i h h' => h2 (i + 1) (by omega) (by omega)⟩

/-! ### Where names stand -/
theorem mput_len (es : List (ByteArray × Nat)) (s : ByteArray) (i : Nat) : (mput es s i).length ≤ es.length + 1 ∧ ((mput es s i).length = es.length + 1 → mput es s i = es ++ [(s, i)]) := by
  induction es with
  | nil => simp [mput]
  | cons p r ih =>
    unfold mput
    split
    · refine ⟨by simp, fun h => by simp at h⟩
    · refine ⟨by simp; exact ih.1, fun h => ?_⟩
      rw [ih.2 (by simpa using h)]; rfl
theorem placesFrom_len : ∀ (l : List ByteArray) (i : Nat) (es : List (ByteArray × Nat)), (placesFrom l i es).length ≤ es.length + l.length
  | [], _, _ => by simp [placesFrom]
  | s :: r, i, es => by
    have := placesFrom_len r (i + 1) (mput es s i)
    have := (mput_len es s i).1
    simp only [placesFrom, List.length_cons]; omega
theorem placesFrom_all : ∀ (l : List ByteArray) (i : Nat) (es : List (ByteArray × Nat)), (placesFrom l i es).length = es.length + l.length → placesFrom l i es = es ++ l.zipIdx i
  | [], _, _, _ => by simp [placesFrom]
  | s :: r, i, es, h => by
    have h1 := placesFrom_len r (i + 1) (mput es s i)
    have h2 := (mput_len es s i).1
    simp only [placesFrom, List.length_cons] at h ⊢
    have h3 := (mput_len es s i).2 (by omega)
    rw [placesFrom_all r (i + 1) (mput es s i) (by omega), h3]
    simp
theorem placesOf_all {l : List ByteArray} (h : (placesOf l).length = l.length) : placesOf l = l.zipIdx := by
  have := placesFrom_all l 0 [] (by simpa [placesOf] using h)
  simpa [placesOf] using this
theorem placesOf_nd {l : List ByteArray} (h : (placesOf l).length = l.length) : l.Nodup := by
  have := placesOf_nodup l
  rw [placesOf_all h] at this
  have e : (l.zipIdx).map (·.1) = l := by simp
  rwa [e] at this
theorem pget_get {es : List (ByteArray × Nat)} (hn : (es.map (·.1)).Nodup) {j : Nat} {s : ByteArray} {n : Nat} (h : es[j]? = some (s, n)) : pget es s = some n := by
  induction es generalizing j with
  | nil => simp at h
  | cons p r ih =>
    unfold pget
    cases j with
    | zero => simp at h; subst h; simp
    | succ j =>
      have h' : r[j]? = some (s, n) := by simpa using h
      have hm := List.mem_of_getElem? h'
      simp only [List.map_cons, List.nodup_cons] at hn
      rw [if_neg (fun e => hn.1 (List.mem_map.2 ⟨(s, n), hm, e.symm⟩))]
      exact ih hn.2 h'
theorem place_iff {l : List ByteArray} (h : (placesOf l).length = l.length) {s : ByteArray} {k : Nat} : pget (placesOf l) s = some k ↔ l[k]? = some s := by
  have hnd := placesOf_nodup l
  have hall := placesOf_all h
  constructor
  · intro hp
    obtain ⟨j, hj⟩ := pget_some _ _ _ hp
    rw [hall, List.getElem?_zipIdx] at hj
    obtain ⟨x, hx, he⟩ := Option.map_eq_some_iff.1 hj
    simp only [Prod.mk.injEq, Nat.zero_add] at he
    rw [← he.2, hx, he.1]
  · intro hk
    refine pget_get hnd (j := k) ?_
    rw [hall, List.getElem?_zipIdx, hk]; simp
theorem nd_inj {l : List ByteArray} (hn : l.Nodup) {i j : Nat} {s : ByteArray} (h1 : l[i]? = some s) (h2 : l[j]? = some s) : i = j := by
  obtain ⟨g1, e1⟩ := List.getElem?_eq_some_iff.1 h1
  obtain ⟨g2, e2⟩ := List.getElem?_eq_some_iff.1 h2
  rcases Nat.lt_trichotomy i j with h | h | h
  · exact absurd (e1.trans e2.symm) (List.pairwise_iff_getElem.1 hn i j g1 g2 h)
  · exact h
  · exact absurd (e2.trans e1.symm) (List.pairwise_iff_getElem.1 hn j i g2 g1 h)

theorem firstAt_ge {α : Type} (p : α → Bool) : ∀ (l : List α) (i : Int), 0 ≤ i → 0 ≤ firstAt p l i → ∃ k : Nat, firstAt p l i = i + k ∧ ∃ h : k < l.length, p l[k] = true
  | [], _, _, h => by simp [firstAt] at h
  | x :: r, i, h0, h => by
    unfold firstAt at h ⊢
    by_cases hp : p x = true
    · rw [if_pos hp]; exact ⟨0, by simp, by simp, by simpa using hp⟩
    · rw [if_neg hp] at h ⊢
      obtain ⟨k, h1, h2, h3⟩ := firstAt_ge p r (i + 1) (by omega) h
      exact ⟨k + 1, by rw [h1]; omega, by simpa using h2, by simpa using h3⟩
theorem idxOf_ge {names : List ByteArray} {s : ByteArray} (h : 0 ≤ idxOf names s) : ∃ k : Nat, idxOf names s = k ∧ names[k]? = some s := by
  obtain ⟨k, h1, h2, h3⟩ := firstAt_ge (fun y : ByteArray => s.toList == y.toList) names 0 (by omega) h
  refine ⟨k, by unfold idxOf; omega, ?_⟩
  rw [List.getElem?_eq_getElem h2, text_eq (by simpa using h3 : s.toList = names[k].toList)]
theorem idxOf_at {names : List ByteArray} (hn : names.Nodup) {s : ByteArray} {k : Nat} (h : names[k]? = some s) : idxOf names s = k := by
  have h0 : 0 ≤ idxOf names s := by
    have := firstAt_any (fun y : ByteArray => s.toList == y.toList) names 0 (by omega)
    have ha : names.any (fun y : ByteArray => s.toList == y.toList) = true := List.any_eq_true.2 ⟨s, List.mem_of_getElem? h, by simp⟩
    rw [ha] at this
    exact of_decide_eq_true this
  obtain ⟨k', h1, h2⟩ := idxOf_ge h0
  rw [h1, nd_inj hn h2 h]

/-! ### What it takes to be part, to have -/
theorem T.subU_iff : ∀ (la : List T) (na : List ByteArray) (pl : List (ByteArray × Nat)) (lb : List T), la.length = na.length →
    (T.subU la na pl lb = true ↔ ∀ (i : Nat) (h : i < la.length) (h' : i < na.length), ∃ k y, pget pl na[i] = some k ∧ lb[k]? = some y ∧ la[i].sub y = true)
  | [], [], _, _, _ => by rw [T.subU]; simp; simp
  | [], _ :: _, _, _, h => by simp at h
  | _ :: _, [], _, _, h => by simp at h
  | x :: r, n :: ns, pl, lb, h => by
    rw [T.subU, Bool.and_eq_true, T.subU_iff r ns pl lb (by simpa using h)]
    constructor
    · rintro ⟨h1, h2⟩ i hi hi'
      cases i with
      | succ i => exact h2 i (by simpa using hi) (by simpa using hi')
      | zero =>
        simp only [List.getElem_cons_zero]
        cases hp : pget pl n with
        | none => rw [hp] at h1; simp at h1
        | some k =>
          rw [hp] at h1
          cases hl : lb[k]? with
          | none => simp [hl] at h1
          | some y => simp [hl] at h1; exact ⟨k, y, rfl, hl, h1⟩
    · intro h1
      refine ⟨?_, fun i hi hi' => h1 (i + 1) (by simpa using hi) (by simpa using hi')⟩
      obtain ⟨k, y, e1, e2, e3⟩ := h1 0 (by simp) (by simp)
      simp only [List.getElem_cons_zero] at e1 e3
      simp [e1, e2, e3]
theorem T.hasL_iff : ∀ (l : List T) (vl : List V), l.length = vl.length → (T.hasL l vl = true ↔ ∀ (i : Nat) (h : i < l.length) (h' : i < vl.length), l[i].has vl[i] = true)
  | [], [], _ => by rw [T.hasL]; simp; simp
  | [], _ :: _, h => by simp at h
  | _ :: _, [], h => by simp at h
  | x :: r, y :: s, h => by
    rw [T.hasL, Bool.and_eq_true, T.hasL_iff r s (by simpa using h)]
    constructor
    · rintro ⟨h1, h2⟩ i hi hi'
      cases i with
      | succ i => exact h2 i (by simpa using hi) (by simpa using hi')
      | zero => exact h1
    · intro h1
      exact ⟨h1 0 (by simp) (by simp), fun i hi hi' => h1 (i + 1) (by simpa using hi) (by simpa using hi')⟩
theorem T.hasAt_get : ∀ (l : List T) (n : Nat) (v : V), T.hasAt l n v = true ↔ ∃ x, l[n]? = some x ∧ x.has v = true
  | [], n, v => by rw [T.hasAt]; simp
  | x :: r, 0, v => by rw [T.hasAt]; simp
  | x :: r, n + 1, v => by rw [T.hasAt, T.hasAt_get r n v]; simp

/-- How one type is part of another. -/
inductive SubW (ka : Int) (na : List ByteArray) (la : List T) (kb : Int) (nb : List ByteArray) (lb : List T) : Prop
  | any : kb = 1 → SubW ka na la kb nb lb
  | num : ka = 5 → kb = 4 → SubW ka na la kb nb lb
  | union : ka = 11 → kb = 11 → (∀ (i : Nat) n x, na[i]? = some n → la[i]? = some x → ∃ (k : Nat) (y : T), nb[k]? = some n ∧ lb[k]? = some y ∧ x.sub y = true) → SubW ka na la kb nb lb
  | same : ka = kb → ka ≠ 11 → na = nb → la.length = lb.length → (∀ (i : Nat) x y, la[i]? = some x → lb[i]? = some y → x.sub y = true) → SubW ka na la kb nb lb

theorem T.sub_w {ka kb : Int} {na nb : List ByteArray} {la lb : List T} (ha : TInv ka na la) (hb : TInv kb nb lb) : (T.mk ka na la).sub (T.mk kb nb lb) = true ↔ SubW ka na la kb nb lb := by
  have hS : (T.mk ka na la).sub (T.mk kb nb lb) = if ((kb == 1) || ((ka == 5) && (kb == 4))) = true then true
    else if (ka != kb) = true then false
    else if (ka == 11) = true then T.subU la na (placesOf nb) lb
    else rowsEq strEq na nb && T.subR la lb := by rw [T.sub]; rfl
  rw [hS]
  by_cases h1 : ((kb == 1) || ((ka == 5) && (kb == 4))) = true
  · rw [if_pos h1]
    simp only [true_iff]
    rcases Bool.or_eq_true_iff.1 h1 with h | h
    · exact .any (by simpa using h)
    · simp only [Bool.and_eq_true, beq_iff_eq] at h; exact .num h.1 h.2
  · rw [if_neg h1]
    have h1' : kb ≠ 1 ∧ (ka = 5 → kb ≠ 4) := by
      refine ⟨fun e => h1 (by rw [e]; rfl), fun e1 e2 => h1 (by rw [e1, e2]; rfl)⟩
    by_cases h2 : (ka != kb) = true
    · rw [if_pos h2]
      have hne : ka ≠ kb := by simpa using h2
      refine ⟨fun h => by simp at h, fun h => ?_⟩
      cases h with
      | any h => exact absurd h h1'.1
      | num e1 e2 => exact absurd e2 (h1'.2 e1)
      | union e1 e2 _ => exact absurd (e1.trans e2.symm) hne
      | same e _ _ _ _ => exact absurd e hne
    · rw [if_neg h2]
      have he : ka = kb := by simpa using h2
      by_cases h3 : (ka == 11) = true
      · rw [if_pos h3]
        have h11 : ka = 11 := by simpa using h3
        have h11b : kb = 11 := by omega
        have hla := ha.same (.inr h11)
        have hpl := hb.some (.inr h11b)
        rw [T.subU_iff la na (placesOf nb) lb hla.symm]
        constructor
        · intro h
          refine .union h11 h11b fun i n x hn hx => ?_
          obtain ⟨g1, e1⟩ := List.getElem?_eq_some_iff.1 hn
          obtain ⟨g2, e2⟩ := List.getElem?_eq_some_iff.1 hx
          obtain ⟨k, y, r1, r2, r3⟩ := h i g2 g1
          rw [e1] at r1
          rw [e2] at r3
          exact ⟨k, y, (place_iff hpl).1 r1, r2, r3⟩
        · intro h i hi hi'
          cases h with
          | any h => exact absurd h h1'.1
          | num e1 e2 => exact absurd e2 (h1'.2 e1)
          | same _ h _ _ _ => exact absurd h11 h
          | union _ _ h =>
            obtain ⟨k, y, r1, r2, r3⟩ := h i na[i] la[i] (List.getElem?_eq_getElem hi') (List.getElem?_eq_getElem hi)
            exact ⟨k, y, (place_iff hpl).2 r1, r2, r3⟩
      · rw [if_neg h3, T.subR_eq, Bool.and_eq_true, rowsEq_str, rowsEq_iff]
        have h11 : ka ≠ 11 := by simpa using h3
        constructor
        · rintro ⟨r1, r2, r3⟩
          refine .same he h11 r1 r2 fun i x y hx hy => ?_
          obtain ⟨g1, e1⟩ := List.getElem?_eq_some_iff.1 hx
          obtain ⟨g2, e2⟩ := List.getElem?_eq_some_iff.1 hy
          have := r3 i g1 g2
          rwa [e1, e2] at this
        · intro h
          cases h with
          | any h => exact absurd h h1'.1
          | num e1 e2 => exact absurd e2 (h1'.2 e1)
          | union h _ _ => exact absurd h h11
          | same _ _ r1 r2 r3 => exact ⟨r1, r2, fun i h h' => r3 i _ _ (List.getElem?_eq_getElem h) (List.getElem?_eq_getElem h')⟩

/-- How a type has a value. -/
inductive HasW (kind : Int) (names : List ByteArray) (list : List T) (vk exp : Int) (text : ByteArray) (vnames : List ByteArray) (vlist : List V) : Prop
  | any : kind = 1 → HasW kind names list vk exp text vnames vlist
  | list : kind = 9 → vk = 7 → (∀ x t, x ∈ vlist → t ∈ list → t.has x = true) → HasW kind names list vk exp text vnames vlist
  | record : kind = 10 → vk = 8 → vnames = names → vlist.length = list.length → (∀ (i : Nat) t x, list[i]? = some t → vlist[i]? = some x → t.has x = true) → HasW kind names list vk exp text vnames vlist
  | union (k : Nat) (t : T) (x : V) : kind = 11 → vk = 9 → names[k]? = some text → list[k]? = some t → vlist = [x] → t.has x = true → HasW kind names list vk exp text vnames vlist
  | leaf : 2 ≤ kind → kind ≤ 8 → vk = kindOf kind → (kind = 5 → 0 ≤ exp) → HasW kind names list vk exp text vnames vlist

theorem T.has_w {kind vk exp bits : Int} {flag neg : Bool} {digits text : ByteArray} {names vnames : List ByteArray} {list : List T} {vlist : List V} (ht : TInv kind names list) (hv : VInv vk vnames vlist) :
    (T.mk kind names list).has (V.mk vk flag neg digits exp bits text vnames vlist) = true ↔ HasW kind names list vk exp text vnames vlist := by
  have hS : (T.mk kind names list).has (V.mk vk flag neg digits exp bits text vnames vlist) = if (kind == 1) = true then true
    else if (kind == 9) = true then (vk == 7) && !(vlist.any fun x => !(T.hasAt list 0 x))
    else if (kind == 10) = true then (if (vk != 8 || !(rowsEq strEq vnames names)) = true then false else T.hasL list vlist)
    else if (kind == 11) = true then ((vk == 9) && decide (idxOf names text ≥ 0)) && headB (fun y => T.hasAt list (idxOf names text).toNat y) vlist
    else (vk == kindOf kind) && ((kind != 5) || decide (exp ≥ 0)) := by rw [T.has]; rfl
  rw [hS]
  by_cases h1 : (kind == 1) = true
  · rw [if_pos h1]; simp only [true_iff]; exact .any (by simpa using h1)
  · rw [if_neg h1]
    have h1' : kind ≠ 1 := by simpa using h1
    by_cases h9 : (kind == 9) = true
    · rw [if_pos h9]
      have h9' : kind = 9 := by simpa using h9
      obtain ⟨t, rfl⟩ : ∃ t, list = [t] := List.length_eq_one_iff.1 (ht.one h9')
      have e : ∀ x : V, T.hasAt [t] 0 x = t.has x := fun x => by rw [T.hasAt]
      simp only [e, Bool.and_eq_true, beq_iff_eq, Bool.not_eq_true', List.any_eq_false, Bool.not_eq_true, Bool.not_eq_false']
      constructor
      · rintro ⟨r1, r2⟩
        refine .list h9' r1 fun x u hx hu => ?_
        rw [List.mem_singleton.1 hu]
        simpa using r2 x hx
      · intro h
        cases h with
        | any h => exact absurd h h1'
        | record h _ _ _ _ => omega
        | union _ _ _ h _ _ _ _ _ => omega
        | leaf _ h _ _ => omega
        | list _ r1 r2 => exact ⟨r1, fun x hx => by simpa using r2 x t hx (by simp)⟩
    · rw [if_neg h9]
      have h9' : kind ≠ 9 := by simpa using h9
      by_cases h10 : (kind == 10) = true
      · rw [if_pos h10]
        have h10' : kind = 10 := by simpa using h10
        constructor
        · intro h
          split at h
          · simp at h
          · rename_i hc
            have hc' := Bool.or_eq_false_iff.1 (Bool.not_eq_true _ ▸ hc)
            have r1 : vk = 8 := by simpa using hc'.1
            have r2 : vnames = names := (rowsEq_str _ _).1 (by simpa using hc'.2)
            have r3 : vlist.length = list.length := by rw [← hv.same r1, ← ht.same (.inl h10'), r2]
            refine .record h10' r1 r2 r3 fun i t x hi hx => ?_
            obtain ⟨g1, e1⟩ := List.getElem?_eq_some_iff.1 hi
            obtain ⟨g2, e2⟩ := List.getElem?_eq_some_iff.1 hx
            have := (T.hasL_iff list vlist r3.symm).1 h i g1 g2
            rwa [e1, e2] at this
        · intro h
          cases h with
          | any h => exact absurd h h1'
          | list h _ _ => omega
          | union _ _ _ h _ _ _ _ _ => omega
          | leaf _ h _ _ => omega
          | record _ r1 r2 r3 r4 =>
            rw [if_neg (by rw [r1, (rowsEq_str vnames names).2 r2]; simp), T.hasL_iff list vlist r3.symm]
            exact fun i h h' => r4 i _ _ (List.getElem?_eq_getElem h) (List.getElem?_eq_getElem h')
      · rw [if_neg h10]
        have h10' : kind ≠ 10 := by simpa using h10
        by_cases h11 : (kind == 11) = true
        · rw [if_pos h11]
          have h11' : kind = 11 := by simpa using h11
          have hnd := placesOf_nd (ht.some (.inr h11'))
          simp only [Bool.and_eq_true, beq_iff_eq, decide_eq_true_eq]
          constructor
          · rintro ⟨⟨r1, r2⟩, r3⟩
            obtain ⟨x, rfl⟩ : ∃ x, vlist = [x] := List.length_eq_one_iff.1 (hv.one r1)
            obtain ⟨k, e1, e2⟩ := idxOf_ge r2
            simp only [headB] at r3
            rw [e1, T.hasAt_get] at r3
            obtain ⟨t, g1, g2⟩ := r3
            exact .union k t x h11' r1 e2 (by simpa using g1) rfl g2
          · intro h
            cases h with
            | any h => exact absurd h h1'
            | list h _ _ => omega
            | record h _ _ _ _ => omega
            | leaf _ h _ _ => omega
            | union k t x _ r1 r2 r3 r4 r5 =>
              have e := idxOf_at hnd r2
              refine ⟨⟨r1, by omega⟩, ?_⟩
              rw [r4, e]
              simp only [headB]
              rw [T.hasAt_get]
              exact ⟨t, by simpa using r3, r5⟩
        · rw [if_neg h11]
          have h11' : kind ≠ 11 := by simpa using h11
          have hl := ht.leaf (by omega)
          simp only [Bool.and_eq_true, Bool.or_eq_true, beq_iff_eq, bne_iff_ne, decide_eq_true_eq]
          constructor
          · rintro ⟨r1, r2⟩
            exact .leaf (by omega) hl.2.2.2 r1 (fun e => by rcases r2 with r2 | r2; exact absurd e r2; exact r2)
          · intro h
            cases h with
            | any h => exact absurd h h1'
            | list h _ _ => omega
            | record h _ _ _ _ => omega
            | union _ _ _ h _ _ _ _ _ => omega
            | leaf _ _ r1 r2 =>
              refine ⟨r1, ?_⟩
              by_cases h5 : kind = 5
              · exact .inr (r2 h5)
              · exact .inl h5

/-- What is part of a type has no other values. -/
theorem T.sub_has (a : T) : ∀ (b : T) (v : V), a.formed = true → b.formed = true → v.formed = true → a.sub b = true → a.has v = true → b.has v = true := by
  revert a
  apply T.ind
  intro ka na la ih b v ha hb hv hs hh
  obtain ⟨kb, nb, lb⟩ := b
  obtain ⟨vk, flag, neg, digits, exp, bits, text, vnames, vlist⟩ := v
  have ia := T.inv ha
  have ib := T.inv hb
  have iv := V.inv hv
  rw [T.has_w ib iv]
  rw [T.has_w ia iv] at hh
  rw [T.sub_w ia ib] at hs
  cases hs with
  | any h => exact .any h
  | num h1 h2 =>
    cases hh with
    | leaf _ _ r1 r2 => exact .leaf (by omega) (by omega) (by rw [r1, h1, h2]; rfl) (fun e => by omega)
    | any h => omega
    | list h _ _ => omega
    | record h _ _ _ _ => omega
    | union _ _ _ h _ _ _ _ _ => omega
  | union h1 h2 h3 =>
    cases hh with
    | leaf _ h _ _ => omega
    | any h => omega
    | list h _ _ => omega
    | record h _ _ _ _ => omega
    | union k t x _ r1 r2 r3 r4 r5 =>
      obtain ⟨k', y, e1, e2, e3⟩ := h3 k text t r2 r3
      refine .union k' y x h2 r1 e1 e2 r4 ?_
      exact ih t (List.mem_of_getElem? r3) y x (ia.all t (List.mem_of_getElem? r3)) (ib.all y (List.mem_of_getElem? e2)) (iv.all x (by rw [r4]; simp)) e3 r5
  | same h1 h2 h3 h4 h5 =>
    cases hh with
    | leaf r0 r0' r1 r2 => exact .leaf (by omega) (by omega) (by rw [r1, h1]) (fun e => r2 (by omega))
    | any h => exact .any (by omega)
    | union _ _ _ h _ _ _ _ _ => exact absurd h h2
    | list h r1 r2 =>
      refine .list (by omega) r1 fun x u hx hu => ?_
      obtain ⟨t, rfl⟩ : ∃ t, la = [t] := List.length_eq_one_iff.1 (ia.one h)
      obtain ⟨y, rfl⟩ : ∃ y, lb = [y] := List.length_eq_one_iff.1 (ib.one (by omega))
      rw [List.mem_singleton.1 hu]
      exact ih t (by simp) y x (ia.all t (by simp)) (ib.all y (by simp)) (iv.all x hx) (h5 0 t y rfl rfl) (r2 x t hx (by simp))
    | record h r1 r2 r3 r4 =>
      refine .record (by omega) r1 (r2.trans h3) (by omega) fun i y x hy hx => ?_
      have hi : i < la.length := by have := (List.getElem?_eq_some_iff.1 hy).1; omega
      have ht : la[i]? = some la[i] := List.getElem?_eq_getElem hi
      exact ih _ (List.getElem_mem hi) y x (ia.all _ (List.getElem_mem hi)) (ib.all y (List.mem_of_getElem? hy)) (iv.all x (List.mem_of_getElem? hx)) (h5 i _ y ht hy) (r4 i _ x ht hx)
end Go.Proofs.YtdcpnpcmgfmenaaGreatDoor
/-
  Walks: how big types are. Conditions: none.
-/
set_option linter.unusedVariables false
set_option maxRecDepth 100000
namespace Go.Proofs.YtdcpnpcmgfmenaaGreatDoor
open Go Go.Proofs.YtdcpnpcmgfmenaaGreatDoor.Lg

mutual
def T.wide : T → Bool
  | .mk _ names list => decide (1000 < names.length) || T.wides list
def T.wides : List T → Bool
  | [] => false
  | x :: r => x.wide || T.wides r
end
theorem T.wides_any : ∀ l : List T, T.wides l = l.any T.wide
  | [] => rfl
  | x :: r => by rw [T.wides, T.wides_any r]; rfl

theorem wide_pure (t : T) : Pure env 15 [.d t.d] (.d (.v (.bool t.wide))) := by
  revert t
  apply T.ind
  intro kind names list ih
  refine pure_of_body Tryz.func15 rfl rfl rfl fun B hB => ?_
  refine swp_seq ?_
  refine swp_region ?_
  refine sops_go rfl (so_box (cs := [_, _, _]) rfl rfl rfl ?_)
  refine sops_go rfl (st_assign (v := .d _) rfl rfl rfl ?_)
  refine sops_nil ?_
  refine swp_seq ?_
  refine swp_seq ?_
  refine swp_region ?_
  first | refine sops_go rfl (so_fieldAddr (v := .p _ _ _) rfl rfl rfl rfl rfl rfl rfl rfl rfl rfl ?_) | refine sops_go rfl (so_fieldAddr (v := .dp _ _) rfl rfl rfl rfl rfl rfl rfl rfl rfl rfl ?_) | refine sops_go rfl (so_fieldAddr (v := .pe _ _ _ _ _) rfl rfl rfl rfl rfl rfl rfl rfl rfl rfl ?_)
  first | refine sops_go rfl (so_load (v := .d _) rfl rfl rfl rfl rfl rfl rfl rfl ?_) | refine sops_go rfl (so_load (v := .own _ _ _ _ _) rfl rfl rfl rfl rfl rfl rfl rfl ?_)
  refine sops_go rfl (so_lenSl rfl rfl rfl rfl rfl ?_)
  refine sops_go rfl (st_bin rfl rfl rfl rfl rfl ?_)
  refine sops_nil ?_
  -- cond
  refine swp_cond _ rfl (fun hc => ?_) (fun hc => ?_)
  · refine swp_seq ?_
    refine swp_region ?_
    refine sops_go rfl (st_assign (v := .d _) rfl rfl rfl ?_)
    refine sops_nil ?_
    refine swp_ret ?_
    with_reducible refine after_ret ?_
    -- ret
    refine ⟨.inl rfl, .inl ⟨2, rfl, ?_⟩⟩
    have e : (T.mk kind names list).wide = true := by
      have := of_decide_eq_true hc
      rw [strRows_len] at this
      simp [T.wide]; omega
    rw [e]; exact ra_d (keeps_v _)
  · refine swp_skip ?_
    refine swp_seq ?_
    refine swp_seq ?_
    refine swp_region ?_
    refine sops_go rfl (st_assign (v := .d _) rfl rfl rfl ?_)
    refine sops_nil ?_
    refine swp_block ?_
    -- loop
    have hn : (names.length : Int) ≤ 1000 := by
      have := of_decide_eq_false hc
      rw [strRows_len] at this; omega
    have hw : (T.mk kind names list).wide = list.any T.wide := by
      have : ¬ 1000 < names.length := by omega
      simp [T.wide, T.wides_any, this]
    refine swp_len (l := 0) (i := 2) rfl rfl rfl fun hlen => ?_
    rw [T.rows_len] at hlen
    refine swp_loopF (F := fun k : Nat => { t := upd (upd (fun _ => .any) 1 (.p 0 0 0)) 3 (.d (.v (.int .i64 k))), n := 21, h := upd (fun _ => .dead) 0 (.cells [.any, .any, .d (.sl true (T.rows list))]), nx := 1 })
      (fun k => k ≤ list.length ∧ (list.take k).any T.wide = false) (fun k => list.length - k) 0 ⟨Nat.zero_le _, rfl⟩ ?_ ?_
    · refine wk_of rfl (Nat.le_of_ble_eq_true rfl) (by rw [hB]; exact Nat.zero_le _) (tle_upd (le_eq rfl rfl) (tle_upd (le_eq rfl rfl) (tle_any _))) (hle_upd (.cells _ _ ⟨le_any _, le_any _, le_eq rfl rfl, trivial⟩) (hle_dead _)) (dead_upd (Nat.le_of_ble_eq_true rfl) (dead_none))
    rintro k ⟨hk, ha⟩
    refine swp_seq ?_
    refine swp_seq ?_
    refine swp_region ?_
    refine sops_go rfl (st_move (v := .d _) rfl rfl rfl ?_)
    first | refine sops_go rfl (so_fieldAddr (v := .p _ _ _) rfl rfl rfl rfl rfl rfl rfl rfl rfl rfl ?_) | refine sops_go rfl (so_fieldAddr (v := .dp _ _) rfl rfl rfl rfl rfl rfl rfl rfl rfl rfl ?_) | refine sops_go rfl (so_fieldAddr (v := .pe _ _ _ _ _) rfl rfl rfl rfl rfl rfl rfl rfl rfl rfl ?_)
    first | refine sops_go rfl (so_load (v := .d _) rfl rfl rfl rfl rfl rfl rfl rfl ?_) | refine sops_go rfl (so_load (v := .own _ _ _ _ _) rfl rfl rfl rfl rfl rfl rfl rfl ?_)
    refine sops_go rfl (so_lenSl rfl rfl rfl rfl rfl ?_)
    refine sops_go rfl (st_bin rfl rfl rfl rfl rfl ?_)
    refine sops_nil ?_
    -- cond
    refine swp_cond _ rfl (fun hc => ?_) (fun hc => ?_)
    · have hlt : k < list.length := by have := of_decide_eq_true hc; rw [T.rows_len] at this; omega
      refine swp_skip ?_
      refine swp_seq ?_
      refine swp_block ?_
      refine swp_seq ?_
      refine swp_region ?_
      first | refine sops_go rfl (so_fieldAddr (v := .p _ _ _) rfl rfl rfl rfl rfl rfl rfl rfl rfl rfl ?_) | refine sops_go rfl (so_fieldAddr (v := .dp _ _) rfl rfl rfl rfl rfl rfl rfl rfl rfl rfl ?_) | refine sops_go rfl (so_fieldAddr (v := .pe _ _ _ _ _) rfl rfl rfl rfl rfl rfl rfl rfl rfl rfl ?_)
      first | refine sops_go rfl (so_load (v := .d _) rfl rfl rfl rfl rfl rfl rfl rfl ?_) | refine sops_go rfl (so_load (v := .own _ _ _ _ _) rfl rfl rfl rfl rfl rfl rfl rfl ?_)
      refine sops_go rfl (st_move (v := .d _) rfl rfl rfl ?_)
      -- hand: indexAddr 24 t16 t17
      refine sops_go rfl (so_indexSl rfl rfl rfl rfl rfl rfl rfl (T.rows_all _) (by omega) (by rw [T.rows_len]; omega) (T.rows_get _ _ hlt) ?_)
      have ihk := ih _ (List.getElem_mem hlt)
      have hat := any_take T.wide list k hlt
      have hget := any_get T.wide list k hlt
      generalize list[k] = x at ihk hat hget ⊢
      obtain ⟨a1, a2, a3⟩ := x
      first | refine sops_go rfl (so_load (v := .d (.agg [_, _, _])) rfl rfl rfl rfl rfl rfl rfl rfl ?_) | refine sops_go rfl (so_load (v := .agg [_, _, _]) rfl rfl rfl rfl rfl rfl rfl rfl ?_)
      -- hand: CALL f15(t19)
      refine sops_go rfl (st_call rfl rfl (ihk) ⟨na_d _, trivial⟩ rfl ?_)
      refine sops_nil ?_
      -- cond
      refine swp_cond _ rfl (fun hc => ?_) (fun hc => ?_)
      · refine swp_seq ?_
        refine swp_region ?_
        refine sops_go rfl (st_assign (v := .d _) rfl rfl rfl ?_)
        refine sops_nil ?_
        refine swp_ret ?_
        with_reducible refine inblk_ret ?_
        with_reducible refine after_ret ?_
        with_reducible refine after_ret ?_
        with_reducible refine inblk_ret ?_
        with_reducible refine after_ret ?_
        -- ret
        refine ⟨.inl rfl, .inl ⟨2, rfl, ?_⟩⟩
        rw [hw, hget hc]
        exact ra_d (keeps_v _)
      · refine swp_skip ?_
        refine swp_region ?_
        refine sops_go rfl (st_move (v := .d _) rfl rfl rfl ?_)
        refine sops_go rfl (st_bin rfl rfl rfl rfl rfl ?_)
        refine sops_go rfl (st_assign (v := .d _) rfl rfl rfl ?_)
        refine sops_nil ?_
        -- loopend
        refine ⟨k + 1, ⟨hlt, by rw [hat, ha, hc]; rfl⟩, by omega, ?_⟩
        refine wk_of rfl (Nat.le_of_ble_eq_true rfl) (by rw [hB]; exact Nat.zero_le _) (tle_upd (le_eq (next_i64 hlt hlen) rfl) (tle_upd (le_eq rfl rfl) (tle_any _))) (hle_upd (.cells _ _ ⟨le_any _, le_any _, le_eq rfl rfl, trivial⟩) (hle_dead _)) (dead_upd (Nat.le_of_ble_eq_true rfl) (dead_none))
    · refine swp_exit ?_
      with_reducible refine after_exit ?_
      with_reducible refine after_exit ?_
      refine inblk_hit ?_
      refine swp_seq ?_
      refine swp_region ?_
      refine sops_go rfl (st_assign (v := .d _) rfl rfl rfl ?_)
      refine sops_nil ?_
      refine swp_ret ?_
      -- ret
      refine ⟨.inl rfl, .inl ⟨2, rfl, ?_⟩⟩
      have : k = list.length := by have := of_decide_eq_false hc; rw [T.rows_len] at this; omega
      rw [this, List.take_length] at ha
      rw [hw, ha]
      exact ra_d (keeps_v _)
end Go.Proofs.YtdcpnpcmgfmenaaGreatDoor
