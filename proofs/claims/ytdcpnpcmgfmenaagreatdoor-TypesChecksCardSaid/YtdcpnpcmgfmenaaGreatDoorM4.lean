/-
  Texts of the proof, part 4: the logic, walks of functions, plain laws. Conditions: none.
-/
import Derived.Test.YtdcpnpcmgfmenaaGreatDoorM3
import Derived.Laws.BytesString
import Derived.Laws.Cells
import Derived.Lib.ValidLaws
set_option linter.unusedVariables false
set_option linter.unusedSimpArgs false
/-
  Walks: how big types are, as far as the guards ask. Conditions: none.
-/
set_option linter.unusedVariables false
set_option maxRecDepth 100000
namespace Go.Proofs.YtdcpnpcmgfmenaaGreatDoor
open Go Go.Proofs.YtdcpnpcmgfmenaaGreatDoor.Lg

theorem parts_s (t : T) : ∀ n m w : Int, PureS env 14 [.d t.d, .d (.v (.int .i64 n)), .d (.v (.int .i64 m)), .d (.v (.int .i64 w))] isInt := by
  revert t
  apply T.ind
  intro kind names list ih n m w
  refine pureS_of_body Tryz.func14 rfl rfl rfl fun B hB => ?_
  refine swp_seq ?_
  refine swp_region ?_
  refine sops_go rfl (so_box (cs := [_, _, _]) rfl rfl rfl ?_)
  refine sops_go rfl (st_assign (v := .d _) rfl rfl rfl ?_)
  refine sops_nil ?_
  refine swp_seq ?_
  refine swp_seq ?_
  refine swp_region ?_
  refine sops_go rfl (st_move (v := .d _) rfl rfl rfl ?_)
  refine sops_go rfl (st_bin rfl rfl rfl rfl rfl ?_)
  refine sops_nil ?_
  -- cond
  refine swp_cond _ rfl (fun hc => ?_) (fun hc => ?_)
  · refine swp_seq ?_
    refine swp_region ?_
    refine sops_go rfl (st_move (v := .d _) rfl rfl rfl ?_)
    refine sops_go rfl (st_bin rfl rfl rfl rfl rfl ?_)
    refine sops_go rfl (st_assign (v := .d _) rfl rfl rfl ?_)
    refine sops_nil ?_
    refine swp_ret ?_
    with_reducible refine after_ret ?_
    -- ret
    exact ⟨.inl rfl, _, ⟨_, rfl⟩, .inl ⟨8, rfl, ra_d (keeps_v _)⟩⟩
  · refine swp_skip ?_
    refine swp_seq ?_
    refine swp_region ?_
    refine sops_go rfl (st_move (v := .d _) rfl rfl rfl ?_)
    refine sops_go rfl (st_bin rfl rfl rfl rfl rfl ?_)
    first | refine sops_go rfl (so_fieldAddr (v := .p _ _ _) rfl rfl rfl rfl rfl rfl rfl rfl rfl rfl ?_) | refine sops_go rfl (so_fieldAddr (v := .dp _ _) rfl rfl rfl rfl rfl rfl rfl rfl rfl rfl ?_) | refine sops_go rfl (so_fieldAddr (v := .pe _ _ _ _ _) rfl rfl rfl rfl rfl rfl rfl rfl rfl rfl ?_)
    first | refine sops_go rfl (so_load (v := .d _) rfl rfl rfl rfl rfl rfl rfl rfl ?_) | refine sops_go rfl (so_load (v := .own _ _ _ _ _) rfl rfl rfl rfl rfl rfl rfl rfl ?_)
    refine sops_go rfl (so_lenSl rfl rfl rfl rfl rfl ?_)
    refine sops_go rfl (st_bin rfl rfl rfl rfl rfl ?_)
    refine sops_go rfl (st_assign (v := .d _) rfl rfl rfl ?_)
    refine sops_nil ?_
    -- stop
    refine swp_len (l := 0) (i := 1) rfl rfl rfl fun hn => ?_
    refine swp_len (l := 0) (i := 2) rfl rfl rfl fun hlen => ?_
    rw [strRows_len] at hn
    rw [T.rows_len] at hlen
    let F0 : Int → St := fun n => { t := upd (upd (upd (upd (fun _ => .any) 4 (.p 0 0 0)) 3 (.d (.v (.int .i64 w)))) 2 (.d (.v (.int .i64 m)))) 1 (.d (.v (.int .i64 n))), n := 64, h := upd (fun _ => .dead) 0 (.cells [.any, .d (.sl true (strRows names)), .d (.sl true (T.rows list))]), nx := 1 }
    refine swp_seqF (F := F0) (P := fun _ => True) ?_ ?_
    · refine swp_seq ?_
      refine swp_region ?_
      refine sops_go rfl (st_assign (v := .d _) rfl rfl rfl ?_)
      refine sops_nil ?_
      refine swp_block ?_
      -- loop
      let F1 : Nat × Int → St := fun p => { F0 p.2 with t := upd (F0 p.2).t 9 (.d (.v (.int .i64 p.1))) }
      refine swp_loopF (F := F1) (fun p => p.1 ≤ names.length) (fun p => names.length - p.1) (0, IntKind.i64.wrap (IntKind.i64.wrap (n + 1) + ((strRows names).length : Int))) (Nat.zero_le _) ?_ ?_
      · refine wk_of rfl (Nat.le_of_ble_eq_true rfl) (by rw [hB]; exact Nat.zero_le _) (tle_upd (le_eq rfl rfl) (tle_upd (le_eq rfl rfl) (tle_upd (le_eq rfl rfl) (tle_upd (le_eq rfl rfl) (tle_upd (le_eq rfl rfl) (tle_any _)))))) (hle_upd (.cells _ _ ⟨le_any _, le_eq rfl rfl, le_eq rfl rfl, trivial⟩) (hle_dead _)) (dead_upd (Nat.le_of_ble_eq_true rfl) (dead_none))
      rintro ⟨k, n1⟩ hk
      simp only at hk
      refine swp_seq ?_
      refine swp_seq ?_
      refine swp_region ?_
      refine sops_go rfl (st_move (v := .d _) rfl rfl rfl ?_)
      first | refine sops_go rfl (so_fieldAddr (v := .p _ _ _) rfl rfl rfl rfl rfl rfl rfl rfl rfl rfl ?_) | refine sops_go rfl (so_fieldAddr (v := .dp _ _) rfl rfl rfl rfl rfl rfl rfl rfl rfl rfl ?_) | refine sops_go rfl (so_fieldAddr (v := .pe _ _ _ _ _) rfl rfl rfl rfl rfl rfl rfl rfl rfl rfl ?_)
      first | refine sops_go rfl (so_load (v := .d _) rfl rfl rfl rfl rfl rfl rfl rfl ?_) | refine sops_go rfl (so_load (v := .own _ _ _ _ _) rfl rfl rfl rfl rfl rfl rfl rfl ?_)
      refine sops_go rfl (so_lenSl rfl rfl rfl rfl rfl ?_)
      refine sops_go rfl (st_bin rfl rfl rfl rfl rfl ?_)
      refine sops_go rfl (st_move (v := .d _) rfl rfl rfl ?_)
      -- guard (some (5, true))
      refine sops_case 26 rfl (fun hb26 => ?_) (fun hb26 => ?_)
      · have hlt : k < names.length := by have := of_decide_eq_true hb26; rw [strRows_len] at this; omega
        first | refine sops_yes rfl rfl rfl rfl (st_move (v := .d _) rfl rfl rfl ?_) | first | refine sops_no rfl rfl rfl rfl rfl ?_ | refine sops_un rfl rfl rfl rfl rfl ?_
        first | refine sops_yes rfl rfl rfl rfl (st_move (v := .d _) rfl rfl rfl ?_) | first | refine sops_no rfl rfl rfl rfl rfl ?_ | refine sops_un rfl rfl rfl rfl rfl ?_
        first | refine sops_yes rfl rfl rfl rfl (st_bin rfl rfl rfl rfl rfl ?_) | first | refine sops_no rfl rfl rfl rfl rfl ?_ | refine sops_un rfl rfl rfl rfl rfl ?_
        refine sops_go rfl (st_pick (v := .d _) rfl rfl rfl rfl ?_)
        refine sops_nil ?_
        -- cond
        refine swp_cond _ rfl (fun hc => ?_) (fun hc => ?_)
        · refine swp_skip ?_
          refine swp_seq ?_
          refine swp_block ?_
          refine swp_region ?_
          refine sops_go rfl (st_move (v := .d _) rfl rfl rfl ?_)
          first | refine sops_go rfl (so_fieldAddr (v := .p _ _ _) rfl rfl rfl rfl rfl rfl rfl rfl rfl rfl ?_) | refine sops_go rfl (so_fieldAddr (v := .dp _ _) rfl rfl rfl rfl rfl rfl rfl rfl rfl rfl ?_) | refine sops_go rfl (so_fieldAddr (v := .pe _ _ _ _ _) rfl rfl rfl rfl rfl rfl rfl rfl rfl rfl ?_)
          first | refine sops_go rfl (so_load (v := .d _) rfl rfl rfl rfl rfl rfl rfl rfl ?_) | refine sops_go rfl (so_load (v := .own _ _ _ _ _) rfl rfl rfl rfl rfl rfl rfl rfl ?_)
          refine sops_go rfl (st_move (v := .d _) rfl rfl rfl ?_)
          -- hand: indexAddr 23 t35 t36
          refine sops_go rfl (so_indexSl rfl rfl rfl rfl rfl rfl rfl (strRows_all _) (by omega) (by rw [strRows_len]; omega) (strRows_get _ _ hlt) ?_)
          refine sops_go rfl (so_load (v := .d _) rfl rfl rfl rfl rfl rfl rfl rfl ?_)
          refine sops_go rfl (so_lenStr rfl rfl rfl rfl rfl ?_)
          refine sops_go rfl (st_bin rfl rfl rfl rfl rfl ?_)
          refine sops_go rfl (st_assign (v := .d _) rfl rfl rfl ?_)
          refine sops_nil ?_
          refine swp_region ?_
          refine sops_go rfl (st_move (v := .d _) rfl rfl rfl ?_)
          refine sops_go rfl (st_bin rfl rfl rfl rfl rfl ?_)
          refine sops_go rfl (st_assign (v := .d _) rfl rfl rfl ?_)
          refine sops_nil ?_
          -- loopend
          refine ⟨(k + 1, IntKind.i64.wrap (n1 + ((names[k]).size : Int))), hlt, by simp only; omega, ?_⟩
          refine wk_of rfl (Nat.le_of_ble_eq_true rfl) (by rw [hB]; exact Nat.zero_le _) (tle_upd (le_eq (next_i64 hlt hn) rfl) (tle_upd (le_eq rfl rfl) (tle_upd (le_eq rfl rfl) (tle_upd (le_eq rfl rfl) (tle_upd (le_eq rfl rfl) (tle_any _)))))) (hle_upd (.cells _ _ ⟨le_any _, le_eq rfl rfl, le_eq rfl rfl, trivial⟩) (hle_dead _)) (dead_upd (Nat.le_of_ble_eq_true rfl) (dead_none))
        · refine swp_exit ?_
          with_reducible refine after_exit ?_
          with_reducible refine after_exit ?_
          refine inblk_hit ?_
          -- cut
          refine ⟨n1, trivial, ?_⟩
          refine wk_of rfl (Nat.le_of_ble_eq_true rfl) (by rw [hB]; exact Nat.zero_le _) (tle_upd (le_eq rfl rfl) (tle_upd (le_eq rfl rfl) (tle_upd (le_eq rfl rfl) (tle_upd (le_eq rfl rfl) (tle_any _))))) (hle_upd (.cells _ _ ⟨le_any _, le_eq rfl rfl, le_eq rfl rfl, trivial⟩) (hle_dead _)) (dead_upd (Nat.le_of_ble_eq_true rfl) (dead_none))
      · first | refine sops_yes rfl rfl rfl rfl (st_move (v := .d _) rfl rfl rfl ?_) | first | refine sops_no rfl rfl rfl rfl rfl ?_ | refine sops_un rfl rfl rfl rfl rfl ?_
        first | refine sops_yes rfl rfl rfl rfl (st_move (v := .d _) rfl rfl rfl ?_) | first | refine sops_no rfl rfl rfl rfl rfl ?_ | refine sops_un rfl rfl rfl rfl rfl ?_
        first | refine sops_yes rfl rfl rfl rfl (st_bin rfl rfl rfl rfl rfl ?_) | first | refine sops_no rfl rfl rfl rfl rfl ?_ | refine sops_un rfl rfl rfl rfl rfl ?_
        refine sops_go rfl (st_pick (v := .d _) rfl rfl rfl rfl ?_)
        refine sops_nil ?_
        -- cond
        refine swp_condF rfl ?_
        refine swp_exit ?_
        with_reducible refine after_exit ?_
        with_reducible refine after_exit ?_
        refine inblk_hit ?_
        -- cut
        refine ⟨n1, trivial, ?_⟩
        refine wk_of rfl (Nat.le_of_ble_eq_true rfl) (by rw [hB]; exact Nat.zero_le _) (tle_upd (le_eq rfl rfl) (tle_upd (le_eq rfl rfl) (tle_upd (le_eq rfl rfl) (tle_upd (le_eq rfl rfl) (tle_any _))))) (hle_upd (.cells _ _ ⟨le_any _, le_eq rfl rfl, le_eq rfl rfl, trivial⟩) (hle_dead _)) (dead_upd (Nat.le_of_ble_eq_true rfl) (dead_none))
    rintro n1 -
    refine swp_seq ?_
    refine swp_seq ?_
    refine swp_region ?_
    refine sops_go rfl (st_assign (v := .d _) rfl rfl rfl ?_)
    refine sops_nil ?_
    refine swp_block ?_
    -- loop
    let F2 : Nat × Int → St := fun p => { F0 p.2 with t := upd (F0 p.2).t 10 (.d (.v (.int .i64 p.1))) }
    refine swp_loopF (F := F2) (fun p => p.1 ≤ list.length) (fun p => list.length - p.1) (0, n1) (Nat.zero_le _) ?_ ?_
    · refine wk_of rfl (Nat.le_of_ble_eq_true rfl) (by rw [hB]; exact Nat.zero_le _) (tle_upd (le_eq rfl rfl) (tle_upd (le_eq rfl rfl) (tle_upd (le_eq rfl rfl) (tle_upd (le_eq rfl rfl) (tle_upd (le_eq rfl rfl) (tle_any _)))))) (hle_upd (.cells _ _ ⟨le_any _, le_eq rfl rfl, le_eq rfl rfl, trivial⟩) (hle_dead _)) (dead_upd (Nat.le_of_ble_eq_true rfl) (dead_none))
    rintro ⟨k, n2⟩ hk
    simp only at hk
    refine swp_seq ?_
    refine swp_seq ?_
    refine swp_region ?_
    refine sops_go rfl (st_move (v := .d _) rfl rfl rfl ?_)
    first | refine sops_go rfl (so_fieldAddr (v := .p _ _ _) rfl rfl rfl rfl rfl rfl rfl rfl rfl rfl ?_) | refine sops_go rfl (so_fieldAddr (v := .dp _ _) rfl rfl rfl rfl rfl rfl rfl rfl rfl rfl ?_) | refine sops_go rfl (so_fieldAddr (v := .pe _ _ _ _ _) rfl rfl rfl rfl rfl rfl rfl rfl rfl rfl ?_)
    first | refine sops_go rfl (so_load (v := .d _) rfl rfl rfl rfl rfl rfl rfl rfl ?_) | refine sops_go rfl (so_load (v := .own _ _ _ _ _) rfl rfl rfl rfl rfl rfl rfl rfl ?_)
    refine sops_go rfl (so_lenSl rfl rfl rfl rfl rfl ?_)
    refine sops_go rfl (st_bin rfl rfl rfl rfl rfl ?_)
    refine sops_go rfl (st_move (v := .d _) rfl rfl rfl ?_)
    -- guard (some (5, true))
    refine sops_case 46 rfl (fun hb46 => ?_) (fun hb46 => ?_)
    · have hlt : k < list.length := by have := of_decide_eq_true hb46; rw [T.rows_len] at this; omega
      first | refine sops_yes rfl rfl rfl rfl (st_move (v := .d _) rfl rfl rfl ?_) | first | refine sops_no rfl rfl rfl rfl rfl ?_ | refine sops_un rfl rfl rfl rfl rfl ?_
      first | refine sops_yes rfl rfl rfl rfl (st_move (v := .d _) rfl rfl rfl ?_) | first | refine sops_no rfl rfl rfl rfl rfl ?_ | refine sops_un rfl rfl rfl rfl rfl ?_
      first | refine sops_yes rfl rfl rfl rfl (st_bin rfl rfl rfl rfl rfl ?_) | first | refine sops_no rfl rfl rfl rfl rfl ?_ | refine sops_un rfl rfl rfl rfl rfl ?_
      refine sops_go rfl (st_pick (v := .d _) rfl rfl rfl rfl ?_)
      refine sops_nil ?_
      -- cond
      refine swp_cond _ rfl (fun hc => ?_) (fun hc => ?_)
      · refine swp_skip ?_
        refine swp_seq ?_
        refine swp_block ?_
        refine swp_region ?_
        first | refine sops_go rfl (so_fieldAddr (v := .p _ _ _) rfl rfl rfl rfl rfl rfl rfl rfl rfl rfl ?_) | refine sops_go rfl (so_fieldAddr (v := .dp _ _) rfl rfl rfl rfl rfl rfl rfl rfl rfl rfl ?_) | refine sops_go rfl (so_fieldAddr (v := .pe _ _ _ _ _) rfl rfl rfl rfl rfl rfl rfl rfl rfl rfl ?_)
        first | refine sops_go rfl (so_load (v := .d _) rfl rfl rfl rfl rfl rfl rfl rfl ?_) | refine sops_go rfl (so_load (v := .own _ _ _ _ _) rfl rfl rfl rfl rfl rfl rfl rfl ?_)
        refine sops_go rfl (st_move (v := .d _) rfl rfl rfl ?_)
        -- hand: indexAddr 24 t54 t55
        refine sops_go rfl (so_indexSl rfl rfl rfl rfl rfl rfl rfl (T.rows_all _) (by omega) (by rw [T.rows_len]; omega) (T.rows_get _ _ hlt) ?_)
        have ihk := ih _ (List.getElem_mem hlt)
        generalize list[k] = x at ihk ⊢
        obtain ⟨a1, a2, a3⟩ := x
        first | refine sops_go rfl (so_load (v := .d (.agg [_, _, _])) rfl rfl rfl rfl rfl rfl rfl rfl ?_) | refine sops_go rfl (so_load (v := .agg [_, _, _]) rfl rfl rfl rfl rfl rfl rfl rfl ?_)
        refine sops_go rfl (st_move (v := .d _) rfl rfl rfl ?_)
        refine sops_go rfl (st_move (v := .d _) rfl rfl rfl ?_)
        refine sops_go rfl (st_move (v := .d _) rfl rfl rfl ?_)
        refine sops_go rfl (st_bin rfl rfl rfl rfl rfl ?_)
        -- hand: CALL f14(t57, t58, t59, t61)
        refine sops_go rfl (st_callS rfl rfl (ihk _ _ _) ⟨na_d _, na_d _, na_d _, na_d _, trivial⟩ rfl fun r hr => ?_)
        obtain ⟨v, rfl⟩ := hr
        refine sops_go rfl (st_assign (v := .d _) rfl rfl rfl ?_)
        refine sops_nil ?_
        refine swp_region ?_
        refine sops_go rfl (st_move (v := .d _) rfl rfl rfl ?_)
        refine sops_go rfl (st_bin rfl rfl rfl rfl rfl ?_)
        refine sops_go rfl (st_assign (v := .d _) rfl rfl rfl ?_)
        refine sops_nil ?_
        -- loopend
        refine ⟨(k + 1, v), hlt, by simp only; omega, ?_⟩
        refine wk_of rfl (Nat.le_of_ble_eq_true rfl) (by rw [hB]; exact Nat.zero_le _) (tle_upd (le_eq (next_i64 hlt hlen) rfl) (tle_upd (le_eq rfl rfl) (tle_upd (le_eq rfl rfl) (tle_upd (le_eq rfl rfl) (tle_upd (le_eq rfl rfl) (tle_any _)))))) (hle_upd (.cells _ _ ⟨le_any _, le_eq rfl rfl, le_eq rfl rfl, trivial⟩) (hle_dead _)) (dead_upd (Nat.le_of_ble_eq_true rfl) (dead_none))
      · refine swp_exit ?_
        with_reducible refine after_exit ?_
        with_reducible refine after_exit ?_
        refine inblk_hit ?_
        refine swp_seq ?_
        refine swp_region ?_
        refine sops_go rfl (st_move (v := .d _) rfl rfl rfl ?_)
        refine sops_go rfl (st_assign (v := .d _) rfl rfl rfl ?_)
        refine sops_nil ?_
        refine swp_ret ?_
        -- ret
        exact ⟨.inl rfl, _, ⟨_, rfl⟩, .inl ⟨8, rfl, ra_d (keeps_v _)⟩⟩
    · first | refine sops_yes rfl rfl rfl rfl (st_move (v := .d _) rfl rfl rfl ?_) | first | refine sops_no rfl rfl rfl rfl rfl ?_ | refine sops_un rfl rfl rfl rfl rfl ?_
      first | refine sops_yes rfl rfl rfl rfl (st_move (v := .d _) rfl rfl rfl ?_) | first | refine sops_no rfl rfl rfl rfl rfl ?_ | refine sops_un rfl rfl rfl rfl rfl ?_
      first | refine sops_yes rfl rfl rfl rfl (st_bin rfl rfl rfl rfl rfl ?_) | first | refine sops_no rfl rfl rfl rfl rfl ?_ | refine sops_un rfl rfl rfl rfl rfl ?_
      refine sops_go rfl (st_pick (v := .d _) rfl rfl rfl rfl ?_)
      refine sops_nil ?_
      -- cond
      refine swp_condF rfl ?_
      refine swp_exit ?_
      with_reducible refine after_exit ?_
      with_reducible refine after_exit ?_
      refine inblk_hit ?_
      refine swp_seq ?_
      refine swp_region ?_
      refine sops_go rfl (st_move (v := .d _) rfl rfl rfl ?_)
      refine sops_go rfl (st_assign (v := .d _) rfl rfl rfl ?_)
      refine sops_nil ?_
      refine swp_ret ?_
      -- ret
      exact ⟨.inl rfl, _, ⟨_, rfl⟩, .inl ⟨8, rfl, ra_d (keeps_v _)⟩⟩

theorem bigType_s (t : T) : PureS env 4 [.d t.d] isBool := by
  obtain ⟨kind, names, list⟩ := t
  refine pureS_of_body Tryz.func4 rfl rfl rfl fun B hB => ?_
  refine swp_seq ?_
  refine swp_region ?_
  refine sops_go rfl (so_box (cs := [_, _, _]) rfl rfl rfl ?_)
  refine sops_go rfl (st_assign (v := .d _) rfl rfl rfl ?_)
  refine sops_nil ?_
  refine swp_seq ?_
  refine swp_region ?_
  first | refine sops_go rfl (so_load (v := .d (.agg [_, _, _])) rfl rfl rfl rfl rfl rfl rfl rfl ?_) | refine sops_go rfl (so_load (v := .agg [_, _, _]) rfl rfl rfl rfl rfl rfl rfl rfl ?_)
  -- hand: CALL f14(t3, 0:i64, 32768:i64, 0:i64)
  refine sops_go rfl (st_callS rfl rfl (parts_s (.mk kind names list) _ _ _) ⟨na_d _, na_d _, na_d _, na_d _, trivial⟩ rfl fun r hr => ?_)
  obtain ⟨v, rfl⟩ := hr
  refine sops_go rfl (st_bin rfl rfl rfl rfl rfl ?_)
  refine sops_go rfl (st_move (v := .d _) rfl rfl rfl ?_)
  -- guard (some (3, false))
  refine sops_case 6 rfl (fun hb6 => ?_) (fun hb6 => ?_)
  · first | refine sops_yes rfl rfl rfl rfl (so_load (v := .d (.agg [_, _, _])) rfl rfl rfl rfl rfl rfl rfl rfl ?_) | refine sops_yes rfl rfl rfl rfl (so_load (v := .agg [_, _, _]) rfl rfl rfl rfl rfl rfl rfl rfl ?_) | first | refine sops_no rfl rfl rfl rfl rfl ?_ | refine sops_un rfl rfl rfl rfl rfl ?_
    -- hand: CALL f15(t7)
    first | refine sops_yes rfl rfl rfl rfl (st_call rfl rfl (wide_pure (.mk kind names list)) ⟨na_d _, trivial⟩ rfl ?_) | first | refine sops_no rfl rfl rfl rfl rfl ?_ | refine sops_un rfl rfl rfl rfl rfl ?_
    refine sops_go rfl (st_pick (v := .d _) rfl rfl rfl rfl ?_)
    refine sops_go rfl (st_assign (v := .d _) rfl rfl rfl ?_)
    refine sops_nil ?_
    refine swp_ret ?_
    -- ret
    exact ⟨.inl rfl, _, ⟨_, rfl⟩, .inl ⟨2, rfl, ra_d (keeps_v _)⟩⟩
  · first | refine sops_yes rfl rfl rfl rfl (so_load (v := .d (.agg [_, _, _])) rfl rfl rfl rfl rfl rfl rfl rfl ?_) | refine sops_yes rfl rfl rfl rfl (so_load (v := .agg [_, _, _]) rfl rfl rfl rfl rfl rfl rfl rfl ?_) | first | refine sops_no rfl rfl rfl rfl rfl ?_ | refine sops_un rfl rfl rfl rfl rfl ?_
    -- hand: CALL f15(t7)
    first | refine sops_yes rfl rfl rfl rfl (st_call rfl rfl (wide_pure (.mk kind names list)) ⟨na_d _, trivial⟩ rfl ?_) | first | refine sops_no rfl rfl rfl rfl rfl ?_ | refine sops_un rfl rfl rfl rfl rfl ?_
    refine sops_go rfl (st_pick (v := .d _) rfl rfl rfl rfl ?_)
    refine sops_go rfl (st_assign (v := .d _) rfl rfl rfl ?_)
    refine sops_nil ?_
    refine swp_ret ?_
    -- ret
    exact ⟨.inl rfl, _, ⟨_, rfl⟩, .inl ⟨2, rfl, ra_d (keeps_v _)⟩⟩
end Go.Proofs.YtdcpnpcmgfmenaaGreatDoor
/-
  Walks: how big values are, as far as the guards ask. Conditions: none.
-/
set_option linter.unusedVariables false
set_option maxRecDepth 100000
namespace Go.Proofs.YtdcpnpcmgfmenaaGreatDoor
open Go Go.Proofs.YtdcpnpcmgfmenaaGreatDoor.Lg

mutual
def V.many : V → Bool
  | .mk _ _ _ _ _ _ _ names list => decide (2000 < names.length) || V.manys list
def V.manys : List V → Bool
  | [] => false
  | x :: r => x.many || V.manys r
end
theorem V.manys_any : ∀ l : List V, V.manys l = l.any V.many
  | [] => rfl
  | x :: r => by rw [V.manys, V.manys_any r]; rfl
theorem keeps_strs' (l : List ByteArray) : Keeps (.sl true (strRows l)) := keeps_strs l

theorem many_pure (t : V) : Pure env 17 [.d t.d] (.d (.v (.bool t.many))) := by
  revert t
  apply V.ind
  intro kind flag neg digits exp bits text names list ih
  refine pure_of_body Tryz.func17 rfl rfl rfl fun B hB => ?_
  refine swp_seq ?_
  refine swp_region ?_
  refine sops_go rfl (so_box (cs := [_, _, _, _, _, _, _, _, _]) rfl rfl rfl ?_)
  refine sops_go rfl (st_assign (v := .d _) rfl rfl rfl ?_)
  refine sops_nil ?_
  refine swp_seq ?_
  refine swp_seq ?_
  refine swp_region ?_
  first | refine sops_go rfl (so_fieldAddr (v := .p _ _ _) rfl rfl rfl rfl rfl rfl rfl rfl rfl rfl ?_) | refine sops_go rfl (so_fieldAddr (v := .dp _ _) rfl rfl rfl rfl rfl rfl rfl rfl rfl rfl ?_) | refine sops_go rfl (so_fieldAddr (v := .pe _ _ _ _ _) rfl rfl rfl rfl rfl rfl rfl rfl rfl rfl ?_)
  first | refine sops_go rfl (so_load (v := .d _) rfl rfl rfl rfl rfl rfl rfl rfl ?_) | refine sops_go rfl (so_load (v := .own _ _ _ _ _) rfl rfl rfl rfl rfl rfl rfl rfl ?_)
  refine sops_go rfl (so_lenSl rfl rfl rfl rfl rfl ?_)
  refine sops_go rfl (st_bin rfl rfl rfl rfl rfl ?_)
  refine sops_nil ?_
  -- cond
  refine swp_cond _ rfl (fun hc => ?_) (fun hc => ?_)
  · refine swp_seq ?_
    refine swp_region ?_
    refine sops_go rfl (st_assign (v := .d _) rfl rfl rfl ?_)
    refine sops_nil ?_
    refine swp_ret ?_
    with_reducible refine after_ret ?_
    -- ret
    refine ⟨.inl rfl, .inl ⟨2, rfl, ?_⟩⟩
    have e : (V.mk kind flag neg digits exp bits text names list).many = true := by
      have := of_decide_eq_true hc
      rw [strRows_len] at this
      simp [V.many]; omega
    rw [e]; exact ra_d (keeps_v _)
  · refine swp_skip ?_
    refine swp_seq ?_
    refine swp_seq ?_
    refine swp_region ?_
    refine sops_go rfl (st_assign (v := .d _) rfl rfl rfl ?_)
    refine sops_nil ?_
    refine swp_block ?_
    -- loop
    have hn : (names.length : Int) ≤ 2000 := by
      have := of_decide_eq_false hc
      rw [strRows_len] at this; omega
    have hw : (V.mk kind flag neg digits exp bits text names list).many = list.any V.many := by
      have : ¬ 2000 < names.length := by omega
      simp [V.many, V.manys_any, this]
    refine swp_len (l := 0) (i := 8) rfl rfl rfl fun hlen => ?_
    rw [V.rows_len] at hlen
    refine swp_loopF (F := fun k : Nat => { t := upd (upd (fun _ => .any) 1 (.p 0 0 0)) 3 (.d (.v (.int .i64 k))), n := 21, h := upd (fun _ => .dead) 0 (.cells [.any, .any, .any, .any, .any, .any, .any, .any, .d (.sl true (V.rows list))]), nx := 1 })
      (fun k => k ≤ list.length ∧ (list.take k).any V.many = false) (fun k => list.length - k) 0 ⟨Nat.zero_le _, rfl⟩ ?_ ?_
    · refine wk_of rfl (Nat.le_of_ble_eq_true rfl) (by rw [hB]; exact Nat.zero_le _) (tle_upd (le_eq rfl rfl) (tle_upd (le_eq rfl rfl) (tle_any _))) (hle_upd (.cells _ _ ⟨le_any _, le_any _, le_any _, le_any _, le_any _, le_any _, le_any _, le_any _, le_eq rfl rfl, trivial⟩) (hle_dead _)) (dead_upd (Nat.le_of_ble_eq_true rfl) (dead_none))
    rintro k ⟨hk, ha⟩
    refine swp_seq ?_
    refine swp_seq ?_
    refine swp_region ?_
    refine sops_go rfl (st_move (v := .d _) rfl rfl rfl ?_)
    first | refine sops_go rfl (so_fieldAddr (v := .p _ _ _) rfl rfl rfl rfl rfl rfl rfl rfl rfl rfl ?_) | refine sops_go rfl (so_fieldAddr (v := .dp _ _) rfl rfl rfl rfl rfl rfl rfl rfl rfl rfl ?_) | refine sops_go rfl (so_fieldAddr (v := .pe _ _ _ _ _) rfl rfl rfl rfl rfl rfl rfl rfl rfl rfl ?_)
    first | refine sops_go rfl (so_load (v := .d _) rfl rfl rfl rfl rfl rfl rfl rfl ?_) | refine sops_go rfl (so_load (v := .own _ _ _ _ _) rfl rfl rfl rfl rfl rfl rfl rfl ?_)
    refine sops_go rfl (so_lenSl rfl rfl rfl rfl rfl ?_)
    refine sops_go rfl (st_bin rfl rfl rfl rfl rfl ?_)
    refine sops_nil ?_
    -- cond
    refine swp_cond _ rfl (fun hc => ?_) (fun hc => ?_)
    · have hlt : k < list.length := by have := of_decide_eq_true hc; rw [V.rows_len] at this; omega
      refine swp_skip ?_
      refine swp_seq ?_
      refine swp_block ?_
      refine swp_seq ?_
      refine swp_region ?_
      first | refine sops_go rfl (so_fieldAddr (v := .p _ _ _) rfl rfl rfl rfl rfl rfl rfl rfl rfl rfl ?_) | refine sops_go rfl (so_fieldAddr (v := .dp _ _) rfl rfl rfl rfl rfl rfl rfl rfl rfl rfl ?_) | refine sops_go rfl (so_fieldAddr (v := .pe _ _ _ _ _) rfl rfl rfl rfl rfl rfl rfl rfl rfl rfl ?_)
      first | refine sops_go rfl (so_load (v := .d _) rfl rfl rfl rfl rfl rfl rfl rfl ?_) | refine sops_go rfl (so_load (v := .own _ _ _ _ _) rfl rfl rfl rfl rfl rfl rfl rfl ?_)
      refine sops_go rfl (st_move (v := .d _) rfl rfl rfl ?_)
      -- hand: indexAddr 31 t16 t17
      refine sops_go rfl (so_indexSl rfl rfl rfl rfl rfl rfl rfl (V.rows_all _) (by omega) (by rw [V.rows_len]; omega) (V.rows_get _ _ hlt) ?_)
      have ihk := ih _ (List.getElem_mem hlt)
      have hat := any_take V.many list k hlt
      have hget := any_get V.many list k hlt
      generalize list[k] = x at ihk hat hget ⊢
      obtain ⟨a1, a2, a3, a4, a5, a6, a7, a8, a9⟩ := x
      first | refine sops_go rfl (so_load (v := .d (.agg [_, _, _, _, _, _, _, _, _])) rfl rfl rfl rfl rfl rfl rfl rfl ?_) | refine sops_go rfl (so_load (v := .agg [_, _, _, _, _, _, _, _, _]) rfl rfl rfl rfl rfl rfl rfl rfl ?_)
      -- hand: CALL f17(t19)
      refine sops_go rfl (st_call rfl rfl (ihk) ⟨na_d _, trivial⟩ rfl ?_)
      refine sops_nil ?_
      -- cond
      refine swp_cond _ rfl (fun hc => ?_) (fun hc => ?_)
      · refine swp_seq ?_
        refine swp_region ?_
        refine sops_go rfl (st_assign (v := .d _) rfl rfl rfl ?_)
        refine sops_nil ?_
        refine swp_ret ?_
        with_reducible refine inblk_ret ?_
        with_reducible refine after_ret ?_
        with_reducible refine after_ret ?_
        with_reducible refine inblk_ret ?_
        with_reducible refine after_ret ?_
        -- ret
        refine ⟨.inl rfl, .inl ⟨2, rfl, ?_⟩⟩
        rw [hw, hget hc]
        exact ra_d (keeps_v _)
      · refine swp_skip ?_
        refine swp_region ?_
        refine sops_go rfl (st_move (v := .d _) rfl rfl rfl ?_)
        refine sops_go rfl (st_bin rfl rfl rfl rfl rfl ?_)
        refine sops_go rfl (st_assign (v := .d _) rfl rfl rfl ?_)
        refine sops_nil ?_
        -- loopend
        refine ⟨k + 1, ⟨hlt, by rw [hat, ha, hc]; rfl⟩, by omega, ?_⟩
        refine wk_of rfl (Nat.le_of_ble_eq_true rfl) (by rw [hB]; exact Nat.zero_le _) (tle_upd (le_eq (next_i64 hlt hlen) rfl) (tle_upd (le_eq rfl rfl) (tle_any _))) (hle_upd (.cells _ _ ⟨le_any _, le_any _, le_any _, le_any _, le_any _, le_any _, le_any _, le_any _, le_eq rfl rfl, trivial⟩) (hle_dead _)) (dead_upd (Nat.le_of_ble_eq_true rfl) (dead_none))
    · refine swp_exit ?_
      with_reducible refine after_exit ?_
      with_reducible refine after_exit ?_
      refine inblk_hit ?_
      refine swp_seq ?_
      refine swp_region ?_
      refine sops_go rfl (st_assign (v := .d _) rfl rfl rfl ?_)
      refine sops_nil ?_
      refine swp_ret ?_
      -- ret
      refine ⟨.inl rfl, .inl ⟨2, rfl, ?_⟩⟩
      have : k = list.length := by have := of_decide_eq_false hc; rw [V.rows_len] at this; omega
      rw [this, List.take_length] at ha
      rw [hw, ha]
      exact ra_d (keeps_v _)

theorem partsV_s (t : V) : ∀ n m w : Int, PureS env 16 [.d t.d, .d (.v (.int .i64 n)), .d (.v (.int .i64 m)), .d (.v (.int .i64 w))] isInt := by
  revert t
  apply V.ind
  intro kind flag neg digits exp bits text names list ih n m w
  refine pureS_of_body Tryz.func16 rfl rfl rfl fun B hB => ?_
  refine swp_seq ?_
  refine swp_region ?_
  refine sops_go rfl (so_box (cs := [_, _, _, _, _, _, _, _, _]) rfl rfl rfl ?_)
  refine sops_go rfl (st_assign (v := .d _) rfl rfl rfl ?_)
  refine sops_nil ?_
  refine swp_seq ?_
  refine swp_seq ?_
  refine swp_region ?_
  refine sops_go rfl (st_move (v := .d _) rfl rfl rfl ?_)
  refine sops_go rfl (st_bin rfl rfl rfl rfl rfl ?_)
  refine sops_nil ?_
  -- cond
  refine swp_cond _ rfl (fun hc => ?_) (fun hc => ?_)
  · refine swp_seq ?_
    refine swp_region ?_
    refine sops_go rfl (st_move (v := .d _) rfl rfl rfl ?_)
    refine sops_go rfl (st_bin rfl rfl rfl rfl rfl ?_)
    refine sops_go rfl (st_assign (v := .d _) rfl rfl rfl ?_)
    refine sops_nil ?_
    refine swp_ret ?_
    with_reducible refine after_ret ?_
    -- ret
    exact ⟨.inl rfl, _, ⟨_, rfl⟩, .inl ⟨8, rfl, ra_d (keeps_v _)⟩⟩
  · refine swp_skip ?_
    refine swp_seq ?_
    refine swp_region ?_
    refine sops_go rfl (st_move (v := .d _) rfl rfl rfl ?_)
    refine sops_go rfl (st_bin rfl rfl rfl rfl rfl ?_)
    first | refine sops_go rfl (so_fieldAddr (v := .p _ _ _) rfl rfl rfl rfl rfl rfl rfl rfl rfl rfl ?_) | refine sops_go rfl (so_fieldAddr (v := .dp _ _) rfl rfl rfl rfl rfl rfl rfl rfl rfl rfl ?_) | refine sops_go rfl (so_fieldAddr (v := .pe _ _ _ _ _) rfl rfl rfl rfl rfl rfl rfl rfl rfl rfl ?_)
    refine sops_go rfl (so_load (v := .d _) rfl rfl rfl rfl rfl rfl rfl rfl ?_)
    refine sops_go rfl (so_lenStr rfl rfl rfl rfl rfl ?_)
    refine sops_go rfl (st_bin rfl rfl rfl rfl rfl ?_)
    first | refine sops_go rfl (so_fieldAddr (v := .p _ _ _) rfl rfl rfl rfl rfl rfl rfl rfl rfl rfl ?_) | refine sops_go rfl (so_fieldAddr (v := .dp _ _) rfl rfl rfl rfl rfl rfl rfl rfl rfl rfl ?_) | refine sops_go rfl (so_fieldAddr (v := .pe _ _ _ _ _) rfl rfl rfl rfl rfl rfl rfl rfl rfl rfl ?_)
    first | refine sops_go rfl (so_fieldAddr (v := .p _ _ _) rfl rfl rfl rfl rfl rfl rfl rfl rfl rfl ?_) | refine sops_go rfl (so_fieldAddr (v := .dp _ _) rfl rfl rfl rfl rfl rfl rfl rfl rfl rfl ?_) | refine sops_go rfl (so_fieldAddr (v := .pe _ _ _ _ _) rfl rfl rfl rfl rfl rfl rfl rfl rfl rfl ?_)
    refine sops_go rfl (so_load (v := .d _) rfl rfl rfl rfl rfl rfl rfl rfl ?_)
    refine sops_go rfl (so_lenStr rfl rfl rfl rfl rfl ?_)
    refine sops_go rfl (st_bin rfl rfl rfl rfl rfl ?_)
    first | refine sops_go rfl (so_fieldAddr (v := .p _ _ _) rfl rfl rfl rfl rfl rfl rfl rfl rfl rfl ?_) | refine sops_go rfl (so_fieldAddr (v := .dp _ _) rfl rfl rfl rfl rfl rfl rfl rfl rfl rfl ?_) | refine sops_go rfl (so_fieldAddr (v := .pe _ _ _ _ _) rfl rfl rfl rfl rfl rfl rfl rfl rfl rfl ?_)
    first | refine sops_go rfl (so_load (v := .d _) rfl rfl rfl rfl rfl rfl rfl rfl ?_) | refine sops_go rfl (so_load (v := .own _ _ _ _ _) rfl rfl rfl rfl rfl rfl rfl rfl ?_)
    refine sops_go rfl (so_lenSl rfl rfl rfl rfl rfl ?_)
    refine sops_go rfl (st_bin rfl rfl rfl rfl rfl ?_)
    refine sops_go rfl (st_assign (v := .d _) rfl rfl rfl ?_)
    refine sops_nil ?_
    -- stop
    refine swp_len (l := 0) (i := 7) rfl rfl rfl fun hn => ?_
    refine swp_len (l := 0) (i := 8) rfl rfl rfl fun hlen => ?_
    rw [strRows_len] at hn
    rw [V.rows_len] at hlen
    let F0 : Int → St := fun n => { t := upd (upd (upd (upd (fun _ => .any) 4 (.p 0 0 0)) 3 (.d (.v (.int .i64 w)))) 2 (.d (.v (.int .i64 m)))) 1 (.d (.v (.int .i64 n))), n := 73, h := upd (fun _ => .dead) 0 (.cells [.any, .any, .any, .any, .any, .any, .any, .d (.sl true (strRows names)), .d (.sl true (V.rows list))]), nx := 1 }
    refine swp_seqF (F := F0) (P := fun _ => True) ?_ ?_
    · refine swp_seq ?_
      refine swp_region ?_
      refine sops_go rfl (st_assign (v := .d _) rfl rfl rfl ?_)
      refine sops_nil ?_
      refine swp_block ?_
      -- loop
      let F1 : Nat × Int → St := fun p => { F0 p.2 with t := upd (F0 p.2).t 9 (.d (.v (.int .i64 p.1))) }
      refine swp_loopF (F := F1) (fun p => p.1 ≤ names.length) (fun p => names.length - p.1) (0, IntKind.i64.wrap (IntKind.i64.wrap (IntKind.i64.wrap (IntKind.i64.wrap (n + 1) + (text.size : Int)) + (digits.size : Int)) + (names.length : Int))) (Nat.zero_le _) ?_ ?_
      · rw [← strRows_len names]
        refine wk_of rfl (Nat.le_of_ble_eq_true rfl) (by rw [hB]; exact Nat.zero_le _) (tle_upd (le_eq rfl rfl) (tle_upd (le_eq rfl rfl) (tle_upd (le_eq rfl rfl) (tle_upd (le_eq rfl rfl) (tle_upd (le_eq rfl rfl) (tle_any _)))))) (hle_upd (.cells _ _ ⟨le_any _, le_any _, le_any _, le_any _, le_any _, le_any _, le_any _, le_eq rfl rfl, le_eq rfl rfl, trivial⟩) (hle_dead _)) (dead_upd (Nat.le_of_ble_eq_true rfl) (dead_none))
      rintro ⟨k, n1⟩ hk
      simp only at hk
      refine swp_seq ?_
      refine swp_seq ?_
      refine swp_region ?_
      refine sops_go rfl (st_move (v := .d _) rfl rfl rfl ?_)
      first | refine sops_go rfl (so_fieldAddr (v := .p _ _ _) rfl rfl rfl rfl rfl rfl rfl rfl rfl rfl ?_) | refine sops_go rfl (so_fieldAddr (v := .dp _ _) rfl rfl rfl rfl rfl rfl rfl rfl rfl rfl ?_) | refine sops_go rfl (so_fieldAddr (v := .pe _ _ _ _ _) rfl rfl rfl rfl rfl rfl rfl rfl rfl rfl ?_)
      first | refine sops_go rfl (so_load (v := .d _) rfl rfl rfl rfl rfl rfl rfl rfl ?_) | refine sops_go rfl (so_load (v := .own _ _ _ _ _) rfl rfl rfl rfl rfl rfl rfl rfl ?_)
      refine sops_go rfl (so_lenSl rfl rfl rfl rfl rfl ?_)
      refine sops_go rfl (st_bin rfl rfl rfl rfl rfl ?_)
      refine sops_go rfl (st_move (v := .d _) rfl rfl rfl ?_)
      -- guard (some (5, true))
      refine sops_case 35 rfl (fun hb35 => ?_) (fun hb35 => ?_)
      · have hlt : k < names.length := by have := of_decide_eq_true hb35; rw [strRows_len] at this; omega
        first | refine sops_yes rfl rfl rfl rfl (st_move (v := .d _) rfl rfl rfl ?_) | first | refine sops_no rfl rfl rfl rfl rfl ?_ | refine sops_un rfl rfl rfl rfl rfl ?_
        first | refine sops_yes rfl rfl rfl rfl (st_move (v := .d _) rfl rfl rfl ?_) | first | refine sops_no rfl rfl rfl rfl rfl ?_ | refine sops_un rfl rfl rfl rfl rfl ?_
        first | refine sops_yes rfl rfl rfl rfl (st_bin rfl rfl rfl rfl rfl ?_) | first | refine sops_no rfl rfl rfl rfl rfl ?_ | refine sops_un rfl rfl rfl rfl rfl ?_
        refine sops_go rfl (st_pick (v := .d _) rfl rfl rfl rfl ?_)
        refine sops_nil ?_
        -- cond
        refine swp_cond _ rfl (fun hc => ?_) (fun hc => ?_)
        · refine swp_skip ?_
          refine swp_seq ?_
          refine swp_block ?_
          refine swp_region ?_
          refine sops_go rfl (st_move (v := .d _) rfl rfl rfl ?_)
          first | refine sops_go rfl (so_fieldAddr (v := .p _ _ _) rfl rfl rfl rfl rfl rfl rfl rfl rfl rfl ?_) | refine sops_go rfl (so_fieldAddr (v := .dp _ _) rfl rfl rfl rfl rfl rfl rfl rfl rfl rfl ?_) | refine sops_go rfl (so_fieldAddr (v := .pe _ _ _ _ _) rfl rfl rfl rfl rfl rfl rfl rfl rfl rfl ?_)
          first | refine sops_go rfl (so_load (v := .d _) rfl rfl rfl rfl rfl rfl rfl rfl ?_) | refine sops_go rfl (so_load (v := .own _ _ _ _ _) rfl rfl rfl rfl rfl rfl rfl rfl ?_)
          refine sops_go rfl (st_move (v := .d _) rfl rfl rfl ?_)
          -- hand: indexAddr 23 t44 t45
          refine sops_go rfl (so_indexSl rfl rfl rfl rfl rfl rfl rfl (strRows_all _) (by omega) (by rw [strRows_len]; omega) (strRows_get _ _ hlt) ?_)
          refine sops_go rfl (so_load (v := .d _) rfl rfl rfl rfl rfl rfl rfl rfl ?_)
          refine sops_go rfl (so_lenStr rfl rfl rfl rfl rfl ?_)
          refine sops_go rfl (st_bin rfl rfl rfl rfl rfl ?_)
          refine sops_go rfl (st_assign (v := .d _) rfl rfl rfl ?_)
          refine sops_nil ?_
          refine swp_region ?_
          refine sops_go rfl (st_move (v := .d _) rfl rfl rfl ?_)
          refine sops_go rfl (st_bin rfl rfl rfl rfl rfl ?_)
          refine sops_go rfl (st_assign (v := .d _) rfl rfl rfl ?_)
          refine sops_nil ?_
          -- loopend
          refine ⟨(k + 1, IntKind.i64.wrap (n1 + ((names[k]).size : Int))), hlt, by simp only; omega, ?_⟩
          refine wk_of rfl (Nat.le_of_ble_eq_true rfl) (by rw [hB]; exact Nat.zero_le _) (tle_upd (le_eq (next_i64 hlt hn) rfl) (tle_upd (le_eq rfl rfl) (tle_upd (le_eq rfl rfl) (tle_upd (le_eq rfl rfl) (tle_upd (le_eq rfl rfl) (tle_any _)))))) (hle_upd (.cells _ _ ⟨le_any _, le_any _, le_any _, le_any _, le_any _, le_any _, le_any _, le_eq rfl rfl, le_eq rfl rfl, trivial⟩) (hle_dead _)) (dead_upd (Nat.le_of_ble_eq_true rfl) (dead_none))
        · refine swp_exit ?_
          with_reducible refine after_exit ?_
          with_reducible refine after_exit ?_
          refine inblk_hit ?_
          -- cut
          refine ⟨n1, trivial, ?_⟩
          refine wk_of rfl (Nat.le_of_ble_eq_true rfl) (by rw [hB]; exact Nat.zero_le _) (tle_upd (le_eq rfl rfl) (tle_upd (le_eq rfl rfl) (tle_upd (le_eq rfl rfl) (tle_upd (le_eq rfl rfl) (tle_any _))))) (hle_upd (.cells _ _ ⟨le_any _, le_any _, le_any _, le_any _, le_any _, le_any _, le_any _, le_eq rfl rfl, le_eq rfl rfl, trivial⟩) (hle_dead _)) (dead_upd (Nat.le_of_ble_eq_true rfl) (dead_none))
      · first | refine sops_yes rfl rfl rfl rfl (st_move (v := .d _) rfl rfl rfl ?_) | first | refine sops_no rfl rfl rfl rfl rfl ?_ | refine sops_un rfl rfl rfl rfl rfl ?_
        first | refine sops_yes rfl rfl rfl rfl (st_move (v := .d _) rfl rfl rfl ?_) | first | refine sops_no rfl rfl rfl rfl rfl ?_ | refine sops_un rfl rfl rfl rfl rfl ?_
        first | refine sops_yes rfl rfl rfl rfl (st_bin rfl rfl rfl rfl rfl ?_) | first | refine sops_no rfl rfl rfl rfl rfl ?_ | refine sops_un rfl rfl rfl rfl rfl ?_
        refine sops_go rfl (st_pick (v := .d _) rfl rfl rfl rfl ?_)
        refine sops_nil ?_
        -- cond
        refine swp_condF rfl ?_
        refine swp_exit ?_
        with_reducible refine after_exit ?_
        with_reducible refine after_exit ?_
        refine inblk_hit ?_
        -- cut
        refine ⟨n1, trivial, ?_⟩
        refine wk_of rfl (Nat.le_of_ble_eq_true rfl) (by rw [hB]; exact Nat.zero_le _) (tle_upd (le_eq rfl rfl) (tle_upd (le_eq rfl rfl) (tle_upd (le_eq rfl rfl) (tle_upd (le_eq rfl rfl) (tle_any _))))) (hle_upd (.cells _ _ ⟨le_any _, le_any _, le_any _, le_any _, le_any _, le_any _, le_any _, le_eq rfl rfl, le_eq rfl rfl, trivial⟩) (hle_dead _)) (dead_upd (Nat.le_of_ble_eq_true rfl) (dead_none))
    rintro n1 -
    refine swp_seq ?_
    refine swp_seq ?_
    refine swp_region ?_
    refine sops_go rfl (st_assign (v := .d _) rfl rfl rfl ?_)
    refine sops_nil ?_
    refine swp_block ?_
    -- loop
    let F2 : Nat × Int → St := fun p => { F0 p.2 with t := upd (F0 p.2).t 10 (.d (.v (.int .i64 p.1))) }
    refine swp_loopF (F := F2) (fun p => p.1 ≤ list.length) (fun p => list.length - p.1) (0, n1) (Nat.zero_le _) ?_ ?_
    · refine wk_of rfl (Nat.le_of_ble_eq_true rfl) (by rw [hB]; exact Nat.zero_le _) (tle_upd (le_eq rfl rfl) (tle_upd (le_eq rfl rfl) (tle_upd (le_eq rfl rfl) (tle_upd (le_eq rfl rfl) (tle_upd (le_eq rfl rfl) (tle_any _)))))) (hle_upd (.cells _ _ ⟨le_any _, le_any _, le_any _, le_any _, le_any _, le_any _, le_any _, le_eq rfl rfl, le_eq rfl rfl, trivial⟩) (hle_dead _)) (dead_upd (Nat.le_of_ble_eq_true rfl) (dead_none))
    rintro ⟨k, n2⟩ hk
    simp only at hk
    refine swp_seq ?_
    refine swp_seq ?_
    refine swp_region ?_
    refine sops_go rfl (st_move (v := .d _) rfl rfl rfl ?_)
    first | refine sops_go rfl (so_fieldAddr (v := .p _ _ _) rfl rfl rfl rfl rfl rfl rfl rfl rfl rfl ?_) | refine sops_go rfl (so_fieldAddr (v := .dp _ _) rfl rfl rfl rfl rfl rfl rfl rfl rfl rfl ?_) | refine sops_go rfl (so_fieldAddr (v := .pe _ _ _ _ _) rfl rfl rfl rfl rfl rfl rfl rfl rfl rfl ?_)
    first | refine sops_go rfl (so_load (v := .d _) rfl rfl rfl rfl rfl rfl rfl rfl ?_) | refine sops_go rfl (so_load (v := .own _ _ _ _ _) rfl rfl rfl rfl rfl rfl rfl rfl ?_)
    refine sops_go rfl (so_lenSl rfl rfl rfl rfl rfl ?_)
    refine sops_go rfl (st_bin rfl rfl rfl rfl rfl ?_)
    refine sops_go rfl (st_move (v := .d _) rfl rfl rfl ?_)
    -- guard (some (5, true))
    refine sops_case 55 rfl (fun hb55 => ?_) (fun hb55 => ?_)
    · have hlt : k < list.length := by have := of_decide_eq_true hb55; rw [V.rows_len] at this; omega
      first | refine sops_yes rfl rfl rfl rfl (st_move (v := .d _) rfl rfl rfl ?_) | first | refine sops_no rfl rfl rfl rfl rfl ?_ | refine sops_un rfl rfl rfl rfl rfl ?_
      first | refine sops_yes rfl rfl rfl rfl (st_move (v := .d _) rfl rfl rfl ?_) | first | refine sops_no rfl rfl rfl rfl rfl ?_ | refine sops_un rfl rfl rfl rfl rfl ?_
      first | refine sops_yes rfl rfl rfl rfl (st_bin rfl rfl rfl rfl rfl ?_) | first | refine sops_no rfl rfl rfl rfl rfl ?_ | refine sops_un rfl rfl rfl rfl rfl ?_
      refine sops_go rfl (st_pick (v := .d _) rfl rfl rfl rfl ?_)
      refine sops_nil ?_
      -- cond
      refine swp_cond _ rfl (fun hc => ?_) (fun hc => ?_)
      · refine swp_skip ?_
        refine swp_seq ?_
        refine swp_block ?_
        refine swp_region ?_
        first | refine sops_go rfl (so_fieldAddr (v := .p _ _ _) rfl rfl rfl rfl rfl rfl rfl rfl rfl rfl ?_) | refine sops_go rfl (so_fieldAddr (v := .dp _ _) rfl rfl rfl rfl rfl rfl rfl rfl rfl rfl ?_) | refine sops_go rfl (so_fieldAddr (v := .pe _ _ _ _ _) rfl rfl rfl rfl rfl rfl rfl rfl rfl rfl ?_)
        first | refine sops_go rfl (so_load (v := .d _) rfl rfl rfl rfl rfl rfl rfl rfl ?_) | refine sops_go rfl (so_load (v := .own _ _ _ _ _) rfl rfl rfl rfl rfl rfl rfl rfl ?_)
        refine sops_go rfl (st_move (v := .d _) rfl rfl rfl ?_)
        -- hand: indexAddr 31 t63 t64
        refine sops_go rfl (so_indexSl rfl rfl rfl rfl rfl rfl rfl (V.rows_all _) (by omega) (by rw [V.rows_len]; omega) (V.rows_get _ _ hlt) ?_)
        have ihk := ih _ (List.getElem_mem hlt)
        generalize list[k] = x at ihk ⊢
        obtain ⟨a1, a2, a3, a4, a5, a6, a7, a8, a9⟩ := x
        first | refine sops_go rfl (so_load (v := .d (.agg [_, _, _, _, _, _, _, _, _])) rfl rfl rfl rfl rfl rfl rfl rfl ?_) | refine sops_go rfl (so_load (v := .agg [_, _, _, _, _, _, _, _, _]) rfl rfl rfl rfl rfl rfl rfl rfl ?_)
        refine sops_go rfl (st_move (v := .d _) rfl rfl rfl ?_)
        refine sops_go rfl (st_move (v := .d _) rfl rfl rfl ?_)
        refine sops_go rfl (st_move (v := .d _) rfl rfl rfl ?_)
        refine sops_go rfl (st_bin rfl rfl rfl rfl rfl ?_)
        -- hand: CALL f16(t66, t67, t68, t70)
        refine sops_go rfl (st_callS rfl rfl (ihk _ _ _) ⟨na_d _, na_d _, na_d _, na_d _, trivial⟩ rfl fun r hr => ?_)
        obtain ⟨v, rfl⟩ := hr
        refine sops_go rfl (st_assign (v := .d _) rfl rfl rfl ?_)
        refine sops_nil ?_
        refine swp_region ?_
        refine sops_go rfl (st_move (v := .d _) rfl rfl rfl ?_)
        refine sops_go rfl (st_bin rfl rfl rfl rfl rfl ?_)
        refine sops_go rfl (st_assign (v := .d _) rfl rfl rfl ?_)
        refine sops_nil ?_
        -- loopend
        refine ⟨(k + 1, v), hlt, by simp only; omega, ?_⟩
        refine wk_of rfl (Nat.le_of_ble_eq_true rfl) (by rw [hB]; exact Nat.zero_le _) (tle_upd (le_eq (next_i64 hlt hlen) rfl) (tle_upd (le_eq rfl rfl) (tle_upd (le_eq rfl rfl) (tle_upd (le_eq rfl rfl) (tle_upd (le_eq rfl rfl) (tle_any _)))))) (hle_upd (.cells _ _ ⟨le_any _, le_any _, le_any _, le_any _, le_any _, le_any _, le_any _, le_eq rfl rfl, le_eq rfl rfl, trivial⟩) (hle_dead _)) (dead_upd (Nat.le_of_ble_eq_true rfl) (dead_none))
      · refine swp_exit ?_
        with_reducible refine after_exit ?_
        with_reducible refine after_exit ?_
        refine inblk_hit ?_
        refine swp_seq ?_
        refine swp_region ?_
        refine sops_go rfl (st_move (v := .d _) rfl rfl rfl ?_)
        refine sops_go rfl (st_assign (v := .d _) rfl rfl rfl ?_)
        refine sops_nil ?_
        refine swp_ret ?_
        -- ret
        exact ⟨.inl rfl, _, ⟨_, rfl⟩, .inl ⟨8, rfl, ra_d (keeps_v _)⟩⟩
    · first | refine sops_yes rfl rfl rfl rfl (st_move (v := .d _) rfl rfl rfl ?_) | first | refine sops_no rfl rfl rfl rfl rfl ?_ | refine sops_un rfl rfl rfl rfl rfl ?_
      first | refine sops_yes rfl rfl rfl rfl (st_move (v := .d _) rfl rfl rfl ?_) | first | refine sops_no rfl rfl rfl rfl rfl ?_ | refine sops_un rfl rfl rfl rfl rfl ?_
      first | refine sops_yes rfl rfl rfl rfl (st_bin rfl rfl rfl rfl rfl ?_) | first | refine sops_no rfl rfl rfl rfl rfl ?_ | refine sops_un rfl rfl rfl rfl rfl ?_
      refine sops_go rfl (st_pick (v := .d _) rfl rfl rfl rfl ?_)
      refine sops_nil ?_
      -- cond
      refine swp_condF rfl ?_
      refine swp_exit ?_
      with_reducible refine after_exit ?_
      with_reducible refine after_exit ?_
      refine inblk_hit ?_
      refine swp_seq ?_
      refine swp_region ?_
      refine sops_go rfl (st_move (v := .d _) rfl rfl rfl ?_)
      refine sops_go rfl (st_assign (v := .d _) rfl rfl rfl ?_)
      refine sops_nil ?_
      refine swp_ret ?_
      -- ret
      exact ⟨.inl rfl, _, ⟨_, rfl⟩, .inl ⟨8, rfl, ra_d (keeps_v _)⟩⟩


theorem big_s (t : V) : PureS env 5 [.d t.d] isBool := by
  obtain ⟨kind, flag, neg, digits, exp, bits, text, names, list⟩ := t
  refine pureS_of_body Tryz.func5 rfl rfl rfl fun B hB => ?_
  refine swp_seq ?_
  refine swp_region ?_
  refine sops_go rfl (so_box (cs := [_, _, _, _, _, _, _, _, _]) rfl rfl rfl ?_)
  refine sops_go rfl (st_assign (v := .d _) rfl rfl rfl ?_)
  refine sops_nil ?_
  refine swp_seq ?_
  refine swp_region ?_
  first | refine sops_go rfl (so_load (v := .d (.agg [_, _, _, _, _, _, _, _, _])) rfl rfl rfl rfl rfl rfl rfl rfl ?_) | refine sops_go rfl (so_load (v := .agg [_, _, _, _, _, _, _, _, _]) rfl rfl rfl rfl rfl rfl rfl rfl ?_)
  -- hand: CALL f16(t3, 0:i64, 65536:i64, 0:i64)
  refine sops_go rfl (st_callS rfl rfl (partsV_s (.mk kind flag neg digits exp bits text names list) _ _ _) ⟨na_d _, na_d _, na_d _, na_d _, trivial⟩ rfl fun r hr => ?_)
  obtain ⟨v, rfl⟩ := hr
  refine sops_go rfl (st_bin rfl rfl rfl rfl rfl ?_)
  refine sops_go rfl (st_move (v := .d _) rfl rfl rfl ?_)
  -- guard (some (3, false))
  refine sops_case 6 rfl (fun hb6 => ?_) (fun hb6 => ?_)
  · first | refine sops_yes rfl rfl rfl rfl (so_load (v := .d (.agg [_, _, _, _, _, _, _, _, _])) rfl rfl rfl rfl rfl rfl rfl rfl ?_) | refine sops_yes rfl rfl rfl rfl (so_load (v := .agg [_, _, _, _, _, _, _, _, _]) rfl rfl rfl rfl rfl rfl rfl rfl ?_) | first | refine sops_no rfl rfl rfl rfl rfl ?_ | refine sops_un rfl rfl rfl rfl rfl ?_
    -- hand: CALL f17(t7)
    first | refine sops_yes rfl rfl rfl rfl (st_call rfl rfl (many_pure (.mk kind flag neg digits exp bits text names list)) ⟨na_d _, trivial⟩ rfl ?_) | first | refine sops_no rfl rfl rfl rfl rfl ?_ | refine sops_un rfl rfl rfl rfl rfl ?_
    refine sops_go rfl (st_pick (v := .d _) rfl rfl rfl rfl ?_)
    refine sops_go rfl (st_assign (v := .d _) rfl rfl rfl ?_)
    refine sops_nil ?_
    refine swp_ret ?_
    -- ret
    exact ⟨.inl rfl, _, ⟨_, rfl⟩, .inl ⟨2, rfl, ra_d (keeps_v _)⟩⟩
  · first | refine sops_yes rfl rfl rfl rfl (so_load (v := .d (.agg [_, _, _, _, _, _, _, _, _])) rfl rfl rfl rfl rfl rfl rfl rfl ?_) | refine sops_yes rfl rfl rfl rfl (so_load (v := .agg [_, _, _, _, _, _, _, _, _]) rfl rfl rfl rfl rfl rfl rfl rfl ?_) | first | refine sops_no rfl rfl rfl rfl rfl ?_ | refine sops_un rfl rfl rfl rfl rfl ?_
    -- hand: CALL f17(t7)
    first | refine sops_yes rfl rfl rfl rfl (st_call rfl rfl (many_pure (.mk kind flag neg digits exp bits text names list)) ⟨na_d _, trivial⟩ rfl ?_) | first | refine sops_no rfl rfl rfl rfl rfl ?_ | refine sops_un rfl rfl rfl rfl rfl ?_
    refine sops_go rfl (st_pick (v := .d _) rfl rfl rfl rfl ?_)
    refine sops_go rfl (st_assign (v := .d _) rfl rfl rfl ?_)
    refine sops_nil ?_
    refine swp_ret ?_
    -- ret
    exact ⟨.inl rfl, _, ⟨_, rfl⟩, .inl ⟨2, rfl, ra_d (keeps_v _)⟩⟩
end Go.Proofs.YtdcpnpcmgfmenaaGreatDoor
/-
  Walks: the document's examples. Conditions: none.
-/
set_option linter.unusedVariables false
set_option maxRecDepth 100000
namespace Go.Proofs.YtdcpnpcmgfmenaaGreatDoor
open Go Go.Proofs.YtdcpnpcmgfmenaaGreatDoor.Lg

theorem na_nilF {E : Env} {σ : St} (s : Bool) : NA E σ (.d (.v (.slice none 0 0))) (.d (.sl s [])) := fun B g w a hr y h => by rw [vr_val h]; exact .d _ _ (.nil _ _ _)
theorem tf_plain (k : Int) : (T.mk k [] []).fit := ⟨by simp, trivial⟩
theorem fits_of {s : ByteArray} (h : s.size ≤ 1000000) : fits s := by unfold fits; omega
theorem tA_fit : tA.fit := ⟨by intro n hn; simp at hn; subst hn; exact fits_of (by decide), ⟨by simp, trivial⟩, trivial⟩
theorem tB_fit : tB.fit := ⟨by intro n hn; simp at hn; subst hn; exact fits_of (by decide), ⟨by simp, trivial⟩, trivial⟩
theorem vFive_fit : vFive.fit := ⟨fits_of (by decide), fits_of (by decide), by simp, trivial⟩
theorem vHalf_fit : vHalf.fit := ⟨fits_of (by decide), fits_of (by decide), by simp, trivial⟩

theorem T.Sub_ok {a b : T} (h : (a.Sub b).2 = 0) : a.check = 0 ∧ b.check = 0 ∧ (a.Sub b).1 = a.sub b := by
  unfold T.Sub at h ⊢
  split at h
  · rename_i hc; simp at hc; exact absurd h hc
  · rename_i hc
    rw [if_neg hc]
    simp at hc
    exact ⟨(T.both_checks hc).1, (T.both_checks hc).2, rfl⟩
theorem T.Has_ok {t : T} {v : V} (h : (t.Has v).2 = 0) : t.check = 0 ∧ v.check = 0 ∧ (t.Has v).1 = t.has v := by
  unfold T.Has at h ⊢
  split at h
  · rename_i hc; simp at hc; exact absurd h hc
  · rename_i hc
    split at h
    · rename_i hd; simp at hd; exact absurd h hd
    · rename_i hd
      rw [if_neg hc, if_neg hd]
      simp at hc hd
      exact ⟨hc, hd, rfl⟩

theorem awake_pure : Pure env 11 [] (.d (.v (.bool true))) := by
  have c1 := Has_pure (T.mk 5 [] []) vFive (tf_plain 5) vFive_fit true true
  have c2 := Has_pure (T.mk 5 [] []) vHalf (tf_plain 5) vHalf_fit true true
  have c3 := Sub_pure (T.mk 5 [] []) (T.mk 4 [] []) (tf_plain 5) (tf_plain 4) true true
  have c4 := Sub_pure (T.mk 4 [] []) (T.mk 5 [] []) (tf_plain 4) (tf_plain 5) true true
  have c5 := Join_pure tA tB tA_fit tB_fit
  have c6 := checkT_pure (T.mk 0 [] []) (tf_plain 0) true
  have c7 := checkT_pure (T.mk 9 [] []) (tf_plain 9) true
  rw [aw1] at c1
  rw [aw2] at c2
  rw [aw3] at c3
  rw [aw4] at c4
  rw [aw5] at c5
  rw [aw6] at c6
  rw [aw7] at c7
  refine pure_of_body Tryz.func11 rfl rfl rfl fun B hB => ?_
  refine swp_seq ?_
  refine swp_region ?_
  refine sops_go rfl (st_assign (v := .d _) rfl rfl rfl ?_)
  refine sops_nil ?_
  refine swp_seq ?_
  refine swp_region ?_
  first | refine sops_go rfl (so_build (v := .d (.agg [_, _, _])) rfl rfl rfl rfl rfl rfl rfl ?_) | refine sops_go rfl (so_build (v := .agg [_, _, _]) rfl rfl rfl rfl rfl rfl rfl ?_)
  first | refine sops_go rfl (so_build (v := .d (.agg [_, _, _, _, _, _, _, _, _])) rfl rfl rfl rfl rfl rfl rfl ?_) | refine sops_go rfl (so_build (v := .agg [_, _, _, _, _, _, _, _, _]) rfl rfl rfl rfl rfl rfl rfl ?_)
  refine sops_go rfl (so_alloc (cs := [_, _, _, _, _, _, _, _, _]) rfl rfl rfl rfl ?_)
  refine sops_go rfl (so_store rfl rfl rfl rfl rfl rfl rfl rfl rfl (zs := [_, _, _, _, _, _, _, _, _]) rfl ?_)
  refine sops_nil ?_
  refine swp_seq ?_
  refine swp_region ?_
  first | refine sops_go rfl (so_build (v := .d (.agg [_, _, _])) rfl rfl rfl rfl rfl rfl rfl ?_) | refine sops_go rfl (so_build (v := .agg [_, _, _]) rfl rfl rfl rfl rfl rfl rfl ?_)
  first | refine sops_go rfl (so_build (v := .d (.agg [_, _, _, _, _, _, _, _, _])) rfl rfl rfl rfl rfl rfl rfl ?_) | refine sops_go rfl (so_build (v := .agg [_, _, _, _, _, _, _, _, _]) rfl rfl rfl rfl rfl rfl rfl ?_)
  refine sops_go rfl (so_alloc (cs := [_, _, _, _, _, _, _, _, _]) rfl rfl rfl rfl ?_)
  refine sops_go rfl (so_store rfl rfl rfl rfl rfl rfl rfl rfl rfl (zs := [_, _, _, _, _, _, _, _, _]) rfl ?_)
  refine sops_nil ?_
  refine swp_seq ?_
  refine swp_regionQ 7 (by kernel_rfl) rfl rfl rfl ?_
  refine h0_go rfl (st_call rfl rfl (plain_pure _) ⟨na_d _, trivial⟩ rfl ⟨_, rfl, ?_⟩)
  first | refine h0_go rfl (so_load (v := .d (.agg [_, _, _, _, _, _, _, _, _])) rfl rfl rfl rfl rfl rfl rfl rfl ⟨_, rfl, ?_⟩) | refine h0_go rfl (so_load (v := .agg [_, _, _, _, _, _, _, _, _]) rfl rfl rfl rfl rfl rfl rfl rfl ⟨_, rfl, ?_⟩)
  refine h0_go rfl (st_call rfl rfl (c1) ⟨na_d _, na_dagg ⟨na_d _, na_d _, na_d _, na_d _, na_d _, na_d _, na_d _, na_nil, na_nil, trivial⟩, trivial⟩ rfl ⟨_, rfl, ?_⟩)
  refine h0_go rfl (st_move (v := .tup _) rfl rfl rfl ⟨_, rfl, ?_⟩)
  refine h0_go rfl (st_extract (c := .d _) rfl rfl rfl rfl ⟨_, rfl, ?_⟩)
  refine h0_go rfl (st_extract (c := .d _) rfl rfl rfl rfl ⟨_, rfl, ?_⟩)
  refine h0_go rfl (st_assign (v := .d _) rfl rfl rfl ⟨_, rfl, ?_⟩)
  refine h0_nil ?_
  refine sops_go rfl (st_assign (v := .d _) rfl rfl rfl ?_)
  refine sops_nil ?_
  refine swp_seq ?_
  refine swp_regionQ 7 (by kernel_rfl) rfl rfl rfl ?_
  refine h0_go rfl (st_call rfl rfl (plain_pure _) ⟨na_d _, trivial⟩ rfl ⟨_, rfl, ?_⟩)
  first | refine h0_go rfl (so_load (v := .d (.agg [_, _, _, _, _, _, _, _, _])) rfl rfl rfl rfl rfl rfl rfl rfl ⟨_, rfl, ?_⟩) | refine h0_go rfl (so_load (v := .agg [_, _, _, _, _, _, _, _, _]) rfl rfl rfl rfl rfl rfl rfl rfl ⟨_, rfl, ?_⟩)
  refine h0_go rfl (st_call rfl rfl (c2) ⟨na_d _, na_dagg ⟨na_d _, na_d _, na_d _, na_d _, na_d _, na_d _, na_d _, na_nil, na_nil, trivial⟩, trivial⟩ rfl ⟨_, rfl, ?_⟩)
  refine h0_go rfl (st_move (v := .tup _) rfl rfl rfl ⟨_, rfl, ?_⟩)
  refine h0_go rfl (st_extract (c := .d _) rfl rfl rfl rfl ⟨_, rfl, ?_⟩)
  refine h0_go rfl (st_extract (c := .d _) rfl rfl rfl rfl ⟨_, rfl, ?_⟩)
  refine h0_go rfl (st_assign (v := .d _) rfl rfl rfl ⟨_, rfl, ?_⟩)
  refine h0_nil ?_
  refine sops_go rfl (st_assign (v := .d _) rfl rfl rfl ?_)
  refine sops_nil ?_
  refine swp_seq ?_
  refine swp_region ?_
  refine sops_go rfl (st_call rfl rfl (plain_pure _) ⟨na_d _, trivial⟩ rfl ?_)
  refine sops_go rfl (st_call rfl rfl (plain_pure _) ⟨na_d _, trivial⟩ rfl ?_)
  refine sops_go rfl (st_call rfl rfl (c3) ⟨na_d _, na_d _, trivial⟩ rfl ?_)
  refine sops_go rfl (st_move (v := .tup _) rfl rfl rfl ?_)
  refine sops_go rfl (st_extract (c := .d _) rfl rfl rfl rfl ?_)
  refine sops_go rfl (st_extract (c := .d _) rfl rfl rfl rfl ?_)
  refine sops_go rfl (st_assign (v := .d _) rfl rfl rfl ?_)
  refine sops_go rfl (st_assign (v := .d _) rfl rfl rfl ?_)
  refine sops_nil ?_
  refine swp_seq ?_
  refine swp_region ?_
  refine sops_go rfl (st_call rfl rfl (plain_pure _) ⟨na_d _, trivial⟩ rfl ?_)
  refine sops_go rfl (st_call rfl rfl (plain_pure _) ⟨na_d _, trivial⟩ rfl ?_)
  refine sops_go rfl (st_call rfl rfl (c4) ⟨na_d _, na_d _, trivial⟩ rfl ?_)
  refine sops_go rfl (st_move (v := .tup _) rfl rfl rfl ?_)
  refine sops_go rfl (st_extract (c := .d _) rfl rfl rfl rfl ?_)
  refine sops_go rfl (st_extract (c := .d _) rfl rfl rfl rfl ?_)
  refine sops_go rfl (st_assign (v := .d _) rfl rfl rfl ?_)
  refine sops_go rfl (st_assign (v := .d _) rfl rfl rfl ?_)
  refine sops_nil ?_
  refine swp_seq ?_
  refine swp_region ?_
  refine sops_go rfl (st_call rfl rfl (plain_pure _) ⟨na_d _, trivial⟩ rfl ?_)
  refine sops_go rfl (st_call rfl rfl (union_pure _ (T.mk 5 [] [])) ⟨na_d _, na_d _, trivial⟩ rfl ?_)
  refine sops_go rfl (st_call rfl rfl (plain_pure _) ⟨na_d _, trivial⟩ rfl ?_)
  refine sops_go rfl (st_call rfl rfl (union_pure _ (T.mk 7 [] [])) ⟨na_d _, na_d _, trivial⟩ rfl ?_)
  refine sops_go rfl (st_call rfl rfl (c5) ⟨na_d _, na_d _, trivial⟩ rfl ?_)
  refine sops_go rfl (st_move (v := .tup _) rfl rfl rfl ?_)
  first | refine sops_go rfl (st_extract (c := .d _) rfl rfl rfl rfl ?_) | refine sops_go rfl (st_extract (c := .agg _) rfl rfl rfl rfl ?_)
  refine sops_go rfl (st_extract (c := .d _) rfl rfl rfl rfl ?_)
  refine sops_go rfl (so_alloc (cs := [_, _, _]) rfl rfl rfl rfl ?_)
  refine sops_go rfl (so_store rfl rfl rfl rfl rfl rfl rfl rfl rfl (zs := [_, _, _]) rfl ?_)
  refine sops_go rfl (st_assign (v := .d _) rfl rfl rfl ?_)
  refine sops_nil ?_
  refine swp_seq ?_
  refine swp_region ?_
  refine sops_go rfl (st_move (v := .d _) rfl rfl rfl ?_)
  refine sops_go rfl (st_bin rfl rfl rfl rfl rfl ?_)
  refine sops_go rfl (st_move (v := .d _) rfl rfl rfl ?_)
  refine' sops_and (d := 52) (p := 55) [53, 54] 3 rfl rfl rfl (fun hb52 => ?a52) (fun hb52 => ?b52) ?_
  case a52 =>
    refine sops_yes rfl rfl rfl rfl (st_move (v := .d _) rfl rfl rfl ?_)
    refine sops_yes rfl rfl rfl rfl (st_bin rfl rfl rfl rfl rfl ?_)
    refine sops_go rfl (st_pick (v := .d _) rfl rfl rfl rfl ?_)
    refine sops_nil ?_
    exact ⟨rfl, rfl, rfl, rfl, [_, _], rfl, rfl⟩
  case b52 =>
    refine sops_no rfl rfl rfl rfl rfl ?_
    refine sops_no rfl rfl rfl rfl rfl ?_
    refine sops_go rfl (st_pick (v := .d _) rfl rfl rfl rfl ?_)
    refine sops_nil ?_
    exact ⟨rfl, rfl, rfl, rfl, [_, _], rfl, rfl⟩
  refine sops_go rfl (st_move (v := .d _) rfl rfl rfl ?_)
  refine' sops_and (d := 56) (p := 59) [57, 58] 3 rfl rfl rfl (fun hb56 => ?a56) (fun hb56 => ?b56) ?_
  case a56 =>
    refine sops_yes rfl rfl rfl rfl (st_move (v := .d _) rfl rfl rfl ?_)
    refine sops_yes rfl rfl rfl rfl (st_bin rfl rfl rfl rfl rfl ?_)
    refine sops_go rfl (st_pick (v := .d _) rfl rfl rfl rfl ?_)
    refine sops_nil ?_
    exact ⟨rfl, rfl, rfl, rfl, [_, _], rfl, rfl⟩
  case b56 =>
    refine sops_no rfl rfl rfl rfl rfl ?_
    refine sops_no rfl rfl rfl rfl rfl ?_
    refine sops_go rfl (st_pick (v := .d _) rfl rfl rfl rfl ?_)
    refine sops_nil ?_
    exact ⟨rfl, rfl, rfl, rfl, [_, _], rfl, rfl⟩
  refine sops_go rfl (st_move (v := .d _) rfl rfl rfl ?_)
  refine' sops_and (d := 60) (p := 63) [61, 62] 3 rfl rfl rfl (fun hb60 => ?a60) (fun hb60 => ?b60) ?_
  case a60 =>
    refine sops_yes rfl rfl rfl rfl (st_move (v := .d _) rfl rfl rfl ?_)
    refine sops_yes rfl rfl rfl rfl (st_bin rfl rfl rfl rfl rfl ?_)
    refine sops_go rfl (st_pick (v := .d _) rfl rfl rfl rfl ?_)
    refine sops_nil ?_
    exact ⟨rfl, rfl, rfl, rfl, [_, _], rfl, rfl⟩
  case b60 =>
    refine sops_no rfl rfl rfl rfl rfl ?_
    refine sops_no rfl rfl rfl rfl rfl ?_
    refine sops_go rfl (st_pick (v := .d _) rfl rfl rfl rfl ?_)
    refine sops_nil ?_
    exact ⟨rfl, rfl, rfl, rfl, [_, _], rfl, rfl⟩
  refine sops_go rfl (st_move (v := .d _) rfl rfl rfl ?_)
  refine' sops_and (d := 64) (p := 67) [65, 66] 3 rfl rfl rfl (fun hb64 => ?a64) (fun hb64 => ?b64) ?_
  case a64 =>
    refine sops_yes rfl rfl rfl rfl (st_move (v := .d _) rfl rfl rfl ?_)
    refine sops_yes rfl rfl rfl rfl (st_bin rfl rfl rfl rfl rfl ?_)
    refine sops_go rfl (st_pick (v := .d _) rfl rfl rfl rfl ?_)
    refine sops_nil ?_
    exact ⟨rfl, rfl, rfl, rfl, [_, _], rfl, rfl⟩
  case b64 =>
    refine sops_no rfl rfl rfl rfl rfl ?_
    refine sops_no rfl rfl rfl rfl rfl ?_
    refine sops_go rfl (st_pick (v := .d _) rfl rfl rfl rfl ?_)
    refine sops_nil ?_
    exact ⟨rfl, rfl, rfl, rfl, [_, _], rfl, rfl⟩
  refine sops_go rfl (st_move (v := .d _) rfl rfl rfl ?_)
  refine' sops_and (d := 68) (p := 70) [69] 2 rfl rfl rfl (fun hb68 => ?a68) (fun hb68 => ?b68) ?_
  case a68 =>
    refine sops_yes rfl rfl rfl rfl (st_move (v := .d _) rfl rfl rfl ?_)
    refine sops_go rfl (st_pick (v := .d _) rfl rfl rfl rfl ?_)
    refine sops_nil ?_
    exact ⟨rfl, rfl, rfl, rfl, [_], rfl, rfl⟩
  case b68 =>
    refine sops_no rfl rfl rfl rfl rfl ?_
    refine sops_go rfl (st_pick (v := .d _) rfl rfl rfl rfl ?_)
    refine sops_nil ?_
    exact ⟨rfl, rfl, rfl, rfl, [_], rfl, rfl⟩
  refine sops_go rfl (st_move (v := .d _) rfl rfl rfl ?_)
  refine' sops_and (d := 71) (p := 74) [72, 73] 3 rfl rfl rfl (fun hb71 => ?a71) (fun hb71 => ?b71) ?_
  case a71 =>
    refine sops_yes rfl rfl rfl rfl (st_move (v := .d _) rfl rfl rfl ?_)
    refine sops_yes rfl rfl rfl rfl (st_not rfl rfl rfl ?_)
    refine sops_go rfl (st_pick (v := .d _) rfl rfl rfl rfl ?_)
    refine sops_nil ?_
    exact ⟨rfl, rfl, rfl, rfl, [_, _], rfl, rfl⟩
  case b71 =>
    refine sops_no rfl rfl rfl rfl rfl ?_
    refine sops_no rfl rfl rfl rfl rfl ?_
    refine sops_go rfl (st_pick (v := .d _) rfl rfl rfl rfl ?_)
    refine sops_nil ?_
    exact ⟨rfl, rfl, rfl, rfl, [_, _], rfl, rfl⟩
  refine sops_go rfl (st_move (v := .d _) rfl rfl rfl ?_)
  refine' sops_and (d := 75) (p := 77) [76] 2 rfl rfl rfl (fun hb75 => ?a75) (fun hb75 => ?b75) ?_
  case a75 =>
    refine sops_yes rfl rfl rfl rfl (st_move (v := .d _) rfl rfl rfl ?_)
    refine sops_go rfl (st_pick (v := .d _) rfl rfl rfl rfl ?_)
    refine sops_nil ?_
    exact ⟨rfl, rfl, rfl, rfl, [_], rfl, rfl⟩
  case b75 =>
    refine sops_no rfl rfl rfl rfl rfl ?_
    refine sops_go rfl (st_pick (v := .d _) rfl rfl rfl rfl ?_)
    refine sops_nil ?_
    exact ⟨rfl, rfl, rfl, rfl, [_], rfl, rfl⟩
  refine sops_go rfl (st_move (v := .d _) rfl rfl rfl ?_)
  refine' sops_and (d := 78) (p := 81) [79, 80] 3 rfl rfl rfl (fun hb78 => ?a78) (fun hb78 => ?b78) ?_
  case a78 =>
    refine sops_yes rfl rfl rfl rfl (st_move (v := .d _) rfl rfl rfl ?_)
    refine sops_yes rfl rfl rfl rfl (st_not rfl rfl rfl ?_)
    refine sops_go rfl (st_pick (v := .d _) rfl rfl rfl rfl ?_)
    refine sops_nil ?_
    exact ⟨rfl, rfl, rfl, rfl, [_, _], rfl, rfl⟩
  case b78 =>
    refine sops_no rfl rfl rfl rfl rfl ?_
    refine sops_no rfl rfl rfl rfl rfl ?_
    refine sops_go rfl (st_pick (v := .d _) rfl rfl rfl rfl ?_)
    refine sops_nil ?_
    exact ⟨rfl, rfl, rfl, rfl, [_, _], rfl, rfl⟩
  refine sops_go rfl (st_assign (v := .d _) rfl rfl rfl ?_)
  refine sops_nil ?_
  refine swp_seq ?_
  refine swp_region ?_
  refine sops_go rfl (st_move (v := .d _) rfl rfl rfl ?_)
  refine sops_go rfl (st_move (v := .d _) rfl rfl rfl ?_)
  refine' sops_and (d := 83) (p := 87) [84, 85, 86] 4 rfl rfl rfl (fun hb83 => ?a83) (fun hb83 => ?b83) ?_
  case a83 =>
    first | refine sops_yes rfl rfl rfl rfl (so_fieldAddr (v := .p _ _ _) rfl rfl rfl rfl rfl rfl rfl rfl rfl rfl ?_) | refine sops_yes rfl rfl rfl rfl (so_fieldAddr (v := .dp _ _) rfl rfl rfl rfl rfl rfl rfl rfl rfl rfl ?_) | refine sops_yes rfl rfl rfl rfl (so_fieldAddr (v := .pe _ _ _ _ _) rfl rfl rfl rfl rfl rfl rfl rfl rfl rfl ?_)
    refine sops_yes rfl rfl rfl rfl (so_load (v := .d _) rfl rfl rfl rfl rfl rfl rfl rfl ?_)
    refine sops_yes rfl rfl rfl rfl (st_bin rfl rfl rfl rfl rfl ?_)
    refine sops_go rfl (st_pick (v := .d _) rfl rfl rfl rfl ?_)
    refine sops_nil ?_
    exact ⟨rfl, rfl, rfl, rfl, [_, _, _], rfl, rfl⟩
  case b83 =>
    refine sops_no rfl rfl rfl rfl rfl ?_
    refine sops_no rfl rfl rfl rfl rfl ?_
    refine sops_no rfl rfl rfl rfl rfl ?_
    refine sops_go rfl (st_pick (v := .d _) rfl rfl rfl rfl ?_)
    refine sops_nil ?_
    exact ⟨rfl, rfl, rfl, rfl, [_, _, _], rfl, rfl⟩
  refine sops_go rfl (st_move (v := .d _) rfl rfl rfl ?_)
  refine' sops_and (d := 88) (p := 93) [89, 90, 91, 92] 5 rfl rfl rfl (fun hb88 => ?a88) (fun hb88 => ?b88) ?_
  case a88 =>
    first | refine sops_yes rfl rfl rfl rfl (so_fieldAddr (v := .p _ _ _) rfl rfl rfl rfl rfl rfl rfl rfl rfl rfl ?_) | refine sops_yes rfl rfl rfl rfl (so_fieldAddr (v := .dp _ _) rfl rfl rfl rfl rfl rfl rfl rfl rfl rfl ?_) | refine sops_yes rfl rfl rfl rfl (so_fieldAddr (v := .pe _ _ _ _ _) rfl rfl rfl rfl rfl rfl rfl rfl rfl rfl ?_)
    first | refine sops_yes rfl rfl rfl rfl (so_load (v := .d _) rfl rfl rfl rfl rfl rfl rfl rfl ?_) | refine sops_yes rfl rfl rfl rfl (so_load (v := .own _ _ _ _ _) rfl rfl rfl rfl rfl rfl rfl rfl ?_)
    refine sops_yes rfl rfl rfl rfl (so_lenSl rfl rfl rfl rfl rfl ?_)
    refine sops_yes rfl rfl rfl rfl (st_bin rfl rfl rfl rfl rfl ?_)
    refine sops_go rfl (st_pick (v := .d _) rfl rfl rfl rfl ?_)
    refine sops_nil ?_
    exact ⟨rfl, rfl, rfl, rfl, [_, _, _, _], rfl, rfl⟩
  case b88 =>
    refine sops_no rfl rfl rfl rfl rfl ?_
    refine sops_no rfl rfl rfl rfl rfl ?_
    refine sops_no rfl rfl rfl rfl rfl ?_
    refine sops_no rfl rfl rfl rfl rfl ?_
    refine sops_go rfl (st_pick (v := .d _) rfl rfl rfl rfl ?_)
    refine sops_nil ?_
    exact ⟨rfl, rfl, rfl, rfl, [_, _, _, _], rfl, rfl⟩
  refine sops_go rfl (st_move (v := .d _) rfl rfl rfl ?_)
  refine' sops_and (d := 94) (p := 100) [95, 96, 97, 98, 99] 6 rfl rfl rfl (fun hb94 => ?a94) (fun hb94 => ?b94) ?_
  case a94 =>
    first | refine sops_yes rfl rfl rfl rfl (so_fieldAddr (v := .p _ _ _) rfl rfl rfl rfl rfl rfl rfl rfl rfl rfl ?_) | refine sops_yes rfl rfl rfl rfl (so_fieldAddr (v := .dp _ _) rfl rfl rfl rfl rfl rfl rfl rfl rfl rfl ?_) | refine sops_yes rfl rfl rfl rfl (so_fieldAddr (v := .pe _ _ _ _ _) rfl rfl rfl rfl rfl rfl rfl rfl rfl rfl ?_)
    first | refine sops_yes rfl rfl rfl rfl (so_load (v := .d _) rfl rfl rfl rfl rfl rfl rfl rfl ?_) | refine sops_yes rfl rfl rfl rfl (so_load (v := .own _ _ _ _ _) rfl rfl rfl rfl rfl rfl rfl rfl ?_)
    refine sops_yes rfl rfl rfl rfl (so_indexSl rfl rfl rfl rfl rfl rfl rfl (strRows_all _) (by omega) (by simp [strRows]) rfl ?_)
    refine sops_yes rfl rfl rfl rfl (so_load (v := .d _) rfl rfl rfl rfl rfl rfl rfl rfl ?_)
    refine sops_yes rfl rfl rfl rfl (st_bin rfl rfl rfl rfl rfl ?_)
    refine sops_go rfl (st_pick (v := .d _) rfl rfl rfl rfl ?_)
    refine sops_nil ?_
    exact ⟨rfl, rfl, rfl, rfl, [_, _, _, _, _], rfl, rfl⟩
  case b94 =>
    refine sops_no rfl rfl rfl rfl rfl ?_
    refine sops_no rfl rfl rfl rfl rfl ?_
    refine sops_no rfl rfl rfl rfl rfl ?_
    refine sops_no rfl rfl rfl rfl rfl ?_
    refine sops_no rfl rfl rfl rfl rfl ?_
    refine sops_go rfl (st_pick (v := .d _) rfl rfl rfl rfl ?_)
    refine sops_nil ?_
    exact ⟨rfl, rfl, rfl, rfl, [_, _, _, _, _], rfl, rfl⟩
  refine sops_go rfl (st_move (v := .d _) rfl rfl rfl ?_)
  refine' sops_and (d := 101) (p := 105) [102, 103, 104] 4 rfl rfl rfl (fun hb101 => ?a101) (fun hb101 => ?b101) ?_
  case a101 =>
    first | refine sops_yes rfl rfl rfl rfl (so_build (v := .d (.agg [_, _, _])) rfl rfl rfl rfl rfl rfl rfl ?_) | refine sops_yes rfl rfl rfl rfl (so_build (v := .agg [_, _, _]) rfl rfl rfl rfl rfl rfl rfl ?_)
    refine sops_yes rfl rfl rfl rfl (st_call rfl rfl (c6) ⟨na_dagg ⟨na_d _, na_nil, na_nil, trivial⟩, trivial⟩ rfl ?_)
    refine sops_yes rfl rfl rfl rfl (st_bin rfl rfl rfl rfl rfl ?_)
    refine sops_go rfl (st_pick (v := .d _) rfl rfl rfl rfl ?_)
    refine sops_nil ?_
    exact ⟨rfl, rfl, rfl, rfl, [_, _, _], rfl, rfl⟩
  case b101 =>
    refine sops_no rfl rfl rfl rfl rfl ?_
    refine sops_no rfl rfl rfl rfl rfl ?_
    refine sops_no rfl rfl rfl rfl rfl ?_
    refine sops_go rfl (st_pick (v := .d _) rfl rfl rfl rfl ?_)
    refine sops_nil ?_
    exact ⟨rfl, rfl, rfl, rfl, [_, _, _], rfl, rfl⟩
  refine sops_go rfl (st_move (v := .d _) rfl rfl rfl ?_)
  refine' sops_and (d := 106) (p := 110) [107, 108, 109] 4 rfl rfl rfl (fun hb106 => ?a106) (fun hb106 => ?b106) ?_
  case a106 =>
    refine sops_yes rfl rfl rfl rfl (st_call rfl rfl (plain_pure _) ⟨na_d _, trivial⟩ rfl ?_)
    refine sops_yes rfl rfl rfl rfl (st_call rfl rfl (c7) ⟨na_d _, trivial⟩ rfl ?_)
    refine sops_yes rfl rfl rfl rfl (st_bin rfl rfl rfl rfl rfl ?_)
    refine sops_go rfl (st_pick (v := .d _) rfl rfl rfl rfl ?_)
    refine sops_nil ?_
    exact ⟨rfl, rfl, rfl, rfl, [_, _, _], rfl, rfl⟩
  case b106 =>
    refine sops_no rfl rfl rfl rfl rfl ?_
    refine sops_no rfl rfl rfl rfl rfl ?_
    refine sops_no rfl rfl rfl rfl rfl ?_
    refine sops_go rfl (st_pick (v := .d _) rfl rfl rfl rfl ?_)
    refine sops_nil ?_
    exact ⟨rfl, rfl, rfl, rfl, [_, _, _], rfl, rfl⟩
  refine sops_go rfl (st_assign (v := .d _) rfl rfl rfl ?_)
  refine sops_nil ?_
  refine swp_ret ?_
  exact fin_b rfl rfl (by simp [strRows])
end Go.Proofs.YtdcpnpcmgfmenaaGreatDoor
/-
  Walks: the document's own answer on types: places, depth, size, short. Conditions: none.
-/
set_option linter.unusedVariables false
set_option maxRecDepth 100000
namespace Go.Proofs.YtdcpnpcmgfmenaaGreatDoor
open Go Go.Proofs.YtdcpnpcmgfmenaaGreatDoor.Lg

theorem rplace_pure (s : Bool) (l : List ByteArray) (x : ByteArray) :
    Pure env 49 [.d (.sl s (strRows l)), .d (.v (.string x))] (.d (.v (.int .i64 (firstAt (fun y => y.toList == x.toList) l 0)))) := by
  refine pure_of_body Tryz.func49 rfl rfl rfl fun B hB => ?_
  refine swp_lenT (i := 0) rfl fun hlen => ?_
  rw [strRows_len] at hlen
  refine swp_seq ?_
  refine swp_region ?_
  refine sops_go rfl (st_assign (v := .d _) rfl rfl rfl ?_)
  refine sops_nil ?_
  refine swp_seq ?_
  refine swp_seq ?_
  refine swp_region ?_
  refine sops_go rfl (st_assign (v := .d _) rfl rfl rfl ?_)
  refine sops_nil ?_
  refine swp_block ?_
  refine swp_loopF (F := fun k : Nat => { t := upd (upd (upd (fun _ => .any) 0 (.d (.sl s (strRows l)))) 1 (.d (.v (.string x)))) 5 (.d (.v (.int .i64 k))), n := 19, h := fun _ => .dead, nx := 0 })
    (fun k => k ≤ l.length ∧ (l.take k).any (fun y => y.toList == x.toList) = false) (fun k => l.length - k) 0 ⟨Nat.zero_le _, rfl⟩ ?_ ?_
  · refine wk_of rfl (Nat.le_of_ble_eq_true rfl) (by rw [hB]; exact Nat.zero_le _) (tle_upd (le_eq rfl rfl) (tle_upd (le_eq rfl rfl) (tle_upd (le_eq rfl rfl) (tle_any _)))) (hle_dead _) (dead_none)
  rintro k ⟨hk, ha⟩
  refine swp_seq ?_
  refine swp_seq ?_
  refine swp_region ?_
  refine sops_go rfl (st_move (v := .d _) rfl rfl rfl ?_)
  first | refine sops_go rfl (st_move (v := .d _) rfl rfl rfl ?_) | refine sops_go rfl (st_move (v := .own _ _ _ _ _) rfl rfl rfl ?_)
  refine sops_go rfl (so_lenSl rfl rfl rfl rfl rfl ?_)
  refine sops_go rfl (st_bin rfl rfl rfl rfl rfl ?_)
  refine sops_nil ?_
  refine swp_cond _ rfl (fun hc9 => ?_) (fun hc9 => ?_)
  · have hlt : k < l.length := by have := of_decide_eq_true hc9; rw [strRows_len] at this; omega
    have hat := any_take (fun y => y.toList == x.toList) l k hlt
    have hfi := firstAt_take (fun y => y.toList == x.toList) l k 0 ha hlt
    refine swp_skip ?_
    refine swp_seq ?_
    refine swp_block ?_
    refine swp_seq ?_
    refine swp_region ?_
    first | refine sops_go rfl (st_move (v := .d _) rfl rfl rfl ?_) | refine sops_go rfl (st_move (v := .own _ _ _ _ _) rfl rfl rfl ?_)
    refine sops_go rfl (st_move (v := .d _) rfl rfl rfl ?_)
    refine sops_go rfl (so_indexSl rfl rfl rfl rfl rfl rfl rfl (strRows_all _) (by omega) (by rw [strRows_len]; omega) (strRows_get _ _ hlt) ?_)
    refine sops_go rfl (so_load (v := .d _) rfl rfl rfl rfl rfl rfl rfl rfl ?_)
    refine sops_go rfl (st_move (v := .d _) rfl rfl rfl ?_)
    refine sops_go rfl (st_bin rfl rfl rfl rfl rfl ?_)
    refine sops_nil ?_
    refine swp_cond _ rfl (fun hc17 => ?_) (fun hc17 => ?_)
    · refine swp_seq ?_
      refine swp_region ?_
      refine sops_go rfl (st_move (v := .d _) rfl rfl rfl ?_)
      refine sops_go rfl (st_assign (v := .d _) rfl rfl rfl ?_)
      refine sops_nil ?_
      refine swp_ret ?_
      with_reducible refine inblk_ret ?_
      with_reducible refine after_ret ?_
      with_reducible refine after_ret ?_
      with_reducible refine inblk_ret ?_
      with_reducible refine after_ret ?_
      exact fin_i rfl rfl (by rw [hfi hc17, Int.zero_add])
    · refine swp_skip ?_
      refine swp_region ?_
      refine sops_go rfl (st_move (v := .d _) rfl rfl rfl ?_)
      refine sops_go rfl (st_bin rfl rfl rfl rfl rfl ?_)
      refine sops_go rfl (st_assign (v := .d _) rfl rfl rfl ?_)
      refine sops_nil ?_
      refine ⟨k + 1, ⟨hlt, by rw [hat, ha]; exact hc17⟩, by omega, ?_⟩
      refine wk_of rfl (Nat.le_of_ble_eq_true rfl) (by rw [hB]; exact Nat.zero_le _) (tle_upd (le_eq (next_i64 hlt hlen) rfl) (tle_upd (le_eq rfl rfl) (tle_upd (le_eq rfl rfl) (tle_any _)))) (hle_dead _) (dead_none)
  · have he : k = l.length := by have := of_decide_eq_false hc9; rw [strRows_len] at this; omega
    rw [he, List.take_length] at ha
    refine swp_exit ?_
    with_reducible refine after_exit ?_
    with_reducible refine after_exit ?_
    refine inblk_hit ?_
    refine swp_seq ?_
    refine swp_region ?_
    refine sops_go rfl (st_assign (v := .d _) rfl rfl rfl ?_)
    refine sops_nil ?_
    refine swp_ret ?_
    exact fin_i rfl rfl (firstAt_none _ l 0 ha)

theorem rdepth_pure (t : T) : ∀ s, Pure env 30 [.d (t.df s)] (.d (.v (.int .i64 t.span.deep))) := by
  revert t
  apply T.ind
  intro kind names list ih s
  let a : Nat → Sp := fun k => T.spanF (list.take k) ⟨0, 1, shortRows names list.length⟩
  have hS : (T.mk kind names list).span.deep = IntKind.i64.wrap ((a list.length).deep + 1) := by
    show _ = IntKind.i64.wrap ((T.spanF (list.take list.length) _).deep + 1)
    rw [List.take_length, T.span]
  refine pure_of_body Tryz.func30 rfl rfl rfl fun B hB => ?_
  refine swp_seq ?_
  refine swp_region ?_
  refine sops_go rfl (so_box (cs := [_, _, _]) rfl rfl rfl ?_)
  refine sops_go rfl (st_assign (v := .d _) rfl rfl rfl ?_)
  refine sops_nil ?_
  refine swp_seq ?_
  refine swp_region ?_
  refine sops_go rfl (st_assign (v := .d _) rfl rfl rfl ?_)
  refine sops_nil ?_
  refine swp_seq ?_
  refine swp_seq ?_
  refine swp_region ?_
  refine sops_go rfl (st_assign (v := .d _) rfl rfl rfl ?_)
  refine sops_nil ?_
  refine swp_block ?_
  refine swp_len (l := 0) (i := 2) rfl rfl rfl fun hll => ?_
  rw [T.rows_len] at hll
  refine swp_loopF (F := fun k : Nat => { t := upd (upd (upd (fun _ => .any) 1 (.p 0 0 0)) 3 (.d (.v (.int .i64 (a k).deep)))) 4 (.d (.v (.int .i64 k))), n := 22, h := upd (fun _ => .dead) 0 (.cells [.any, .any, .d (.sl s (T.rows list))]), nx := 1 })
    (fun k => k ≤ list.length) (fun k => list.length - k) 0 (Nat.zero_le _) ?_ ?_
  · refine wk_of rfl (Nat.le_of_ble_eq_true rfl) (by rw [hB]; exact Nat.zero_le _) (tle_upd (le_eq rfl rfl) (tle_upd (le_eq rfl rfl) (tle_upd (le_eq rfl rfl) (tle_any _)))) (hle_upd (.cells _ _ ⟨le_any _, le_any _, le_eq rfl rfl, trivial⟩) (hle_dead _)) (dead_upd (Nat.le_of_ble_eq_true rfl) (dead_none))
  intro k hk
  have hk : k ≤ list.length := hk
  refine swp_seq ?_
  refine swp_seq ?_
  refine swp_region ?_
  refine sops_go rfl (st_move (v := .d _) rfl rfl rfl ?_)
  first | refine sops_go rfl (so_fieldAddr (v := .p _ _ _) rfl rfl rfl rfl rfl rfl rfl rfl rfl rfl ?_) | refine sops_go rfl (so_fieldAddr (v := .dp _ _) rfl rfl rfl rfl rfl rfl rfl rfl rfl rfl ?_) | refine sops_go rfl (so_fieldAddr (v := .pe _ _ _ _ _) rfl rfl rfl rfl rfl rfl rfl rfl rfl rfl ?_)
  first | refine sops_go rfl (so_load (v := .d _) rfl rfl rfl rfl rfl rfl rfl rfl ?_) | refine sops_go rfl (so_load (v := .own _ _ _ _ _) rfl rfl rfl rfl rfl rfl rfl rfl ?_)
  refine sops_go rfl (so_lenSl rfl rfl rfl rfl rfl ?_)
  refine sops_go rfl (st_bin rfl rfl rfl rfl rfl ?_)
  refine sops_nil ?_
  refine swp_cond _ rfl (fun hc9 => ?_) (fun hc9 => ?_)
  · have hlt : k < list.length := by have := of_decide_eq_true hc9; rw [T.rows_len] at this; omega
    have ihk := ih _ (List.getElem_mem hlt) true
    have hak := T.spanF_take list ⟨0, 1, shortRows names list.length⟩ k hlt
    refine swp_skip ?_
    refine swp_seq ?_
    refine swp_block ?_
    refine swp_region ?_
    refine sops_go rfl (st_move (v := .d _) rfl rfl rfl ?_)
    first | refine sops_go rfl (so_fieldAddr (v := .p _ _ _) rfl rfl rfl rfl rfl rfl rfl rfl rfl rfl ?_) | refine sops_go rfl (so_fieldAddr (v := .dp _ _) rfl rfl rfl rfl rfl rfl rfl rfl rfl rfl ?_) | refine sops_go rfl (so_fieldAddr (v := .pe _ _ _ _ _) rfl rfl rfl rfl rfl rfl rfl rfl rfl rfl ?_)
    first | refine sops_go rfl (so_load (v := .d _) rfl rfl rfl rfl rfl rfl rfl rfl ?_) | refine sops_go rfl (so_load (v := .own _ _ _ _ _) rfl rfl rfl rfl rfl rfl rfl rfl ?_)
    refine sops_go rfl (st_move (v := .d _) rfl rfl rfl ?_)
    refine sops_go rfl (so_indexSl rfl rfl rfl rfl rfl rfl rfl (T.rows_all _) (by omega) (by rw [T.rows_len]; omega) (T.rows_get _ _ hlt) ?_)
    generalize list[k] = x at ihk hak ⊢
    obtain ⟨x1, x2, x3⟩ := x
    first | refine sops_go rfl (so_load (v := .d (.agg [_, _, _])) rfl rfl rfl rfl rfl rfl rfl rfl ?_) | refine sops_go rfl (so_load (v := .agg [_, _, _]) rfl rfl rfl rfl rfl rfl rfl rfl ?_)
    refine sops_go rfl (st_call rfl rfl (ihk) ⟨na_d _, trivial⟩ rfl ?_)
    refine sops_go rfl (so_max rfl rfl rfl rfl rfl ?_)
    refine sops_go rfl (st_assign (v := .d _) rfl rfl rfl ?_)
    refine sops_nil ?_
    refine swp_region ?_
    refine sops_go rfl (st_move (v := .d _) rfl rfl rfl ?_)
    refine sops_go rfl (st_bin rfl rfl rfl rfl rfl ?_)
    refine sops_go rfl (st_assign (v := .d _) rfl rfl rfl ?_)
    refine sops_nil ?_
    have e : (a (k + 1)).deep = max (a k).deep (T.mk x1 x2 x3).span.deep := by
      show (T.spanF (list.take (k + 1)) _).deep = _
      rw [hak]; rfl
    refine ⟨k + 1, hlt, by omega, ?_⟩
    simp only [e]
    refine wk_of rfl (Nat.le_of_ble_eq_true rfl) (by rw [hB]; exact Nat.zero_le _) (tle_upd (le_eq (next_i64 hlt hll) rfl) (tle_upd (le_eq rfl rfl) (tle_upd (le_eq rfl rfl) (tle_any _)))) (hle_upd (.cells _ _ ⟨le_any _, le_any _, le_eq rfl rfl, trivial⟩) (hle_dead _)) (dead_upd (Nat.le_of_ble_eq_true rfl) (dead_none))
  · have he : k = list.length := by have := of_decide_eq_false hc9; rw [T.rows_len] at this; omega
    refine swp_exit ?_
    with_reducible refine after_exit ?_
    with_reducible refine after_exit ?_
    refine inblk_hit ?_
    refine swp_seq ?_
    refine swp_region ?_
    refine sops_go rfl (st_move (v := .d _) rfl rfl rfl ?_)
    refine sops_go rfl (st_bin rfl rfl rfl rfl rfl ?_)
    refine sops_go rfl (st_assign (v := .d _) rfl rfl rfl ?_)
    refine sops_nil ?_
    refine swp_ret ?_
    exact fin_i rfl rfl (by rw [hS, he])

theorem rsize_pure (t : T) : ∀ s, Pure env 31 [.d (t.df s)] (.d (.v (.int .i64 t.span.many))) := by
  revert t
  apply T.ind
  intro kind names list ih s
  let a : Nat → Sp := fun k => T.spanF (list.take k) ⟨0, 1, shortRows names list.length⟩
  have hS : (T.mk kind names list).span.many = (a list.length).many := by
    show _ = (T.spanF (list.take list.length) _).many
    rw [List.take_length, T.span]
  refine pure_of_body Tryz.func31 rfl rfl rfl fun B hB => ?_
  refine swp_seq ?_
  refine swp_region ?_
  refine sops_go rfl (so_box (cs := [_, _, _]) rfl rfl rfl ?_)
  refine sops_go rfl (st_assign (v := .d _) rfl rfl rfl ?_)
  refine sops_nil ?_
  refine swp_seq ?_
  refine swp_region ?_
  refine sops_go rfl (st_assign (v := .d _) rfl rfl rfl ?_)
  refine sops_nil ?_
  refine swp_seq ?_
  refine swp_seq ?_
  refine swp_region ?_
  refine sops_go rfl (st_assign (v := .d _) rfl rfl rfl ?_)
  refine sops_nil ?_
  refine swp_block ?_
  refine swp_len (l := 0) (i := 2) rfl rfl rfl fun hll => ?_
  rw [T.rows_len] at hll
  refine swp_loopF (F := fun k : Nat => { t := upd (upd (upd (fun _ => .any) 1 (.p 0 0 0)) 3 (.d (.v (.int .i64 (a k).many)))) 4 (.d (.v (.int .i64 k))), n := 21, h := upd (fun _ => .dead) 0 (.cells [.any, .any, .d (.sl s (T.rows list))]), nx := 1 })
    (fun k => k ≤ list.length) (fun k => list.length - k) 0 (Nat.zero_le _) ?_ ?_
  · refine wk_of rfl (Nat.le_of_ble_eq_true rfl) (by rw [hB]; exact Nat.zero_le _) (tle_upd (le_eq rfl rfl) (tle_upd (le_eq rfl rfl) (tle_upd (le_eq rfl rfl) (tle_any _)))) (hle_upd (.cells _ _ ⟨le_any _, le_any _, le_eq rfl rfl, trivial⟩) (hle_dead _)) (dead_upd (Nat.le_of_ble_eq_true rfl) (dead_none))
  intro k hk
  have hk : k ≤ list.length := hk
  refine swp_seq ?_
  refine swp_seq ?_
  refine swp_region ?_
  refine sops_go rfl (st_move (v := .d _) rfl rfl rfl ?_)
  first | refine sops_go rfl (so_fieldAddr (v := .p _ _ _) rfl rfl rfl rfl rfl rfl rfl rfl rfl rfl ?_) | refine sops_go rfl (so_fieldAddr (v := .dp _ _) rfl rfl rfl rfl rfl rfl rfl rfl rfl rfl ?_) | refine sops_go rfl (so_fieldAddr (v := .pe _ _ _ _ _) rfl rfl rfl rfl rfl rfl rfl rfl rfl rfl ?_)
  first | refine sops_go rfl (so_load (v := .d _) rfl rfl rfl rfl rfl rfl rfl rfl ?_) | refine sops_go rfl (so_load (v := .own _ _ _ _ _) rfl rfl rfl rfl rfl rfl rfl rfl ?_)
  refine sops_go rfl (so_lenSl rfl rfl rfl rfl rfl ?_)
  refine sops_go rfl (st_bin rfl rfl rfl rfl rfl ?_)
  refine sops_nil ?_
  refine swp_cond _ rfl (fun hc9 => ?_) (fun hc9 => ?_)
  · have hlt : k < list.length := by have := of_decide_eq_true hc9; rw [T.rows_len] at this; omega
    have ihk := ih _ (List.getElem_mem hlt) true
    have hak := T.spanF_take list ⟨0, 1, shortRows names list.length⟩ k hlt
    refine swp_skip ?_
    refine swp_seq ?_
    refine swp_block ?_
    refine swp_region ?_
    refine sops_go rfl (st_move (v := .d _) rfl rfl rfl ?_)
    first | refine sops_go rfl (so_fieldAddr (v := .p _ _ _) rfl rfl rfl rfl rfl rfl rfl rfl rfl rfl ?_) | refine sops_go rfl (so_fieldAddr (v := .dp _ _) rfl rfl rfl rfl rfl rfl rfl rfl rfl rfl ?_) | refine sops_go rfl (so_fieldAddr (v := .pe _ _ _ _ _) rfl rfl rfl rfl rfl rfl rfl rfl rfl rfl ?_)
    first | refine sops_go rfl (so_load (v := .d _) rfl rfl rfl rfl rfl rfl rfl rfl ?_) | refine sops_go rfl (so_load (v := .own _ _ _ _ _) rfl rfl rfl rfl rfl rfl rfl rfl ?_)
    refine sops_go rfl (st_move (v := .d _) rfl rfl rfl ?_)
    refine sops_go rfl (so_indexSl rfl rfl rfl rfl rfl rfl rfl (T.rows_all _) (by omega) (by rw [T.rows_len]; omega) (T.rows_get _ _ hlt) ?_)
    generalize list[k] = x at ihk hak ⊢
    obtain ⟨x1, x2, x3⟩ := x
    first | refine sops_go rfl (so_load (v := .d (.agg [_, _, _])) rfl rfl rfl rfl rfl rfl rfl rfl ?_) | refine sops_go rfl (so_load (v := .agg [_, _, _]) rfl rfl rfl rfl rfl rfl rfl rfl ?_)
    refine sops_go rfl (st_call rfl rfl (ihk) ⟨na_d _, trivial⟩ rfl ?_)
    refine sops_go rfl (st_bin rfl rfl rfl rfl rfl ?_)
    refine sops_go rfl (st_assign (v := .d _) rfl rfl rfl ?_)
    refine sops_nil ?_
    refine swp_region ?_
    refine sops_go rfl (st_move (v := .d _) rfl rfl rfl ?_)
    refine sops_go rfl (st_bin rfl rfl rfl rfl rfl ?_)
    refine sops_go rfl (st_assign (v := .d _) rfl rfl rfl ?_)
    refine sops_nil ?_
    have e : (a (k + 1)).many = IntKind.i64.wrap ((a k).many + (T.mk x1 x2 x3).span.many) := by
      show (T.spanF (list.take (k + 1)) _).many = _
      rw [hak]; rfl
    refine ⟨k + 1, hlt, by omega, ?_⟩
    simp only [e]
    refine wk_of rfl (Nat.le_of_ble_eq_true rfl) (by rw [hB]; exact Nat.zero_le _) (tle_upd (le_eq (next_i64 hlt hll) rfl) (tle_upd (le_eq rfl rfl) (tle_upd (le_eq rfl rfl) (tle_any _)))) (hle_upd (.cells _ _ ⟨le_any _, le_any _, le_eq rfl rfl, trivial⟩) (hle_dead _)) (dead_upd (Nat.le_of_ble_eq_true rfl) (dead_none))
  · have he : k = list.length := by have := of_decide_eq_false hc9; rw [T.rows_len] at this; omega
    refine swp_exit ?_
    with_reducible refine after_exit ?_
    with_reducible refine after_exit ?_
    refine inblk_hit ?_
    refine swp_seq ?_
    refine swp_region ?_
    refine sops_go rfl (st_move (v := .d _) rfl rfl rfl ?_)
    refine sops_go rfl (st_assign (v := .d _) rfl rfl rfl ?_)
    refine sops_nil ?_
    refine swp_ret ?_
    exact fin_i rfl rfl (by rw [hS, he])

theorem rshort_pure (t : T) : ∀ s, Pure env 29 [.d (t.df s)] (.d (.v (.bool t.span.ok))) := by
  revert t
  apply T.ind
  intro kind names list ih s
  have hS : (T.mk kind names list).span.ok = ((decide ((list.length : Int) ≤ 256) && !(names.any fun s => decide ((s.size : Int) > 64))) && list.all fun x => x.span.ok) := by
    rw [T.span]; simp only [T.spanF_ok]; rfl
  refine pure_of_body Tryz.func29 rfl rfl rfl fun B hB => ?_
  refine swp_seq ?_
  refine swp_region ?_
  refine sops_go rfl (so_box (cs := [_, _, _]) rfl rfl rfl ?_)
  refine sops_go rfl (st_assign (v := .d _) rfl rfl rfl ?_)
  refine sops_nil ?_
  refine swp_seq ?_
  refine swp_seq ?_
  refine swp_region ?_
  first | refine sops_go rfl (so_fieldAddr (v := .p _ _ _) rfl rfl rfl rfl rfl rfl rfl rfl rfl rfl ?_) | refine sops_go rfl (so_fieldAddr (v := .dp _ _) rfl rfl rfl rfl rfl rfl rfl rfl rfl rfl ?_) | refine sops_go rfl (so_fieldAddr (v := .pe _ _ _ _ _) rfl rfl rfl rfl rfl rfl rfl rfl rfl rfl ?_)
  first | refine sops_go rfl (so_load (v := .d _) rfl rfl rfl rfl rfl rfl rfl rfl ?_) | refine sops_go rfl (so_load (v := .own _ _ _ _ _) rfl rfl rfl rfl rfl rfl rfl rfl ?_)
  refine sops_go rfl (so_lenSl rfl rfl rfl rfl rfl ?_)
  refine sops_go rfl (st_bin rfl rfl rfl rfl rfl ?_)
  refine sops_nil ?_
  refine swp_cond _ rfl (fun hc8 => ?_) (fun hc8 => ?_)
  · have h1 : decide ((list.length : Int) ≤ 256) = false := by have := of_decide_eq_true hc8; rw [T.rows_len] at this; simp; omega
    rw [h1] at hS
    refine swp_seq ?_
    refine swp_region ?_
    refine sops_go rfl (st_assign (v := .d _) rfl rfl rfl ?_)
    refine sops_nil ?_
    refine swp_ret ?_
    with_reducible refine after_ret ?_
    exact fin_b rfl rfl hS
  · have h1 : decide ((list.length : Int) ≤ 256) = true := by have := of_decide_eq_false hc8; rw [T.rows_len] at this; simp; omega
    rw [h1, Bool.true_and] at hS
    refine swp_skip ?_
    refine swp_seq ?_
    refine swp_seq ?_
    refine swp_region ?_
    refine sops_go rfl (st_assign (v := .d _) rfl rfl rfl ?_)
    refine sops_nil ?_
    refine swp_block ?_
    refine swp_len (l := 0) (i := 2) rfl rfl rfl fun hll => ?_
    rw [T.rows_len] at hll
    refine swp_len (l := 0) (i := 1) rfl rfl rfl fun hnl => ?_
    rw [strRows_len] at hnl
    refine swp_loopF (F := fun k : Nat => { t := upd (upd (fun _ => .any) 1 (.p 0 0 0)) 3 (.d (.v (.int .i64 k))), n := 37, h := upd (fun _ => .dead) 0 (.cells [.any, .d (.sl s (strRows names)), .d (.sl s (T.rows list))]), nx := 1 })
      (fun k => k ≤ names.length ∧ (names.take k).any (fun s => decide ((s.size : Int) > 64)) = false) (fun k => names.length - k) 0 ⟨Nat.zero_le _, rfl⟩ ?_ ?_
    · refine wk_of rfl (Nat.le_of_ble_eq_true rfl) (by rw [hB]; exact Nat.zero_le _) (tle_upd (le_eq rfl rfl) (tle_upd (le_eq rfl rfl) (tle_any _))) (hle_upd (.cells _ _ ⟨le_any _, le_eq rfl rfl, le_eq rfl rfl, trivial⟩) (hle_dead _)) (dead_upd (Nat.le_of_ble_eq_true rfl) (dead_none))
    rintro k ⟨hk, ha⟩
    refine swp_seq ?_
    refine swp_seq ?_
    refine swp_region ?_
    refine sops_go rfl (st_move (v := .d _) rfl rfl rfl ?_)
    first | refine sops_go rfl (so_fieldAddr (v := .p _ _ _) rfl rfl rfl rfl rfl rfl rfl rfl rfl rfl ?_) | refine sops_go rfl (so_fieldAddr (v := .dp _ _) rfl rfl rfl rfl rfl rfl rfl rfl rfl rfl ?_) | refine sops_go rfl (so_fieldAddr (v := .pe _ _ _ _ _) rfl rfl rfl rfl rfl rfl rfl rfl rfl rfl ?_)
    first | refine sops_go rfl (so_load (v := .d _) rfl rfl rfl rfl rfl rfl rfl rfl ?_) | refine sops_go rfl (so_load (v := .own _ _ _ _ _) rfl rfl rfl rfl rfl rfl rfl rfl ?_)
    refine sops_go rfl (so_lenSl rfl rfl rfl rfl rfl ?_)
    refine sops_go rfl (st_bin rfl rfl rfl rfl rfl ?_)
    refine sops_nil ?_
    refine swp_cond _ rfl (fun hc13 => ?_) (fun hc13 => ?_)
    · have hlt : k < names.length := by have := of_decide_eq_true hc13; rw [strRows_len] at this; omega
      have hat := any_take (fun s : ByteArray => decide ((s.size : Int) > 64)) names k hlt
      have hge := any_get (fun s : ByteArray => decide ((s.size : Int) > 64)) names k hlt
      refine swp_skip ?_
      refine swp_seq ?_
      refine swp_block ?_
      refine swp_seq ?_
      refine swp_region ?_
      first | refine sops_go rfl (so_fieldAddr (v := .p _ _ _) rfl rfl rfl rfl rfl rfl rfl rfl rfl rfl ?_) | refine sops_go rfl (so_fieldAddr (v := .dp _ _) rfl rfl rfl rfl rfl rfl rfl rfl rfl rfl ?_) | refine sops_go rfl (so_fieldAddr (v := .pe _ _ _ _ _) rfl rfl rfl rfl rfl rfl rfl rfl rfl rfl ?_)
      first | refine sops_go rfl (so_load (v := .d _) rfl rfl rfl rfl rfl rfl rfl rfl ?_) | refine sops_go rfl (so_load (v := .own _ _ _ _ _) rfl rfl rfl rfl rfl rfl rfl rfl ?_)
      refine sops_go rfl (st_move (v := .d _) rfl rfl rfl ?_)
      refine sops_go rfl (so_indexSl rfl rfl rfl rfl rfl rfl rfl (strRows_all _) (by omega) (by rw [strRows_len]; omega) (strRows_get _ _ hlt) ?_)
      refine sops_go rfl (so_load (v := .d _) rfl rfl rfl rfl rfl rfl rfl rfl ?_)
      refine sops_go rfl (so_lenStr rfl rfl rfl rfl rfl ?_)
      refine sops_go rfl (st_bin rfl rfl rfl rfl rfl ?_)
      refine sops_nil ?_
      refine swp_cond _ rfl (fun hc22 => ?_) (fun hc22 => ?_)
      · refine swp_seq ?_
        refine swp_region ?_
        refine sops_go rfl (st_assign (v := .d _) rfl rfl rfl ?_)
        refine sops_nil ?_
        refine swp_ret ?_
        with_reducible refine inblk_ret ?_
        with_reducible refine after_ret ?_
        with_reducible refine after_ret ?_
        with_reducible refine inblk_ret ?_
        with_reducible refine after_ret ?_
        exact fin_b rfl rfl (by rw [hS, hge hc22]; rfl)
      · refine swp_skip ?_
        refine swp_region ?_
        refine sops_go rfl (st_move (v := .d _) rfl rfl rfl ?_)
        refine sops_go rfl (st_bin rfl rfl rfl rfl rfl ?_)
        refine sops_go rfl (st_assign (v := .d _) rfl rfl rfl ?_)
        refine sops_nil ?_
        refine ⟨k + 1, ⟨hlt, by rw [hat, ha]; exact hc22⟩, by omega, ?_⟩
        refine wk_of rfl (Nat.le_of_ble_eq_true rfl) (by rw [hB]; exact Nat.zero_le _) (tle_upd (le_eq (next_i64 hlt hnl) rfl) (tle_upd (le_eq rfl rfl) (tle_any _))) (hle_upd (.cells _ _ ⟨le_any _, le_eq rfl rfl, le_eq rfl rfl, trivial⟩) (hle_dead _)) (dead_upd (Nat.le_of_ble_eq_true rfl) (dead_none))
    · have he : k = names.length := by have := of_decide_eq_false hc13; rw [strRows_len] at this; omega
      rw [he, List.take_length] at ha
      rw [ha] at hS
      have hS : (T.mk kind names list).span.ok = list.all fun x => x.span.ok := hS
      refine swp_exit ?_
      with_reducible refine after_exit ?_
      with_reducible refine after_exit ?_
      refine inblk_hit ?_
      refine swp_seq ?_
      refine swp_seq ?_
      refine swp_region ?_
      refine sops_go rfl (st_assign (v := .d _) rfl rfl rfl ?_)
      refine sops_nil ?_
      refine swp_block ?_
      refine swp_loopF (F := fun k : Nat => { t := upd (upd (fun _ => .any) 1 (.p 0 0 0)) 4 (.d (.v (.int .i64 k))), n := 37, h := upd (fun _ => .dead) 0 (.cells [.any, .any, .d (.sl s (T.rows list))]), nx := 1 })
        (fun k => k ≤ list.length ∧ (list.take k).all (fun x => x.span.ok) = true) (fun k => list.length - k) 0 ⟨Nat.zero_le _, rfl⟩ ?_ ?_
      · refine wk_of rfl (Nat.le_of_ble_eq_true rfl) (by rw [hB]; exact Nat.zero_le _) (tle_upd (le_eq rfl rfl) (tle_upd (le_eq rfl rfl) (tle_any _))) (hle_upd (.cells _ _ ⟨le_any _, le_any _, le_eq rfl rfl, trivial⟩) (hle_dead _)) (dead_upd (Nat.le_of_ble_eq_true rfl) (dead_none))
      rintro j ⟨hj, hb⟩
      refine swp_seq ?_
      refine swp_seq ?_
      refine swp_region ?_
      refine sops_go rfl (st_move (v := .d _) rfl rfl rfl ?_)
      first | refine sops_go rfl (so_fieldAddr (v := .p _ _ _) rfl rfl rfl rfl rfl rfl rfl rfl rfl rfl ?_) | refine sops_go rfl (so_fieldAddr (v := .dp _ _) rfl rfl rfl rfl rfl rfl rfl rfl rfl rfl ?_) | refine sops_go rfl (so_fieldAddr (v := .pe _ _ _ _ _) rfl rfl rfl rfl rfl rfl rfl rfl rfl rfl ?_)
      first | refine sops_go rfl (so_load (v := .d _) rfl rfl rfl rfl rfl rfl rfl rfl ?_) | refine sops_go rfl (so_load (v := .own _ _ _ _ _) rfl rfl rfl rfl rfl rfl rfl rfl ?_)
      refine sops_go rfl (so_lenSl rfl rfl rfl rfl rfl ?_)
      refine sops_go rfl (st_bin rfl rfl rfl rfl rfl ?_)
      refine sops_nil ?_
      refine swp_cond _ rfl (fun hc27 => ?_) (fun hc27 => ?_)
      · have hlt : j < list.length := by have := of_decide_eq_true hc27; rw [T.rows_len] at this; omega
        have hat := all_take (fun x : T => x.span.ok) list j hlt
        have ihk := ih _ (List.getElem_mem hlt) true
        have hmem := List.getElem_mem hlt
        refine swp_skip ?_
        refine swp_seq ?_
        refine swp_block ?_
        refine swp_seq ?_
        refine swp_region ?_
        first | refine sops_go rfl (so_fieldAddr (v := .p _ _ _) rfl rfl rfl rfl rfl rfl rfl rfl rfl rfl ?_) | refine sops_go rfl (so_fieldAddr (v := .dp _ _) rfl rfl rfl rfl rfl rfl rfl rfl rfl rfl ?_) | refine sops_go rfl (so_fieldAddr (v := .pe _ _ _ _ _) rfl rfl rfl rfl rfl rfl rfl rfl rfl rfl ?_)
        first | refine sops_go rfl (so_load (v := .d _) rfl rfl rfl rfl rfl rfl rfl rfl ?_) | refine sops_go rfl (so_load (v := .own _ _ _ _ _) rfl rfl rfl rfl rfl rfl rfl rfl ?_)
        refine sops_go rfl (st_move (v := .d _) rfl rfl rfl ?_)
        refine sops_go rfl (so_indexSl rfl rfl rfl rfl rfl rfl rfl (T.rows_all _) (by omega) (by rw [T.rows_len]; omega) (T.rows_get _ _ hlt) ?_)
        generalize list[j] = x at ihk hat hmem ⊢
        obtain ⟨x1, x2, x3⟩ := x
        first | refine sops_go rfl (so_load (v := .d (.agg [_, _, _])) rfl rfl rfl rfl rfl rfl rfl rfl ?_) | refine sops_go rfl (so_load (v := .agg [_, _, _]) rfl rfl rfl rfl rfl rfl rfl rfl ?_)
        refine sops_go rfl (st_call rfl rfl (ihk) ⟨na_d _, trivial⟩ rfl ?_)
        refine sops_go rfl (st_not rfl rfl rfl ?_)
        refine sops_nil ?_
        refine swp_cond _ rfl (fun hc36 => ?_) (fun hc36 => ?_)
        · refine swp_seq ?_
          refine swp_region ?_
          refine sops_go rfl (st_assign (v := .d _) rfl rfl rfl ?_)
          refine sops_nil ?_
          refine swp_ret ?_
          with_reducible refine inblk_ret ?_
          with_reducible refine after_ret ?_
          with_reducible refine after_ret ?_
          with_reducible refine inblk_ret ?_
          with_reducible refine after_ret ?_
          refine fin_b rfl rfl ?_
          rw [hS]
          refine Bool.eq_false_iff.2 fun h => ?_
          have := List.all_eq_true.1 h _ hmem
          rw [this] at hc36
          cases hc36
        · refine swp_skip ?_
          refine swp_region ?_
          refine sops_go rfl (st_move (v := .d _) rfl rfl rfl ?_)
          refine sops_go rfl (st_bin rfl rfl rfl rfl rfl ?_)
          refine sops_go rfl (st_assign (v := .d _) rfl rfl rfl ?_)
          refine sops_nil ?_
          refine ⟨j + 1, ⟨hlt, by rw [hat, hb]; simpa using hc36⟩, by omega, ?_⟩
          refine wk_of rfl (Nat.le_of_ble_eq_true rfl) (by rw [hB]; exact Nat.zero_le _) (tle_upd (le_eq (next_i64 hlt hll) rfl) (tle_upd (le_eq rfl rfl) (tle_any _))) (hle_upd (.cells _ _ ⟨le_any _, le_any _, le_eq rfl rfl, trivial⟩) (hle_dead _)) (dead_upd (Nat.le_of_ble_eq_true rfl) (dead_none))
      · have he : j = list.length := by have := of_decide_eq_false hc27; rw [T.rows_len] at this; omega
        rw [he, List.take_length] at hb
        refine swp_exit ?_
        with_reducible refine after_exit ?_
        with_reducible refine after_exit ?_
        refine inblk_hit ?_
        refine swp_seq ?_
        refine swp_region ?_
        refine sops_go rfl (st_assign (v := .d _) rfl rfl rfl ?_)
        refine sops_nil ?_
        refine swp_ret ?_
        exact fin_b rfl rfl (by rw [hS, hb])

theorem rsame_pure (t : T) : Pure env 13 [.d t.d, .d t.d] (.d (.v (.bool true))) := by
  revert t
  apply T.ind
  intro kind names list ih
  refine pure_of_body Tryz.func13 rfl rfl rfl fun B hB => ?_
  refine swp_seq ?_
  refine swp_region ?_
  refine sops_go rfl (so_box (cs := [_, _, _]) rfl rfl rfl ?_)
  refine sops_go rfl (so_box (cs := [_, _, _]) rfl rfl rfl ?_)
  refine sops_go rfl (st_assign (v := .d _) rfl rfl rfl ?_)
  refine sops_nil ?_
  refine swp_seq ?_
  refine swp_seq ?_
  refine swp_region ?_
  first | refine sops_go rfl (so_fieldAddr (v := .p _ _ _) rfl rfl rfl rfl rfl rfl rfl rfl rfl rfl ?_) | refine sops_go rfl (so_fieldAddr (v := .dp _ _) rfl rfl rfl rfl rfl rfl rfl rfl rfl rfl ?_) | refine sops_go rfl (so_fieldAddr (v := .pe _ _ _ _ _) rfl rfl rfl rfl rfl rfl rfl rfl rfl rfl ?_)
  refine sops_go rfl (so_load (v := .d _) rfl rfl rfl rfl rfl rfl rfl rfl ?_)
  first | refine sops_go rfl (so_fieldAddr (v := .p _ _ _) rfl rfl rfl rfl rfl rfl rfl rfl rfl rfl ?_) | refine sops_go rfl (so_fieldAddr (v := .dp _ _) rfl rfl rfl rfl rfl rfl rfl rfl rfl rfl ?_) | refine sops_go rfl (so_fieldAddr (v := .pe _ _ _ _ _) rfl rfl rfl rfl rfl rfl rfl rfl rfl rfl ?_)
  refine sops_go rfl (so_load (v := .d _) rfl rfl rfl rfl rfl rfl rfl rfl ?_)
  refine sops_go rfl (st_bin rfl rfl rfl rfl rfl ?_)
  refine sops_go rfl (st_move (v := .d _) rfl rfl rfl ?_)
  refine' sops_or (d := 12) (p := 20) [13, 14, 15, 16, 17, 18, 19] 8 rfl rfl rfl (fun hb12 => ?a12) (fun hb12 => ?b12) ?_
  case a12 =>
    first | refine sops_yes rfl rfl rfl rfl (so_fieldAddr (v := .p _ _ _) rfl rfl rfl rfl rfl rfl rfl rfl rfl rfl ?_) | refine sops_yes rfl rfl rfl rfl (so_fieldAddr (v := .dp _ _) rfl rfl rfl rfl rfl rfl rfl rfl rfl rfl ?_) | refine sops_yes rfl rfl rfl rfl (so_fieldAddr (v := .pe _ _ _ _ _) rfl rfl rfl rfl rfl rfl rfl rfl rfl rfl ?_)
    first | refine sops_yes rfl rfl rfl rfl (so_load (v := .d _) rfl rfl rfl rfl rfl rfl rfl rfl ?_) | refine sops_yes rfl rfl rfl rfl (so_load (v := .own _ _ _ _ _) rfl rfl rfl rfl rfl rfl rfl rfl ?_)
    refine sops_yes rfl rfl rfl rfl (so_lenSl rfl rfl rfl rfl rfl ?_)
    first | refine sops_yes rfl rfl rfl rfl (so_fieldAddr (v := .p _ _ _) rfl rfl rfl rfl rfl rfl rfl rfl rfl rfl ?_) | refine sops_yes rfl rfl rfl rfl (so_fieldAddr (v := .dp _ _) rfl rfl rfl rfl rfl rfl rfl rfl rfl rfl ?_) | refine sops_yes rfl rfl rfl rfl (so_fieldAddr (v := .pe _ _ _ _ _) rfl rfl rfl rfl rfl rfl rfl rfl rfl rfl ?_)
    first | refine sops_yes rfl rfl rfl rfl (so_load (v := .d _) rfl rfl rfl rfl rfl rfl rfl rfl ?_) | refine sops_yes rfl rfl rfl rfl (so_load (v := .own _ _ _ _ _) rfl rfl rfl rfl rfl rfl rfl rfl ?_)
    refine sops_yes rfl rfl rfl rfl (so_lenSl rfl rfl rfl rfl rfl ?_)
    refine sops_yes rfl rfl rfl rfl (st_bin rfl rfl rfl rfl rfl ?_)
    refine sops_go rfl (st_pick (v := .d _) rfl rfl rfl rfl ?_)
    refine sops_nil ?_
    exact ⟨rfl, rfl, rfl, rfl, [_, _, _, _, _, _, _], rfl, rfl⟩
  case b12 =>
    refine sops_no rfl rfl rfl rfl rfl ?_
    refine sops_no rfl rfl rfl rfl rfl ?_
    refine sops_no rfl rfl rfl rfl rfl ?_
    refine sops_no rfl rfl rfl rfl rfl ?_
    refine sops_no rfl rfl rfl rfl rfl ?_
    refine sops_no rfl rfl rfl rfl rfl ?_
    refine sops_no rfl rfl rfl rfl rfl ?_
    refine sops_go rfl (st_pick (v := .d _) rfl rfl rfl rfl ?_)
    refine sops_nil ?_
    exact ⟨rfl, rfl, rfl, rfl, [_, _, _, _, _, _, _], rfl, rfl⟩
  refine sops_go rfl (st_move (v := .d _) rfl rfl rfl ?_)
  refine' sops_or (d := 21) (p := 29) [22, 23, 24, 25, 26, 27, 28] 8 rfl rfl rfl (fun hb21 => ?a21) (fun hb21 => ?b21) ?_
  case a21 =>
    first | refine sops_yes rfl rfl rfl rfl (so_fieldAddr (v := .p _ _ _) rfl rfl rfl rfl rfl rfl rfl rfl rfl rfl ?_) | refine sops_yes rfl rfl rfl rfl (so_fieldAddr (v := .dp _ _) rfl rfl rfl rfl rfl rfl rfl rfl rfl rfl ?_) | refine sops_yes rfl rfl rfl rfl (so_fieldAddr (v := .pe _ _ _ _ _) rfl rfl rfl rfl rfl rfl rfl rfl rfl rfl ?_)
    first | refine sops_yes rfl rfl rfl rfl (so_load (v := .d _) rfl rfl rfl rfl rfl rfl rfl rfl ?_) | refine sops_yes rfl rfl rfl rfl (so_load (v := .own _ _ _ _ _) rfl rfl rfl rfl rfl rfl rfl rfl ?_)
    refine sops_yes rfl rfl rfl rfl (so_lenSl rfl rfl rfl rfl rfl ?_)
    first | refine sops_yes rfl rfl rfl rfl (so_fieldAddr (v := .p _ _ _) rfl rfl rfl rfl rfl rfl rfl rfl rfl rfl ?_) | refine sops_yes rfl rfl rfl rfl (so_fieldAddr (v := .dp _ _) rfl rfl rfl rfl rfl rfl rfl rfl rfl rfl ?_) | refine sops_yes rfl rfl rfl rfl (so_fieldAddr (v := .pe _ _ _ _ _) rfl rfl rfl rfl rfl rfl rfl rfl rfl rfl ?_)
    first | refine sops_yes rfl rfl rfl rfl (so_load (v := .d _) rfl rfl rfl rfl rfl rfl rfl rfl ?_) | refine sops_yes rfl rfl rfl rfl (so_load (v := .own _ _ _ _ _) rfl rfl rfl rfl rfl rfl rfl rfl ?_)
    refine sops_yes rfl rfl rfl rfl (so_lenSl rfl rfl rfl rfl rfl ?_)
    refine sops_yes rfl rfl rfl rfl (st_bin rfl rfl rfl rfl rfl ?_)
    refine sops_go rfl (st_pick (v := .d _) rfl rfl rfl rfl ?_)
    refine sops_nil ?_
    exact ⟨rfl, rfl, rfl, rfl, [_, _, _, _, _, _, _], rfl, rfl⟩
  case b21 =>
    refine sops_no rfl rfl rfl rfl rfl ?_
    refine sops_no rfl rfl rfl rfl rfl ?_
    refine sops_no rfl rfl rfl rfl rfl ?_
    refine sops_no rfl rfl rfl rfl rfl ?_
    refine sops_no rfl rfl rfl rfl rfl ?_
    refine sops_no rfl rfl rfl rfl rfl ?_
    refine sops_no rfl rfl rfl rfl rfl ?_
    refine sops_go rfl (st_pick (v := .d _) rfl rfl rfl rfl ?_)
    refine sops_nil ?_
    exact ⟨rfl, rfl, rfl, rfl, [_, _, _, _, _, _, _], rfl, rfl⟩
  refine sops_nil ?_
  refine swp_cond _ rfl (fun hc29 => ?_) (fun hc29 => ?_)
  · exact absurd hc29 (by simp)
  · refine swp_skip ?_
    refine swp_seq ?_
    refine swp_seq ?_
    refine swp_region ?_
    refine sops_go rfl (st_assign (v := .d _) rfl rfl rfl ?_)
    refine sops_nil ?_
    refine swp_block ?_
    refine swp_len (l := 0) (i := 2) rfl rfl rfl fun hll => ?_
    rw [T.rows_len] at hll
    refine swp_len (l := 0) (i := 1) rfl rfl rfl fun hnl => ?_
    rw [strRows_len] at hnl
    refine swp_loopF (F := fun k : Nat => { t := upd (upd (upd (fun _ => .any) 2 (.p 0 0 0)) 3 (.p 1 0 0)) 5 (.d (.v (.int .i64 k))), n := 67, h := upd (upd (fun _ => .dead) 0 (.cells [.any, .d (.sl true (strRows names)), .d (.sl true (T.rows list))])) 1 (.cells [.any, .d (.sl true (strRows names)), .d (.sl true (T.rows list))]), nx := 2 })
      (fun k => k ≤ names.length) (fun k => names.length - k) 0 (Nat.zero_le _) ?_ ?_
    · refine wk_of rfl (Nat.le_of_ble_eq_true rfl) (by rw [hB]; exact Nat.zero_le _) (tle_upd (le_eq rfl rfl) (tle_upd (le_eq rfl rfl) (tle_upd (le_eq rfl rfl) (tle_any _)))) (hle_upd (.cells _ _ ⟨le_any _, le_eq rfl rfl, le_eq rfl rfl, trivial⟩) (hle_upd (.cells _ _ ⟨le_any _, le_eq rfl rfl, le_eq rfl rfl, trivial⟩) (hle_dead _))) (dead_upd (Nat.le_of_ble_eq_true rfl) (dead_upd (Nat.le_of_ble_eq_true rfl) (dead_none)))
    intro k hk
    have hk : k ≤ names.length := hk
    refine swp_seq ?_
    refine swp_seq ?_
    refine swp_region ?_
    refine sops_go rfl (st_move (v := .d _) rfl rfl rfl ?_)
    first | refine sops_go rfl (so_fieldAddr (v := .p _ _ _) rfl rfl rfl rfl rfl rfl rfl rfl rfl rfl ?_) | refine sops_go rfl (so_fieldAddr (v := .dp _ _) rfl rfl rfl rfl rfl rfl rfl rfl rfl rfl ?_) | refine sops_go rfl (so_fieldAddr (v := .pe _ _ _ _ _) rfl rfl rfl rfl rfl rfl rfl rfl rfl rfl ?_)
    first | refine sops_go rfl (so_load (v := .d _) rfl rfl rfl rfl rfl rfl rfl rfl ?_) | refine sops_go rfl (so_load (v := .own _ _ _ _ _) rfl rfl rfl rfl rfl rfl rfl rfl ?_)
    refine sops_go rfl (so_lenSl rfl rfl rfl rfl rfl ?_)
    refine sops_go rfl (st_bin rfl rfl rfl rfl rfl ?_)
    refine sops_nil ?_
    refine swp_cond _ rfl (fun hc34 => ?_) (fun hc34 => ?_)
    · have hlt : k < names.length := by have := of_decide_eq_true hc34; rw [strRows_len] at this; omega
      refine swp_skip ?_
      refine swp_seq ?_
      refine swp_block ?_
      refine swp_seq ?_
      refine swp_regionQ 10 (by kernel_rfl) rfl rfl rfl ?_
      first | refine h0_go rfl (so_fieldAddr (v := .p _ _ _) rfl rfl rfl rfl rfl rfl rfl rfl rfl rfl ⟨_, rfl, ?_⟩) | refine h0_go rfl (so_fieldAddr (v := .dp _ _) rfl rfl rfl rfl rfl rfl rfl rfl rfl rfl ⟨_, rfl, ?_⟩) | refine h0_go rfl (so_fieldAddr (v := .pe _ _ _ _ _) rfl rfl rfl rfl rfl rfl rfl rfl rfl rfl ⟨_, rfl, ?_⟩)
      first | refine h0_go rfl (so_load (v := .d _) rfl rfl rfl rfl rfl rfl rfl rfl ⟨_, rfl, ?_⟩) | refine h0_go rfl (so_load (v := .own _ _ _ _ _) rfl rfl rfl rfl rfl rfl rfl rfl ⟨_, rfl, ?_⟩)
      refine h0_go rfl (st_move (v := .d _) rfl rfl rfl ⟨_, rfl, ?_⟩)
      refine h0_go rfl (so_indexSl rfl rfl rfl rfl rfl rfl rfl (strRows_all _) (by omega) (by rw [strRows_len]; omega) (strRows_get _ _ hlt) ⟨_, rfl, ?_⟩)
      refine h0_go rfl (so_load (v := .d _) rfl rfl rfl rfl rfl rfl rfl rfl ⟨_, rfl, ?_⟩)
      first | refine h0_go rfl (so_fieldAddr (v := .p _ _ _) rfl rfl rfl rfl rfl rfl rfl rfl rfl rfl ⟨_, rfl, ?_⟩) | refine h0_go rfl (so_fieldAddr (v := .dp _ _) rfl rfl rfl rfl rfl rfl rfl rfl rfl rfl ⟨_, rfl, ?_⟩) | refine h0_go rfl (so_fieldAddr (v := .pe _ _ _ _ _) rfl rfl rfl rfl rfl rfl rfl rfl rfl rfl ⟨_, rfl, ?_⟩)
      first | refine h0_go rfl (so_load (v := .d _) rfl rfl rfl rfl rfl rfl rfl rfl ⟨_, rfl, ?_⟩) | refine h0_go rfl (so_load (v := .own _ _ _ _ _) rfl rfl rfl rfl rfl rfl rfl rfl ⟨_, rfl, ?_⟩)
      refine h0_go rfl (st_move (v := .d _) rfl rfl rfl ⟨_, rfl, ?_⟩)
      refine h0_go rfl (so_indexSl rfl rfl rfl rfl rfl rfl rfl (strRows_all _) (by omega) (by rw [strRows_len]; omega) (strRows_get _ _ hlt) ⟨_, rfl, ?_⟩)
      refine h0_go rfl (so_load (v := .d _) rfl rfl rfl rfl rfl rfl rfl rfl ⟨_, rfl, ?_⟩)
      refine h0_nil ?_
      refine sops_go rfl (st_bin rfl rfl rfl rfl rfl ?_)
      refine sops_nil ?_
      refine swp_cond _ rfl (fun hc47 => ?_) (fun hc47 => ?_)
      · exact absurd hc47 (by simp)
      · refine swp_skip ?_
        refine swp_region ?_
        refine sops_go rfl (st_move (v := .d _) rfl rfl rfl ?_)
        refine sops_go rfl (st_bin rfl rfl rfl rfl rfl ?_)
        refine sops_go rfl (st_assign (v := .d _) rfl rfl rfl ?_)
        refine sops_nil ?_
        refine ⟨k + 1, hlt, by omega, ?_⟩
        refine wk_of rfl (Nat.le_of_ble_eq_true rfl) (by rw [hB]; exact Nat.zero_le _) (tle_upd (le_eq (next_i64 hlt hnl) rfl) (tle_upd (le_eq rfl rfl) (tle_upd (le_eq rfl rfl) (tle_any _)))) (hle_upd (.cells _ _ ⟨le_any _, le_eq rfl rfl, le_eq rfl rfl, trivial⟩) (hle_upd (.cells _ _ ⟨le_any _, le_eq rfl rfl, le_eq rfl rfl, trivial⟩) (hle_dead _))) (dead_upd (Nat.le_of_ble_eq_true rfl) (dead_upd (Nat.le_of_ble_eq_true rfl) (dead_none)))
    · refine swp_exit ?_
      with_reducible refine after_exit ?_
      with_reducible refine after_exit ?_
      refine inblk_hit ?_
      refine swp_seq ?_
      refine swp_seq ?_
      refine swp_region ?_
      refine sops_go rfl (st_assign (v := .d _) rfl rfl rfl ?_)
      refine sops_nil ?_
      refine swp_block ?_
      refine swp_loopF (F := fun k : Nat => { t := upd (upd (upd (fun _ => .any) 2 (.p 0 0 0)) 3 (.p 1 0 0)) 6 (.d (.v (.int .i64 k))), n := 67, h := upd (upd (fun _ => .dead) 0 (.cells [.any, .any, .d (.sl true (T.rows list))])) 1 (.cells [.any, .any, .d (.sl true (T.rows list))]), nx := 2 })
        (fun k => k ≤ list.length) (fun k => list.length - k) 0 (Nat.zero_le _) ?_ ?_
      · refine wk_of rfl (Nat.le_of_ble_eq_true rfl) (by rw [hB]; exact Nat.zero_le _) (tle_upd (le_eq rfl rfl) (tle_upd (le_eq rfl rfl) (tle_upd (le_eq rfl rfl) (tle_any _)))) (hle_upd (.cells _ _ ⟨le_any _, le_any _, le_eq rfl rfl, trivial⟩) (hle_upd (.cells _ _ ⟨le_any _, le_any _, le_eq rfl rfl, trivial⟩) (hle_dead _))) (dead_upd (Nat.le_of_ble_eq_true rfl) (dead_upd (Nat.le_of_ble_eq_true rfl) (dead_none)))
      intro j hj
      have hj : j ≤ list.length := hj
      refine swp_seq ?_
      refine swp_seq ?_
      refine swp_region ?_
      refine sops_go rfl (st_move (v := .d _) rfl rfl rfl ?_)
      first | refine sops_go rfl (so_fieldAddr (v := .p _ _ _) rfl rfl rfl rfl rfl rfl rfl rfl rfl rfl ?_) | refine sops_go rfl (so_fieldAddr (v := .dp _ _) rfl rfl rfl rfl rfl rfl rfl rfl rfl rfl ?_) | refine sops_go rfl (so_fieldAddr (v := .pe _ _ _ _ _) rfl rfl rfl rfl rfl rfl rfl rfl rfl rfl ?_)
      first | refine sops_go rfl (so_load (v := .d _) rfl rfl rfl rfl rfl rfl rfl rfl ?_) | refine sops_go rfl (so_load (v := .own _ _ _ _ _) rfl rfl rfl rfl rfl rfl rfl rfl ?_)
      refine sops_go rfl (so_lenSl rfl rfl rfl rfl rfl ?_)
      refine sops_go rfl (st_bin rfl rfl rfl rfl rfl ?_)
      refine sops_nil ?_
      refine swp_cond _ rfl (fun hc52 => ?_) (fun hc52 => ?_)
      · have hlt : j < list.length := by have := of_decide_eq_true hc52; rw [T.rows_len] at this; omega
        have ihk := ih _ (List.getElem_mem hlt)
        refine swp_skip ?_
        refine swp_seq ?_
        refine swp_block ?_
        refine swp_seq ?_
        refine swp_regionQ 10 (by kernel_rfl) rfl rfl rfl ?_
        first | refine h0_go rfl (so_fieldAddr (v := .p _ _ _) rfl rfl rfl rfl rfl rfl rfl rfl rfl rfl ⟨_, rfl, ?_⟩) | refine h0_go rfl (so_fieldAddr (v := .dp _ _) rfl rfl rfl rfl rfl rfl rfl rfl rfl rfl ⟨_, rfl, ?_⟩) | refine h0_go rfl (so_fieldAddr (v := .pe _ _ _ _ _) rfl rfl rfl rfl rfl rfl rfl rfl rfl rfl ⟨_, rfl, ?_⟩)
        first | refine h0_go rfl (so_load (v := .d _) rfl rfl rfl rfl rfl rfl rfl rfl ⟨_, rfl, ?_⟩) | refine h0_go rfl (so_load (v := .own _ _ _ _ _) rfl rfl rfl rfl rfl rfl rfl rfl ⟨_, rfl, ?_⟩)
        refine h0_go rfl (st_move (v := .d _) rfl rfl rfl ⟨_, rfl, ?_⟩)
        refine h0_go rfl (so_indexSl rfl rfl rfl rfl rfl rfl rfl (T.rows_all _) (by omega) (by rw [T.rows_len]; omega) (T.rows_get _ _ hlt) ⟨_, rfl, ?_⟩)
        have hyr : (T.rows list).getD j [] = (list[j]).cells := T.rows_get _ _ hlt
        generalize list[j] = x at ihk hyr ⊢
        obtain ⟨x1, x2, x3⟩ := x
        first | refine h0_go rfl (so_load (v := .d (.agg [_, _, _])) rfl rfl rfl rfl rfl rfl rfl rfl ⟨_, rfl, ?_⟩) | refine h0_go rfl (so_load (v := .agg [_, _, _]) rfl rfl rfl rfl rfl rfl rfl rfl ⟨_, rfl, ?_⟩)
        first | refine h0_go rfl (so_fieldAddr (v := .p _ _ _) rfl rfl rfl rfl rfl rfl rfl rfl rfl rfl ⟨_, rfl, ?_⟩) | refine h0_go rfl (so_fieldAddr (v := .dp _ _) rfl rfl rfl rfl rfl rfl rfl rfl rfl rfl ⟨_, rfl, ?_⟩) | refine h0_go rfl (so_fieldAddr (v := .pe _ _ _ _ _) rfl rfl rfl rfl rfl rfl rfl rfl rfl rfl ⟨_, rfl, ?_⟩)
        first | refine h0_go rfl (so_load (v := .d _) rfl rfl rfl rfl rfl rfl rfl rfl ⟨_, rfl, ?_⟩) | refine h0_go rfl (so_load (v := .own _ _ _ _ _) rfl rfl rfl rfl rfl rfl rfl rfl ⟨_, rfl, ?_⟩)
        refine h0_go rfl (st_move (v := .d _) rfl rfl rfl ⟨_, rfl, ?_⟩)
        refine h0_go rfl (so_indexSl rfl rfl rfl rfl rfl rfl rfl (T.rows_all _) (by omega) (by rw [T.rows_len]; omega) hyr ⟨_, rfl, ?_⟩)
        first | refine h0_go rfl (so_load (v := .d (.agg [_, _, _])) rfl rfl rfl rfl rfl rfl rfl rfl ⟨_, rfl, ?_⟩) | refine h0_go rfl (so_load (v := .agg [_, _, _]) rfl rfl rfl rfl rfl rfl rfl rfl ⟨_, rfl, ?_⟩)
        refine h0_nil ?_
        refine sops_go rfl (st_call rfl rfl (ihk) ⟨na_d _, na_d _, trivial⟩ rfl ?_)
        refine sops_go rfl (st_not rfl rfl rfl ?_)
        refine sops_nil ?_
        refine swp_cond _ rfl (fun hc66 => ?_) (fun hc66 => ?_)
        · exact absurd hc66 (by simp)
        · refine swp_skip ?_
          refine swp_region ?_
          refine sops_go rfl (st_move (v := .d _) rfl rfl rfl ?_)
          refine sops_go rfl (st_bin rfl rfl rfl rfl rfl ?_)
          refine sops_go rfl (st_assign (v := .d _) rfl rfl rfl ?_)
          refine sops_nil ?_
          refine ⟨j + 1, hlt, by omega, ?_⟩
          refine wk_of rfl (Nat.le_of_ble_eq_true rfl) (by rw [hB]; exact Nat.zero_le _) (tle_upd (le_eq (next_i64 hlt hll) rfl) (tle_upd (le_eq rfl rfl) (tle_upd (le_eq rfl rfl) (tle_any _)))) (hle_upd (.cells _ _ ⟨le_any _, le_any _, le_eq rfl rfl, trivial⟩) (hle_upd (.cells _ _ ⟨le_any _, le_any _, le_eq rfl rfl, trivial⟩) (hle_dead _))) (dead_upd (Nat.le_of_ble_eq_true rfl) (dead_upd (Nat.le_of_ble_eq_true rfl) (dead_none)))
      · refine swp_exit ?_
        with_reducible refine after_exit ?_
        with_reducible refine after_exit ?_
        refine inblk_hit ?_
        refine swp_seq ?_
        refine swp_region ?_
        refine sops_go rfl (st_assign (v := .d _) rfl rfl rfl ?_)
        refine sops_nil ?_
        refine swp_ret ?_
        exact fin_b rfl rfl rfl
end Go.Proofs.YtdcpnpcmgfmenaaGreatDoor
/-
  Where a name stands, in the document's way. Conditions: none.
-/
set_option linter.unusedVariables false
set_option maxRecDepth 100000
namespace Go.Proofs.YtdcpnpcmgfmenaaGreatDoor
open Go Go.Proofs.YtdcpnpcmgfmenaaGreatDoor.Lg

/-- Where a name stands, in the document's way. -/
def spot (l : List ByteArray) (s : ByteArray) : Int := firstAt (fun y => y.toList == s.toList) l 0
theorem spot_none {l : List ByteArray} {s : ByteArray} (h : s ∉ l) : spot l s = -1 := by
  refine firstAt_none _ l 0 (List.any_eq_false.2 fun y hy e => ?_)
  exact h ((strEq_iff y s).1 e ▸ hy)
theorem spot_at {l : List ByteArray} (hn : l.Nodup) {s : ByteArray} {k : Nat} (h : l[k]? = some s) : spot l s = k := by
  obtain ⟨hk, e⟩ := List.getElem?_eq_some_iff.1 h
  have h0 : (l.take k).any (fun y => y.toList == s.toList) = false := by
    refine List.any_eq_false.2 fun y hy e2 => ?_
    have := (strEq_iff y s).1 e2
    subst this
    obtain ⟨j, hj, e3⟩ := List.mem_iff_getElem.1 hy
    have hj' : j < k := by simp at hj; omega
    rw [List.getElem_take] at e3
    have := nd_inj hn (List.getElem?_eq_some_iff.2 ⟨by omega, e3⟩) h
    omega
  have := firstAt_take (fun y => y.toList == s.toList) l k 0 h0 hk (by rw [e]; exact beq_self_eq_true _)
  unfold spot; rw [this]; omega
theorem pget_mem {l : List ByteArray} (h : (placesOf l).length = l.length) {s : ByteArray} : pget (placesOf l) s = none ↔ s ∉ l := by
  constructor
  · intro hp hm
    obtain ⟨k, hk, e⟩ := List.mem_iff_getElem.1 hm
    rw [(place_iff h).2 (List.getElem?_eq_some_iff.2 ⟨hk, e⟩)] at hp
    cases hp
  · intro hm
    cases hp : pget (placesOf l) s with
    | none => rfl
    | some k => exact absurd (List.mem_of_getElem? ((place_iff h).1 hp)) hm
def pgI : Option Nat → Int
  | none => -1
  | some k => k
theorem spot_pget {l : List ByteArray} (h : (placesOf l).length = l.length) (s : ByteArray) : spot l s = pgI (pget (placesOf l) s) := by
  cases hp : pget (placesOf l) s with
  | none => exact spot_none ((pget_mem h).1 hp)
  | some k => exact spot_at (placesOf_nd h) ((place_iff h).1 hp)
end Go.Proofs.YtdcpnpcmgfmenaaGreatDoor
/-
  Walks: the document's own answer on characters: Is, long, number. Conditions: none.
-/
set_option linter.unusedVariables false
set_option maxRecDepth 100000
namespace Go.Proofs.YtdcpnpcmgfmenaaGreatDoor
open Go Go.Proofs.YtdcpnpcmgfmenaaGreatDoor.Lg

def charOk (r : Int) : Bool := (decide (r ≥ 0) && decide (r ≤ 1114111)) && (decide (r < 55296) || decide (r > 57343))
theorem uis_pure (r : Int) : Pure env 92 [.d (.v (.int .i64 r))] (.d (.v (.bool (charOk r)))) := by
  refine pure_of_body Tryz.func92 rfl rfl rfl fun B hB => ?_
  refine swp_seq ?_
  refine swp_region ?_
  refine sops_go rfl (st_assign (v := .d _) rfl rfl rfl ?_)
  refine sops_nil ?_
  refine swp_seq ?_
  refine swp_region ?_
  refine sops_go rfl (st_move (v := .d _) rfl rfl rfl ?_)
  refine sops_go rfl (st_bin rfl rfl rfl rfl rfl ?_)
  refine sops_go rfl (st_move (v := .d _) rfl rfl rfl ?_)
  refine' sops_and (d := 5) (p := 8) [6, 7] 3 rfl rfl rfl (fun hb5 => ?a5) (fun hb5 => ?b5) ?_
  case a5 =>
    refine sops_yes rfl rfl rfl rfl (st_move (v := .d _) rfl rfl rfl ?_)
    refine sops_yes rfl rfl rfl rfl (st_bin rfl rfl rfl rfl rfl ?_)
    refine sops_go rfl (st_pick (v := .d _) rfl rfl rfl rfl ?_)
    refine sops_nil ?_
    exact ⟨rfl, rfl, rfl, rfl, [_, _], rfl, rfl⟩
  case b5 =>
    refine sops_no rfl rfl rfl rfl rfl ?_
    refine sops_no rfl rfl rfl rfl rfl ?_
    refine sops_go rfl (st_pick (v := .d _) rfl rfl rfl rfl ?_)
    refine sops_nil ?_
    exact ⟨rfl, rfl, rfl, rfl, [_, _], rfl, rfl⟩
  refine sops_go rfl (st_move (v := .d _) rfl rfl rfl ?_)
  refine' sops_and (d := 9) (p := 16) [10, 11, 12, 13, 14, 15] 7 rfl rfl rfl (fun hb9 => ?a9) (fun hb9 => ?b9) ?_
  case a9 =>
    refine sops_yes rfl rfl rfl rfl (st_move (v := .d _) rfl rfl rfl ?_)
    refine sops_yes rfl rfl rfl rfl (st_bin rfl rfl rfl rfl rfl ?_)
    refine sops_yes rfl rfl rfl rfl (st_move (v := .d _) rfl rfl rfl ?_)
    refine' sops_or (d := 12) (p := 15) [13, 14] 3 rfl rfl rfl (fun hb12 => ?a12) (fun hb12 => ?b12) ?_
    case a12 =>
      refine sops_yes rfl rfl rfl rfl (st_move (v := .d _) rfl rfl rfl ?_)
      refine sops_yes rfl rfl rfl rfl (st_bin rfl rfl rfl rfl rfl ?_)
      refine sops_yes rfl rfl rfl rfl (st_pick (v := .d _) rfl rfl rfl rfl ?_)
      refine sops_nil ?_
      exact ⟨rfl, rfl, rfl, rfl, [_, _], rfl, rfl⟩
    case b12 =>
      refine sops_no rfl rfl rfl rfl rfl ?_
      refine sops_no rfl rfl rfl rfl rfl ?_
      refine sops_yes rfl rfl rfl rfl (st_pick (v := .d _) rfl rfl rfl rfl ?_)
      refine sops_nil ?_
      exact ⟨rfl, rfl, rfl, rfl, [_, _], rfl, rfl⟩
    refine sops_go rfl (st_pick (v := .d _) rfl rfl rfl rfl ?_)
    refine sops_nil ?_
    exact ⟨rfl, rfl, rfl, rfl, [_, _, _, _, _, _], rfl, rfl⟩
  case b9 =>
    refine sops_no rfl rfl rfl rfl rfl ?_
    refine sops_no rfl rfl rfl rfl rfl ?_
    refine sops_no rfl rfl rfl rfl rfl ?_
    refine sops_un rfl rfl rfl rfl rfl ?_
    refine sops_un rfl rfl rfl rfl rfl ?_
    refine sops_no rfl rfl rfl rfl rfl ?_
    refine sops_go rfl (st_pick (v := .d _) rfl rfl rfl rfl ?_)
    refine sops_nil ?_
    exact ⟨rfl, rfl, rfl, rfl, [_, _, _, _, _, _], rfl, rfl⟩
  refine sops_go rfl (st_assign (v := .d _) rfl rfl rfl ?_)
  refine sops_nil ?_
  refine swp_ret ?_
  exact fin_b rfl rfl rfl

def longOf (b : Int) : Int := if b < 128 then 1 else if 192 ≤ b ∧ b < 224 then 2 else if 224 ≤ b ∧ b < 240 then 3 else if 240 ≤ b ∧ b < 248 then 4 else 0
theorem ulong_pure (b : Int) : Pure env 90 [.d (.v (.int .u8 b))] (.d (.v (.int .i64 (longOf b)))) := by
  refine pure_of_body Tryz.func90 rfl rfl rfl fun B hB => ?_
  refine swp_seq ?_
  refine swp_region ?_
  refine sops_go rfl (st_assign (v := .d _) rfl rfl rfl ?_)
  refine sops_nil ?_
  refine swp_seq ?_
  refine swp_block ?_
  refine swp_seq ?_
  refine swp_region ?_
  refine sops_go rfl (st_move (v := .d _) rfl rfl rfl ?_)
  refine sops_go rfl (st_bin rfl rfl rfl rfl rfl ?_)
  refine sops_go rfl (st_assign (v := .d _) rfl rfl rfl ?_)
  refine sops_nil ?_
  refine swp_cond _ rfl (fun hc3 => ?_) (fun hc3 => ?_)
  · refine swp_seq ?_
    refine swp_region ?_
    refine sops_go rfl (st_assign (v := .d _) rfl rfl rfl ?_)
    refine sops_nil ?_
    refine swp_ret ?_
    with_reducible refine inblk_ret ?_
    with_reducible refine after_ret ?_
    exact fin_i rfl rfl (by simp at hc3; unfold longOf; rw [if_pos hc3])
  · refine swp_seq ?_
    refine swp_region ?_
    refine sops_go rfl (st_move (v := .d _) rfl rfl rfl ?_)
    refine sops_go rfl (st_bin rfl rfl rfl rfl rfl ?_)
    refine sops_go rfl (st_move (v := .d _) rfl rfl rfl ?_)
    refine' sops_and (d := 9) (p := 12) [10, 11] 3 rfl rfl rfl (fun hb9 => ?a9) (fun hb9 => ?b9) ?_
    case a9 =>
      refine sops_yes rfl rfl rfl rfl (st_move (v := .d _) rfl rfl rfl ?_)
      refine sops_yes rfl rfl rfl rfl (st_bin rfl rfl rfl rfl rfl ?_)
      refine sops_go rfl (st_pick (v := .d _) rfl rfl rfl rfl ?_)
      refine sops_nil ?_
      exact ⟨rfl, rfl, rfl, rfl, [_, _], rfl, rfl⟩
    case b9 =>
      refine sops_no rfl rfl rfl rfl rfl ?_
      refine sops_no rfl rfl rfl rfl rfl ?_
      refine sops_go rfl (st_pick (v := .d _) rfl rfl rfl rfl ?_)
      refine sops_nil ?_
      exact ⟨rfl, rfl, rfl, rfl, [_, _], rfl, rfl⟩
    refine sops_go rfl (st_assign (v := .d _) rfl rfl rfl ?_)
    refine sops_nil ?_
    refine swp_cond _ rfl (fun hc6 => ?_) (fun hc6 => ?_)
    · refine swp_seq ?_
      refine swp_region ?_
      refine sops_go rfl (st_assign (v := .d _) rfl rfl rfl ?_)
      refine sops_nil ?_
      refine swp_ret ?_
      with_reducible refine inblk_ret ?_
      with_reducible refine after_ret ?_
      exact fin_i rfl rfl (by simp at hc3 hc6; unfold longOf; rw [if_neg (by omega), if_pos (by omega)])
    · refine swp_seq ?_
      refine swp_region ?_
      refine sops_go rfl (st_move (v := .d _) rfl rfl rfl ?_)
      refine sops_go rfl (st_bin rfl rfl rfl rfl rfl ?_)
      refine sops_go rfl (st_move (v := .d _) rfl rfl rfl ?_)
      refine' sops_and (d := 16) (p := 19) [17, 18] 3 rfl rfl rfl (fun hb16 => ?a16) (fun hb16 => ?b16) ?_
      case a16 =>
        refine sops_yes rfl rfl rfl rfl (st_move (v := .d _) rfl rfl rfl ?_)
        refine sops_yes rfl rfl rfl rfl (st_bin rfl rfl rfl rfl rfl ?_)
        refine sops_go rfl (st_pick (v := .d _) rfl rfl rfl rfl ?_)
        refine sops_nil ?_
        exact ⟨rfl, rfl, rfl, rfl, [_, _], rfl, rfl⟩
      case b16 =>
        refine sops_no rfl rfl rfl rfl rfl ?_
        refine sops_no rfl rfl rfl rfl rfl ?_
        refine sops_go rfl (st_pick (v := .d _) rfl rfl rfl rfl ?_)
        refine sops_nil ?_
        exact ⟨rfl, rfl, rfl, rfl, [_, _], rfl, rfl⟩
      refine sops_go rfl (st_assign (v := .d _) rfl rfl rfl ?_)
      refine sops_nil ?_
      refine swp_cond _ rfl (fun hc13 => ?_) (fun hc13 => ?_)
      · refine swp_seq ?_
        refine swp_region ?_
        refine sops_go rfl (st_assign (v := .d _) rfl rfl rfl ?_)
        refine sops_nil ?_
        refine swp_ret ?_
        with_reducible refine inblk_ret ?_
        with_reducible refine after_ret ?_
        exact fin_i rfl rfl (by simp at hc3 hc6 hc13; unfold longOf; rw [if_neg (by omega), if_neg (by omega), if_pos (by omega)])
      · refine swp_seq ?_
        refine swp_region ?_
        refine sops_go rfl (st_move (v := .d _) rfl rfl rfl ?_)
        refine sops_go rfl (st_bin rfl rfl rfl rfl rfl ?_)
        refine sops_go rfl (st_move (v := .d _) rfl rfl rfl ?_)
        refine' sops_and (d := 23) (p := 26) [24, 25] 3 rfl rfl rfl (fun hb23 => ?a23) (fun hb23 => ?b23) ?_
        case a23 =>
          refine sops_yes rfl rfl rfl rfl (st_move (v := .d _) rfl rfl rfl ?_)
          refine sops_yes rfl rfl rfl rfl (st_bin rfl rfl rfl rfl rfl ?_)
          refine sops_go rfl (st_pick (v := .d _) rfl rfl rfl rfl ?_)
          refine sops_nil ?_
          exact ⟨rfl, rfl, rfl, rfl, [_, _], rfl, rfl⟩
        case b23 =>
          refine sops_no rfl rfl rfl rfl rfl ?_
          refine sops_no rfl rfl rfl rfl rfl ?_
          refine sops_go rfl (st_pick (v := .d _) rfl rfl rfl rfl ?_)
          refine sops_nil ?_
          exact ⟨rfl, rfl, rfl, rfl, [_, _], rfl, rfl⟩
        refine sops_go rfl (st_assign (v := .d _) rfl rfl rfl ?_)
        refine sops_nil ?_
        refine swp_cond _ rfl (fun hc20 => ?_) (fun hc20 => ?_)
        · refine swp_seq ?_
          refine swp_region ?_
          refine sops_go rfl (st_assign (v := .d _) rfl rfl rfl ?_)
          refine sops_nil ?_
          refine swp_ret ?_
          with_reducible refine inblk_ret ?_
          with_reducible refine after_ret ?_
          exact fin_i rfl rfl (by simp at hc3 hc6 hc13 hc20; unfold longOf; rw [if_neg (by omega), if_neg (by omega), if_neg (by omega), if_pos (by omega)])
        · refine swp_skip ?_
          refine swp_seq ?_
          refine swp_region ?_
          refine sops_go rfl (st_assign (v := .d _) rfl rfl rfl ?_)
          refine sops_nil ?_
          refine swp_ret ?_
          exact fin_i rfl rfl (by simp at hc3 hc6 hc13 hc20; unfold longOf; rw [if_neg (by omega), if_neg (by omega), if_neg (by omega), if_neg (by omega)])

theorem byteAt_lo (s : ByteArray) (i : Nat) : 0 ≤ byteAt s i ∧ byteAt s i < 256 := by
  unfold byteAt
  have := ((s.data[i]?).getD 0).toNat_lt
  omega
/-- The number that the bytes behind the first one say, in the document's way. -/
def tailNum (s : ByteArray) (r : Int) : Nat → Int
  | 0 => r
  | k + 1 => IntKind.i64.wrap (IntKind.i64.wrap (64 * tailNum s r k) + (byteAt s (k + 1)).tmod 64)
def numOf (s : ByteArray) (n : Nat) : Int := if n = 1 then byteAt s 0 else tailNum s ((byteAt s 0).tmod (128 / 2 ^ n)) (n - 1)

theorem unumber_pure (s : ByteArray) (n : Nat) (h1 : 1 ≤ n) (h4 : n ≤ 4) (hn : n ≤ s.size) : Pure env 91 [.d (.v (.string s)), .d (.v (.int .i64 n))] (.d (.v (.int .i64 (numOf s n)))) := by
  have hb := byteAt_lo s 0
  have hw : ∀ x : Int, 0 ≤ x → x < 256 → IntKind.i64.wrap x = x := fun x h1 h2 => i64_in (by omega) (by omega)
  refine pure_of_body Tryz.func91 rfl rfl rfl fun B hB => ?_
  refine swp_seq ?_
  refine swp_region ?_
  refine sops_go rfl (st_assign (v := .d _) rfl rfl rfl ?_)
  refine sops_nil ?_
  refine swp_seq ?_
  refine swp_seq ?_
  refine swp_region ?_
  refine sops_go rfl (st_move (v := .d _) rfl rfl rfl ?_)
  refine sops_go rfl (st_bin rfl rfl rfl rfl rfl ?_)
  refine sops_nil ?_
  refine swp_cond _ rfl (fun hc8 => ?_) (fun hc8 => ?_)
  · have hn1 : n = 1 := by simp at hc8; omega
    refine swp_seq ?_
    refine swp_region ?_
    refine sops_go rfl (st_move (v := .d _) rfl rfl rfl ?_)
    refine sops_go rfl (so_indexStr rfl rfl rfl rfl rfl rfl (by omega) (by omega) ?_)
    refine sops_go rfl (so_convInt rfl rfl rfl rfl rfl rfl ?_)
    refine sops_go rfl (st_assign (v := .d _) rfl rfl rfl ?_)
    refine sops_nil ?_
    refine swp_ret ?_
    with_reducible refine after_ret ?_
    exact fin_i rfl rfl (by unfold numOf; rw [if_pos hn1]; exact (hw _ hb.1 hb.2).symm)
  · have hn1 : n ≠ 1 := by simp at hc8; omega
    have hm : bin .shr (.int .i64 128) (.int .i64 (n : Int)) = some (.int .i64 (128 / 2 ^ n)) := by
      rcases (show n = 2 ∨ n = 3 ∨ n = 4 by omega) with rfl | rfl | rfl <;> rfl
    have hm0 : (128 / 2 ^ n : Int) ≠ 0 := by
      rcases (show n = 2 ∨ n = 3 ∨ n = 4 by omega) with rfl | rfl | rfl <;> decide
    have hS : numOf s n = tailNum s ((byteAt s 0).tmod (128 / 2 ^ n)) (n - 1) := by unfold numOf; rw [if_neg hn1]
    generalize (128 / 2 ^ n : Int) = m at hm hm0 hS
    refine swp_skip ?_
    refine swp_seq ?_
    refine swp_regionQ 5 (by kernel_rfl) rfl rfl rfl ?_
    refine h0_go rfl (st_move (v := .d _) rfl rfl rfl ⟨_, rfl, ?_⟩)
    refine h0_go rfl (so_indexStr rfl rfl rfl rfl rfl rfl (by omega) (by omega) ⟨_, rfl, ?_⟩)
    refine h0_go rfl (so_convInt rfl rfl rfl rfl rfl rfl ⟨_, rfl, ?_⟩)
    rw [hw _ (byteAt_lo s _).1 (byteAt_lo s _).2]
    refine h0_go rfl (st_move (v := .d _) rfl rfl rfl ⟨_, rfl, ?_⟩)
    refine h0_go rfl (st_bin rfl rfl rfl hm rfl ⟨_, rfl, ?_⟩)
    refine h0_nil ?_
    refine sops_go rfl (st_bin (r := .int .i64 ((byteAt s 0).tmod m)) rfl rfl rfl (by simp [bin, hm0]) rfl ?_)
    refine sops_go rfl (st_assign (v := .d _) rfl rfl rfl ?_)
    refine sops_nil ?_
    refine swp_seq ?_
    refine swp_seq ?_
    refine swp_region ?_
    refine sops_go rfl (st_assign (v := .d _) rfl rfl rfl ?_)
    refine sops_nil ?_
    refine swp_block ?_
    refine swp_loopF (F := fun j : Nat => { t := upd (upd (upd (upd (fun _ => .any) 0 (.d (.v (.string s)))) 1 (.d (.v (.int .i64 n)))) 5 (.d (.v (.int .i64 (tailNum s ((byteAt s 0).tmod m) j))))) 6 (.d (.v (.int .i64 ((j + 1 : Nat) : Int)))), n := 32, h := fun _ => .dead, nx := 0 })
      (fun j => j + 1 ≤ n) (fun j => n - j) 0 (by omega) ?_ ?_
    · refine wk_of rfl (Nat.le_of_ble_eq_true rfl) (by rw [hB]; exact Nat.zero_le _) (tle_upd (le_eq rfl rfl) (tle_upd (le_eq rfl rfl) (tle_upd (le_eq rfl rfl) (tle_upd (le_eq rfl rfl) (tle_any _))))) (hle_dead _) (dead_none)
    intro j hj
    have hj : j + 1 ≤ n := hj
    refine swp_seq ?_
    refine swp_seq ?_
    refine swp_region ?_
    refine sops_go rfl (st_move (v := .d _) rfl rfl rfl ?_)
    refine sops_go rfl (st_move (v := .d _) rfl rfl rfl ?_)
    refine sops_go rfl (st_bin rfl rfl rfl rfl rfl ?_)
    refine sops_nil ?_
    refine swp_cond _ rfl (fun hc20 => ?_) (fun hc20 => ?_)
    · have hlt : j + 1 < n := by simp at hc20; omega
      refine swp_skip ?_
      refine swp_seq ?_
      refine swp_block ?_
      refine swp_region ?_
      refine sops_go rfl (st_move (v := .d _) rfl rfl rfl ?_)
      refine sops_go rfl (st_bin rfl rfl rfl rfl rfl ?_)
      refine sops_go rfl (st_move (v := .d _) rfl rfl rfl ?_)
      refine sops_go rfl (st_move (v := .d _) rfl rfl rfl ?_)
      refine sops_go rfl (so_indexStr rfl rfl rfl rfl rfl rfl (by omega) (by omega) ?_)
      refine sops_go rfl (so_convInt rfl rfl rfl rfl rfl rfl ?_)
      rw [hw _ (byteAt_lo s _).1 (byteAt_lo s _).2]
      refine sops_go rfl (st_bin rfl rfl rfl rfl rfl ?_)
      refine sops_go rfl (st_bin rfl rfl rfl rfl rfl ?_)
      refine sops_go rfl (st_assign (v := .d _) rfl rfl rfl ?_)
      refine sops_nil ?_
      refine swp_region ?_
      refine sops_go rfl (st_move (v := .d _) rfl rfl rfl ?_)
      refine sops_go rfl (st_bin rfl rfl rfl rfl rfl ?_)
      refine sops_go rfl (st_assign (v := .d _) rfl rfl rfl ?_)
      refine sops_nil ?_
      refine ⟨j + 1, hlt, by omega, ?_⟩
      refine wk_of rfl (Nat.le_of_ble_eq_true rfl) (by rw [hB]; exact Nat.zero_le _) (tle_upd (le_eq (next_i64 hlt (by omega)) rfl) (tle_upd (le_eq rfl rfl) (tle_upd (le_eq rfl rfl) (tle_upd (le_eq rfl rfl) (tle_any _))))) (hle_dead _) (dead_none)
    · have he : n - 1 = j := by simp at hc20; omega
      refine swp_exit ?_
      with_reducible refine after_exit ?_
      with_reducible refine after_exit ?_
      refine inblk_hit ?_
      refine swp_seq ?_
      refine swp_region ?_
      refine sops_go rfl (st_move (v := .d _) rfl rfl rfl ?_)
      refine sops_go rfl (st_assign (v := .d _) rfl rfl rfl ?_)
      refine sops_nil ?_
      refine swp_ret ?_
      exact fin_i rfl rfl (by rw [hS, he])
end Go.Proofs.YtdcpnpcmgfmenaaGreatDoor
/-
  Bytes turned to a text. Conditions: none.
-/
set_option linter.unusedVariables false
set_option linter.unusedSimpArgs false
namespace Go.Proofs.YtdcpnpcmgfmenaaGreatDoor.Lg
open Go Go.RowKit

section
variable {E : Env} {B : Base} {Q : Exit → St → Prop} {σ : St} {o : Oper} {K : St → Prop}

/-- The text of some bytes. -/
def textOf (ns : List Int) : ByteArray := ⟨(ns.map fun n => UInt8.ofNat n.toNat).toArray⟩
theorem text_fold : ∀ (ns : List Int) (s : ByteArray), ns.foldl (fun r n => r.push (UInt8.ofNat n.toNat)) s = ⟨s.data ++ (ns.map fun n => UInt8.ofNat n.toNat).toArray⟩
  | [], s => by simp
  | n :: r, s => by
    rw [List.foldl_cons, text_fold r]
    cases s
    simp [ByteArray.push]
/-- The cells of a row of bytes. -/
def byteRows (ns : List Int) : List (List AV) := ns.map fun n => [.d (.v (.int .u8 n))]

theorem fin_3v {fn : Func} {t u v : Nat} {x y z x' y' z' : Value} (h1 : fn.results = #[.tmp t, .tmp u, .tmp v]) (h2 : σ.t t = .d (.v x')) (h3 : σ.t u = .d (.v y')) (h4 : σ.t v = .d (.v z')) (e1 : x = x') (e2 : y = y') (e3 : z = z') : Fin E fn (.tup [.d (.v x), .d (.v y), .d (.v z)]) .ret σ := by
  subst e1 e2 e3
  exact ⟨.inl rfl, .inr (.inr (.inl ⟨t, u, v, _, _, _, h1, rfl, by rw [h2]; exact ra_d (keeps_v _), by rw [h3]; exact ra_d (keeps_v _), by rw [h4]; exact ra_d (keeps_v _)⟩))⟩
theorem bin_cat {a b : ByteArray} (h : ((a.size + b.size : Nat) : Int) ≤ 9223372036854775807) : bin .add (.string a) (.string b) = some (.string (a ++ b)) := by
  simp only [bin]; rw [if_pos h]
theorem byteRows_flat : ∀ ns : List Int, (byteRows ns).flatten = ns.map fun n => AV.d (.v (.int .u8 n))
  | [] => rfl
  | n :: r => by
    have := byteRows_flat r
    unfold byteRows at this ⊢
    rw [List.map_cons, List.flatten_cons, this]; rfl

theorem so_bytesStr {q : Md} [Qt q] {s t : TypeId} {x : Operand} (ho : o.op = .convert s t x) {i j : TI} (hi : E.ti s = some i) (hj : E.ti t = some j) {e : TypeId} (hs : i.desc = .slice e) {je : TI} (hje : E.ti e = some je) (hed : je.desc = .int .u8) (ht : j.desc = .string)
    {rows : List (List AV)} (hrow : rowsOf σ.h (ev E σ x) = some rows) {ns : List Int} (hns : rows = byteRows ns) (hd : dlt o.dst σ.n = true) (hK : K (σ.put o.dst (.d (.v (.string (textOf ns)))))) : Step q E B o K Q σ := by
  refine step_val _ (fun B g w ac hr => ?_) hd hK
  have hx' := ev_ok hr x
  obtain ⟨a, c, hx, h⟩ := rows_ok hr hrow hx'
  subst hns
  refine ⟨_, ?_, .d _ _ (.v _)⟩
  simp only [execOp, ho]
  refine run_v ?_
  rw [hx, run_convert_bytes_string w s t e _ _ _ (by rw [E.und hi, hs]) (by rw [E.und hje, hed]) (by rw [E.und hj, ht])]
  have hlen : (byteRows ns).length = ns.length := by simp [byteRows]
  have hflat := byteRows_flat ns
  have hfold : ns.foldl (fun r n => r.push (UInt8.ofNat n.toNat)) ByteArray.empty = textOf ns := by rw [text_fold]; simp [textOf, ByteArray.empty, ByteArray.emptyWithCapacity]; rfl
  rcases h with h0 | ⟨b, off, rfl, f, hf⟩
  · have : ns = [] := List.eq_nil_of_length_eq_zero (by omega)
    subst this
    cases a with
    | none => rfl
    | some a =>
      have := run_bytesToString w a 0 c [] (by have := run_loadCells (P := E.P) w a 0 (fun _ => undef) (by omega); simpa using this)
      exact this
  · have hc : (loadCells ⟨b, off, none⟩ (byteRows ns).length).run E.P w = .ok (ns.map (Value.int .u8)).toArray w := by
      rw [hlen]
      have := run_loadCells_list (P := E.P) w ⟨b, off, none⟩ (ns.map (Value.int .u8)) (by
        intro k v hk
        rw [List.getElem?_map, Option.map_eq_some_iff] at hk
        obtain ⟨n, hn, rfl⟩ := hk
        obtain ⟨h1, h2⟩ := hf k (.d (.v (.int .u8 n))) (by rw [hflat, List.getElem?_map, hn]; rfl)
        rw [add_mk, h1, vr_int h2])
      simpa using this
    rw [run_bytesToString w _ _ c ns hc, hfold]
end
end Go.Proofs.YtdcpnpcmgfmenaaGreatDoor.Lg
/-
  Walks: the document's own answer on characters: bytes, Begins. Conditions: none.
-/
set_option linter.unusedVariables false
set_option maxRecDepth 100000
namespace Go.Proofs.YtdcpnpcmgfmenaaGreatDoor
open Go Go.Proofs.YtdcpnpcmgfmenaaGreatDoor.Lg

def w8 (x : Int) : Int := IntKind.u8.wrap x
def wq (x : Int) (m : Int) : Int := IntKind.i64.wrap (x.tdiv m)
def wp (a x : Int) : Int := IntKind.i64.wrap (a + x)
def bytesL (r : Int) : List Int :=
  if r < 128 then [w8 r]
  else if r < 2048 then [w8 (wp 192 (wq r 64)), w8 (wp 128 (r.tmod 64))]
  else if r < 65536 then [w8 (wp 224 (wq r 4096)), w8 (wp 128 ((wq r 64).tmod 64)), w8 (wp 128 (r.tmod 64))]
  else [w8 (wp 240 (wq r 262144)), w8 (wp 128 ((wq r 4096).tmod 64)), w8 (wp 128 ((wq r 64).tmod 64)), w8 (wp 128 (r.tmod 64))]
def bytesOf (r : Int) : ByteArray := textOf (bytesL r)
theorem textOf_size (l : List Int) : (textOf l).size = l.length := by
  show (textOf l).data.size = _
  simp [textOf]

theorem ubytes_pure (r : Int) : Pure env 93 [.d (.v (.int .i64 r))] (.d (.v (.string (bytesOf r)))) := by
  have hS : bytesOf r = textOf (bytesL r) := rfl
  unfold bytesL at hS
  refine pure_of_body Tryz.func93 rfl rfl rfl fun B hB => ?_
  refine swp_seq ?_
  refine swp_region ?_
  refine sops_go rfl (st_assign (v := .d _) rfl rfl rfl ?_)
  refine sops_nil ?_
  refine swp_seq ?_
  refine swp_block ?_
  refine swp_seq ?_
  refine swp_region ?_
  refine sops_go rfl (st_move (v := .d _) rfl rfl rfl ?_)
  refine sops_go rfl (st_bin rfl rfl rfl rfl rfl ?_)
  refine sops_go rfl (st_assign (v := .d _) rfl rfl rfl ?_)
  refine sops_nil ?_
  refine swp_cond _ rfl (fun hc3 => ?_) (fun hc3 => ?_)
  · rw [if_pos (by simpa using hc3)] at hS
    refine swp_seq ?_
    refine swp_region ?_
    refine sops_go rfl (st_move (v := .d _) rfl rfl rfl ?_)
    refine sops_go rfl (so_convInt rfl rfl rfl rfl rfl rfl ?_)
    refine sops_go rfl (so_buildSlice (rows := [[_]]) rfl rfl rfl rfl rfl rfl rfl rfl rfl ?_)
    refine sops_go rfl (so_bytesStr rfl rfl rfl rfl rfl rfl rfl rfl (ns := [_]) rfl rfl ?_)
    refine sops_go rfl (st_assign (v := .d _) rfl rfl rfl ?_)
    refine sops_nil ?_
    refine swp_ret ?_
    with_reducible refine inblk_ret ?_
    with_reducible refine after_ret ?_
    exact fin_s rfl rfl hS
  · rw [if_neg (by simpa using hc3)] at hS
    refine swp_seq ?_
    refine swp_region ?_
    refine sops_go rfl (st_move (v := .d _) rfl rfl rfl ?_)
    refine sops_go rfl (st_bin rfl rfl rfl rfl rfl ?_)
    refine sops_go rfl (st_assign (v := .d _) rfl rfl rfl ?_)
    refine sops_nil ?_
    refine swp_cond _ rfl (fun hc10 => ?_) (fun hc10 => ?_)
    · rw [if_pos (by simpa using hc10)] at hS
      refine swp_seq ?_
      refine swp_region ?_
      refine sops_go rfl (st_move (v := .d _) rfl rfl rfl ?_)
      refine sops_go rfl (st_bin rfl rfl rfl rfl rfl ?_)
      refine sops_go rfl (st_bin rfl rfl rfl rfl rfl ?_)
      refine sops_go rfl (so_convInt rfl rfl rfl rfl rfl rfl ?_)
      refine sops_go rfl (st_move (v := .d _) rfl rfl rfl ?_)
      refine sops_go rfl (st_bin rfl rfl rfl rfl rfl ?_)
      refine sops_go rfl (st_bin rfl rfl rfl rfl rfl ?_)
      refine sops_go rfl (so_convInt rfl rfl rfl rfl rfl rfl ?_)
      refine sops_go rfl (so_buildSlice (rows := [[_], [_]]) rfl rfl rfl rfl rfl rfl rfl rfl rfl ?_)
      refine sops_go rfl (so_bytesStr rfl rfl rfl rfl rfl rfl rfl rfl (ns := [_, _]) rfl rfl ?_)
      refine sops_go rfl (st_assign (v := .d _) rfl rfl rfl ?_)
      refine sops_nil ?_
      refine swp_ret ?_
      with_reducible refine inblk_ret ?_
      with_reducible refine after_ret ?_
      exact fin_s rfl rfl hS
    · rw [if_neg (by simpa using hc10)] at hS
      refine swp_seq ?_
      refine swp_region ?_
      refine sops_go rfl (st_move (v := .d _) rfl rfl rfl ?_)
      refine sops_go rfl (st_bin rfl rfl rfl rfl rfl ?_)
      refine sops_go rfl (st_assign (v := .d _) rfl rfl rfl ?_)
      refine sops_nil ?_
      refine swp_cond _ rfl (fun hc23 => ?_) (fun hc23 => ?_)
      · rw [if_pos (by simpa using hc23)] at hS
        refine swp_seq ?_
        refine swp_region ?_
        refine sops_go rfl (st_move (v := .d _) rfl rfl rfl ?_)
        refine sops_go rfl (st_bin rfl rfl rfl rfl rfl ?_)
        refine sops_go rfl (st_bin rfl rfl rfl rfl rfl ?_)
        refine sops_go rfl (so_convInt rfl rfl rfl rfl rfl rfl ?_)
        refine sops_go rfl (st_move (v := .d _) rfl rfl rfl ?_)
        refine sops_go rfl (st_bin rfl rfl rfl rfl rfl ?_)
        refine sops_go rfl (st_bin rfl rfl rfl rfl rfl ?_)
        refine sops_go rfl (st_bin rfl rfl rfl rfl rfl ?_)
        refine sops_go rfl (so_convInt rfl rfl rfl rfl rfl rfl ?_)
        refine sops_go rfl (st_move (v := .d _) rfl rfl rfl ?_)
        refine sops_go rfl (st_bin rfl rfl rfl rfl rfl ?_)
        refine sops_go rfl (st_bin rfl rfl rfl rfl rfl ?_)
        refine sops_go rfl (so_convInt rfl rfl rfl rfl rfl rfl ?_)
        refine sops_go rfl (so_buildSlice (rows := [[_], [_], [_]]) rfl rfl rfl rfl rfl rfl rfl rfl rfl ?_)
        refine sops_go rfl (so_bytesStr rfl rfl rfl rfl rfl rfl rfl rfl (ns := [_, _, _]) rfl rfl ?_)
        refine sops_go rfl (st_assign (v := .d _) rfl rfl rfl ?_)
        refine sops_nil ?_
        refine swp_ret ?_
        with_reducible refine inblk_ret ?_
        with_reducible refine after_ret ?_
        exact fin_s rfl rfl hS
      · rw [if_neg (by simpa using hc23)] at hS
        refine swp_skip ?_
        refine swp_seq ?_
        refine swp_region ?_
        refine sops_go rfl (st_move (v := .d _) rfl rfl rfl ?_)
        refine sops_go rfl (st_bin rfl rfl rfl rfl rfl ?_)
        refine sops_go rfl (st_bin rfl rfl rfl rfl rfl ?_)
        refine sops_go rfl (so_convInt rfl rfl rfl rfl rfl rfl ?_)
        refine sops_go rfl (st_move (v := .d _) rfl rfl rfl ?_)
        refine sops_go rfl (st_bin rfl rfl rfl rfl rfl ?_)
        refine sops_go rfl (st_bin rfl rfl rfl rfl rfl ?_)
        refine sops_go rfl (st_bin rfl rfl rfl rfl rfl ?_)
        refine sops_go rfl (so_convInt rfl rfl rfl rfl rfl rfl ?_)
        refine sops_go rfl (st_move (v := .d _) rfl rfl rfl ?_)
        refine sops_go rfl (st_bin rfl rfl rfl rfl rfl ?_)
        refine sops_go rfl (st_bin rfl rfl rfl rfl rfl ?_)
        refine sops_go rfl (st_bin rfl rfl rfl rfl rfl ?_)
        refine sops_go rfl (so_convInt rfl rfl rfl rfl rfl rfl ?_)
        refine sops_go rfl (st_move (v := .d _) rfl rfl rfl ?_)
        refine sops_go rfl (st_bin rfl rfl rfl rfl rfl ?_)
        refine sops_go rfl (st_bin rfl rfl rfl rfl rfl ?_)
        refine sops_go rfl (so_convInt rfl rfl rfl rfl rfl rfl ?_)
        refine sops_go rfl (so_buildSlice (rows := [[_], [_], [_], [_]]) rfl rfl rfl rfl rfl rfl rfl rfl rfl ?_)
        refine sops_go rfl (so_bytesStr rfl rfl rfl rfl rfl rfl rfl rfl (ns := [_, _, _, _]) rfl rfl ?_)
        refine sops_go rfl (st_assign (v := .d _) rfl rfl rfl ?_)
        refine sops_nil ?_
        refine swp_ret ?_
        exact fin_s rfl rfl hS

theorem longOf_nat (b : Int) : ∃ n : Nat, longOf b = n ∧ n ≤ 4 := by
  unfold longOf
  split
  · exact ⟨1, rfl, by omega⟩
  · split
    · exact ⟨2, rfl, by omega⟩
    · split
      · exact ⟨3, rfl, by omega⟩
      · split
        · exact ⟨4, rfl, by omega⟩
        · exact ⟨0, rfl, by omega⟩

def leastRow : List (List AV) := [[.d (.v (.int .i64 0))], [.d (.v (.int .i64 0))], [.d (.v (.int .i64 128))], [.d (.v (.int .i64 2048))], [.d (.v (.int .i64 65536))]]
theorem least_at {n : Nat} (h2 : 2 ≤ n) (h4 : n ≤ 4) : ∃ m : Int, leastRow[n]? = some [.d (.v (.int .i64 m))] ∧ (bytesOf m).size = n := by
  rcases (show n = 2 ∨ n = 3 ∨ n = 4 by omega) with rfl | rfl | rfl
  · exact ⟨128, rfl, by unfold bytesOf; rw [textOf_size]; rfl⟩
  · exact ⟨2048, rfl, by unfold bytesOf; rw [textOf_size]; rfl⟩
  · exact ⟨65536, rfl, by unfold bytesOf; rw [textOf_size]; rfl⟩

theorem ubegins_s (s : ByteArray) (h0 : 0 < s.size) : PureS env 94 [.d (.v (.string s))] isBool := by
  have hlong := ulong_pure (byteAt s 0)
  obtain ⟨n, hn, h4⟩ := longOf_nat (byteAt s 0)
  rw [hn] at hlong
  refine pureS_of_body Tryz.func94 rfl rfl rfl fun B hB => ?_
  refine swp_seq ?_
  refine swp_region ?_
  refine sops_go rfl (st_assign (v := .d _) rfl rfl rfl ?_)
  refine sops_nil ?_
  refine swp_seq ?_
  refine swp_region ?_
  refine sops_go rfl (st_move (v := .d _) rfl rfl rfl ?_)
  refine sops_go rfl (so_indexStr rfl rfl rfl rfl rfl rfl (by omega) (by omega) ?_)
  refine sops_go rfl (st_call rfl rfl (hlong) ⟨na_d _, trivial⟩ rfl ?_)
  refine sops_go rfl (st_assign (v := .d _) rfl rfl rfl ?_)
  refine sops_nil ?_
  refine swp_seq ?_
  refine swp_seq ?_
  refine swp_region ?_
  refine sops_go rfl (st_move (v := .d _) rfl rfl rfl ?_)
  refine sops_go rfl (so_lenStr rfl rfl rfl rfl rfl ?_)
  refine sops_go rfl (st_move (v := .d _) rfl rfl rfl ?_)
  refine sops_go rfl (st_bin rfl rfl rfl rfl rfl ?_)
  refine sops_nil ?_
  refine swp_cond _ rfl (fun hc17 => ?_) (fun hc17 => ?_)
  · refine swp_seq ?_
    refine swp_region ?_
    refine sops_go rfl (st_assign (v := .d _) rfl rfl rfl ?_)
    refine sops_nil ?_
    refine swp_ret ?_
    with_reducible refine after_ret ?_
    exact fin_s0 ⟨_, rfl⟩ (fin_b rfl rfl rfl)
  · have hsn : s.size < n := by simp at hc17; omega
    have h2 : 2 ≤ n := by omega
    refine swp_skip ?_
    refine swp_seq ?_
    refine swp_region ?_
    refine sops_go rfl (st_move (v := .d _) rfl rfl rfl ?_)
    refine sops_go rfl (st_assign (v := .d _) rfl rfl rfl ?_)
    refine sops_nil ?_
    refine swp_seq ?_
    refine swp_region ?_
    refine sops_go rfl (st_move (v := .d _) rfl rfl rfl ?_)
    refine sops_go rfl (st_assign (v := .d _) rfl rfl rfl ?_)
    refine sops_nil ?_
    refine swp_seq ?_
    refine swp_block ?_
    refine swp_loopF (F := fun p : ByteArray × ByteArray => { t := upd (upd (upd (upd (fun _ => .any) 0 (.d (.v (.string s)))) 3 (.d (.v (.int .i64 n)))) 4 (.d (.v (.string p.1)))) 5 (.d (.v (.string p.2))), n := 87, h := fun _ => .dead, nx := 0 })
      (fun p => p.1.size ≤ n ∧ p.2.size = p.1.size) (fun p => n - p.1.size) (s, s) ⟨by show s.size ≤ n; omega, rfl⟩ ?_ ?_
    · refine wk_of rfl (Nat.le_of_ble_eq_true rfl) (by rw [hB]; exact Nat.zero_le _) (tle_upd (le_eq rfl rfl) (tle_upd (le_eq rfl rfl) (tle_upd (le_eq rfl rfl) (tle_upd (le_eq rfl rfl) (tle_any _))))) (hle_dead _) (dead_none)
    rintro ⟨lo, hi⟩ ⟨hl1, hl2⟩
    have hl1 : lo.size ≤ n := hl1
    have hl2 : hi.size = lo.size := hl2
    refine swp_seq ?_
    refine swp_seq ?_
    refine swp_region ?_
    refine sops_go rfl (st_move (v := .d _) rfl rfl rfl ?_)
    refine sops_go rfl (so_lenStr rfl rfl rfl rfl rfl ?_)
    refine sops_go rfl (st_move (v := .d _) rfl rfl rfl ?_)
    refine sops_go rfl (st_bin rfl rfl rfl rfl rfl ?_)
    refine sops_nil ?_
    refine swp_cond _ rfl (fun hc23 => ?_) (fun hc23 => ?_)
    · have hlt : lo.size < n := by simp at hc23; omega
      refine swp_skip ?_
      refine swp_block ?_
      refine swp_seq ?_
      refine swp_region ?_
      refine sops_go rfl (st_move (v := .d _) rfl rfl rfl ?_)
      refine sops_go rfl (st_bin (r := .string (lo ++ ⟨#[128]⟩)) rfl rfl rfl (bin_cat (by have : (⟨#[128]⟩ : ByteArray).size = 1 := rfl; omega)) rfl ?_)
      refine sops_go rfl (st_assign (v := .d _) rfl rfl rfl ?_)
      refine sops_nil ?_
      refine swp_region ?_
      refine sops_go rfl (st_move (v := .d _) rfl rfl rfl ?_)
      refine sops_go rfl (st_bin (r := .string (hi ++ ⟨#[191]⟩)) rfl rfl rfl (bin_cat (by have : (⟨#[191]⟩ : ByteArray).size = 1 := rfl; omega)) rfl ?_)
      refine sops_go rfl (st_assign (v := .d _) rfl rfl rfl ?_)
      refine sops_nil ?_
      have e1 : (lo ++ (⟨#[128]⟩ : ByteArray)).size = lo.size + 1 := by rw [ByteArray.size_append]; rfl
      have e2 : (hi ++ (⟨#[191]⟩ : ByteArray)).size = hi.size + 1 := by rw [ByteArray.size_append]; rfl
      refine ⟨(lo ++ ⟨#[128]⟩, hi ++ ⟨#[191]⟩), ⟨by show (lo ++ _).size ≤ n; omega, by show (hi ++ _).size = (lo ++ _).size; omega⟩, by show n - (lo ++ _).size < n - lo.size; omega, ?_⟩
      refine wk_of rfl (Nat.le_of_ble_eq_true rfl) (by rw [hB]; exact Nat.zero_le _) (tle_upd (le_eq rfl rfl) (tle_upd (le_eq rfl rfl) (tle_upd (le_eq rfl rfl) (tle_upd (le_eq rfl rfl) (tle_any _))))) (hle_dead _) (dead_none)
    · have hge : n ≤ lo.size := by simp at hc23; omega
      have hlow := unumber_pure lo n (by omega) h4 hge
      have hhigh := unumber_pure hi n (by omega) h4 (by omega)
      obtain ⟨a, ha⟩ : ∃ a, numOf lo n = a := ⟨_, rfl⟩
      obtain ⟨b, hb⟩ : ∃ b, numOf hi n = b := ⟨_, rfl⟩
      rw [ha] at hlow
      rw [hb] at hhigh
      refine swp_exit ?_
      with_reducible refine after_exit ?_
      with_reducible refine after_exit ?_
      refine inblk_hit ?_
      refine swp_seq ?_
      refine swp_region ?_
      refine sops_go rfl (st_move (v := .d _) rfl rfl rfl ?_)
      refine sops_go rfl (st_move (v := .d _) rfl rfl rfl ?_)
      refine sops_go rfl (st_call rfl rfl (hlow) ⟨na_d _, na_d _, trivial⟩ rfl ?_)
      refine sops_go rfl (st_assign (v := .d _) rfl rfl rfl ?_)
      refine sops_nil ?_
      refine swp_seq ?_
      refine swp_region ?_
      refine sops_go rfl (st_move (v := .d _) rfl rfl rfl ?_)
      refine sops_go rfl (st_move (v := .d _) rfl rfl rfl ?_)
      refine sops_go rfl (st_call rfl rfl (hhigh) ⟨na_d _, na_d _, trivial⟩ rfl ?_)
      refine sops_go rfl (st_assign (v := .d _) rfl rfl rfl ?_)
      refine sops_nil ?_
      refine swp_seq ?_
      refine swp_seq ?_
      refine swp_region ?_
      refine sops_go rfl (st_assign (v := .d _) rfl rfl rfl ?_)
      refine sops_nil ?_
      refine swp_block ?_
      refine swp_loopF (F := fun k : Nat => { t := upd (upd (upd (upd (upd (fun _ => .any) 0 (.d (.v (.string s)))) 3 (.d (.v (.int .i64 n)))) 6 (.d (.v (.int .i64 a)))) 7 (.d (.v (.int .i64 b)))) 8 (.d (.v (.int .i64 k))), n := 87, h := fun _ => .dead, nx := 0 })
        (fun k => k ≤ 2) (fun k => 2 - k) 0 (by omega) ?_ ?_
      · refine wk_of rfl (Nat.le_of_ble_eq_true rfl) (by rw [hB]; exact Nat.zero_le _) (tle_upd (le_eq rfl rfl) (tle_upd (le_eq rfl rfl) (tle_upd (le_eq rfl rfl) (tle_upd (le_eq rfl rfl) (tle_upd (le_eq rfl rfl) (tle_any _)))))) (hle_dead _) (dead_none)
      intro k hk
      have hk : k ≤ 2 := hk
      refine swp_seq ?_
      refine swp_seq ?_
      refine swp_region ?_
      refine sops_go rfl (st_move (v := .d _) rfl rfl rfl ?_)
      refine sops_go rfl (st_bin rfl rfl rfl rfl rfl ?_)
      refine sops_nil ?_
      refine swp_cond _ rfl (fun hc35 => ?_) (fun hc35 => ?_)
      · have hlt : k < 2 := by simp at hc35; omega
        obtain ⟨v, hv⟩ : ∃ v : Int, ([[.d (.v (.int .i64 a))], [.d (.v (.int .i64 b))]] : List (List AV))[k]? = some [.d (.v (.int .i64 v))] := by
          rcases (show k = 0 ∨ k = 1 by omega) with rfl | rfl
          · exact ⟨a, rfl⟩
          · exact ⟨b, rfl⟩
        refine swp_skip ?_
        refine swp_seq ?_
        refine swp_block ?_
        refine swp_seq ?_
        refine swp_region ?_
        refine sops_go rfl (st_move (v := .d _) rfl rfl rfl ?_)
        refine sops_go rfl (st_move (v := .d _) rfl rfl rfl ?_)
        refine sops_go rfl (so_buildSlice (rows := [[_], [_]]) rfl rfl rfl rfl rfl rfl rfl rfl rfl ?_)
        refine sops_go rfl (st_move (v := .d _) rfl rfl rfl ?_)
        refine sops_go rfl (so_indexOwn rfl rfl rfl rfl rfl rfl rfl rfl rfl (by omega) (by simp; omega) (by simp) ?_)
        refine sops_go rfl (so_load (v := .d (.v (.int .i64 v))) rfl rfl rfl (at_pe rfl (by simpa using hv)) rfl rfl rfl rfl ?_)
        refine sops_go rfl (st_assign (v := .d _) rfl rfl rfl ?_)
        refine sops_nil ?_
        refine swp_seq ?_
        refine swp_region ?_
        refine sops_go rfl (st_move (v := .d _) rfl rfl rfl ?_)
        refine sops_go rfl (st_call rfl rfl (uis_pure _) ⟨na_d _, trivial⟩ rfl ?_)
        refine sops_go rfl (st_move (v := .d _) rfl rfl rfl ?_)
        refine' sops_and (d := 46) (p := 58) [47, 48, 49, 50, 51, 52, 53, 54, 55, 56, 57] 12 rfl rfl rfl (fun hb46 => ?a46) (fun hb46 => ?b46) ?_
        case a46 =>
          refine sops_yes rfl rfl rfl rfl (st_move (v := .d _) rfl rfl rfl ?_)
          refine sops_yes rfl rfl rfl rfl (st_call rfl rfl (ubytes_pure _) ⟨na_d _, trivial⟩ rfl ?_)
          refine sops_yes rfl rfl rfl rfl (st_move (v := .d _) rfl rfl rfl ?_)
          refine sops_yes rfl rfl rfl rfl (so_lenStr rfl rfl rfl rfl rfl ?_)
          refine sops_yes rfl rfl rfl rfl (st_move (v := .d _) rfl rfl rfl ?_)
          refine sops_yes rfl rfl rfl rfl (st_call rfl rfl (ubytes_pure _) ⟨na_d _, trivial⟩ rfl ?_)
          refine sops_yes rfl rfl rfl rfl (so_lenStr rfl rfl rfl rfl rfl ?_)
          refine sops_yes rfl rfl rfl rfl (so_min rfl rfl rfl rfl rfl ?_)
          refine sops_yes rfl rfl rfl rfl (so_cutStr rfl rfl rfl rfl rfl rfl rfl (by omega) (by omega) (by omega) ?_)
          refine sops_yes rfl rfl rfl rfl (st_move (v := .d _) rfl rfl rfl ?_)
          refine sops_yes rfl rfl rfl rfl (st_bin rfl rfl rfl rfl rfl ?_)
          refine sops_go rfl (st_pick (v := .d _) rfl rfl rfl rfl ?_)
          refine sops_nil ?_
          exact ⟨rfl, rfl, rfl, rfl, [_, _, _, _, _, _, _, _, _, _, _], rfl, rfl⟩
        case b46 =>
          refine sops_no rfl rfl rfl rfl rfl ?_
          refine sops_no rfl rfl rfl rfl rfl ?_
          refine sops_no rfl rfl rfl rfl rfl ?_
          refine sops_no rfl rfl rfl rfl rfl ?_
          refine sops_no rfl rfl rfl rfl rfl ?_
          refine sops_no rfl rfl rfl rfl rfl ?_
          refine sops_no rfl rfl rfl rfl rfl ?_
          refine sops_no rfl rfl rfl rfl rfl ?_
          refine sops_no rfl rfl rfl rfl rfl ?_
          refine sops_no rfl rfl rfl rfl rfl ?_
          refine sops_no rfl rfl rfl rfl rfl ?_
          refine sops_go rfl (st_pick (v := .d _) rfl rfl rfl rfl ?_)
          refine sops_nil ?_
          exact ⟨rfl, rfl, rfl, rfl, [_, _, _, _, _, _, _, _, _, _, _], rfl, rfl⟩
        refine sops_go rfl (st_move (v := .d _) rfl rfl rfl ?_)
        refine' sops_and (d := 59) (p := 65) [60, 61, 62, 63, 64] 6 rfl rfl rfl (fun hb59 => ?a59) (fun hb59 => ?b59) ?_
        case a59 =>
          refine sops_yes rfl rfl rfl rfl (st_move (v := .d _) rfl rfl rfl ?_)
          refine sops_yes rfl rfl rfl rfl (st_call rfl rfl (ubytes_pure _) ⟨na_d _, trivial⟩ rfl ?_)
          refine sops_yes rfl rfl rfl rfl (so_lenStr rfl rfl rfl rfl rfl ?_)
          refine sops_yes rfl rfl rfl rfl (st_move (v := .d _) rfl rfl rfl ?_)
          refine sops_yes rfl rfl rfl rfl (st_bin rfl rfl rfl rfl rfl ?_)
          refine sops_go rfl (st_pick (v := .d _) rfl rfl rfl rfl ?_)
          refine sops_nil ?_
          exact ⟨rfl, rfl, rfl, rfl, [_, _, _, _, _], rfl, rfl⟩
        case b59 =>
          refine sops_no rfl rfl rfl rfl rfl ?_
          refine sops_no rfl rfl rfl rfl rfl ?_
          refine sops_no rfl rfl rfl rfl rfl ?_
          refine sops_no rfl rfl rfl rfl rfl ?_
          refine sops_no rfl rfl rfl rfl rfl ?_
          refine sops_go rfl (st_pick (v := .d _) rfl rfl rfl rfl ?_)
          refine sops_nil ?_
          exact ⟨rfl, rfl, rfl, rfl, [_, _, _, _, _], rfl, rfl⟩
        refine sops_nil ?_
        refine swp_cond _ rfl (fun hc65 => ?_) (fun hc65 => ?_)
        · refine swp_seq ?_
          refine swp_region ?_
          refine sops_go rfl (st_assign (v := .d _) rfl rfl rfl ?_)
          refine sops_nil ?_
          refine swp_ret ?_
          with_reducible refine inblk_ret ?_
          with_reducible refine after_ret ?_
          with_reducible refine after_ret ?_
          with_reducible refine inblk_ret ?_
          with_reducible refine after_ret ?_
          exact fin_s0 ⟨_, rfl⟩ (fin_b rfl rfl rfl)
        · refine swp_skip ?_
          refine swp_region ?_
          refine sops_go rfl (st_move (v := .d _) rfl rfl rfl ?_)
          refine sops_go rfl (st_bin rfl rfl rfl rfl rfl ?_)
          refine sops_go rfl (st_assign (v := .d _) rfl rfl rfl ?_)
          refine sops_nil ?_
          refine ⟨k + 1, hlt, by omega, ?_⟩
          refine wk_of rfl (Nat.le_of_ble_eq_true rfl) (by rw [hB]; exact Nat.zero_le _) (tle_upd (le_eq (next_i64 hlt (by omega)) rfl) (tle_upd (le_eq rfl rfl) (tle_upd (le_eq rfl rfl) (tle_upd (le_eq rfl rfl) (tle_upd (le_eq rfl rfl) (tle_any _)))))) (hle_dead _) (dead_none)
      · obtain ⟨m, hm, hms⟩ := least_at h2 h4
        refine swp_exit ?_
        with_reducible refine after_exit ?_
        with_reducible refine after_exit ?_
        refine inblk_hit ?_
        refine swp_seq ?_
        refine swp_region ?_
        refine sops_go rfl (so_buildSlice (rows := leastRow) rfl rfl rfl rfl rfl rfl rfl rfl rfl ?_)
        refine sops_go rfl (st_move (v := .d _) rfl rfl rfl ?_)
        refine sops_go rfl (so_indexOwn rfl rfl rfl rfl rfl rfl rfl rfl rfl (by omega) (by simp [leastRow]; omega) (by simp [leastRow]) ?_)
        refine sops_go rfl (so_load (v := .d (.v (.int .i64 m))) rfl rfl rfl (at_pe rfl (by simpa using hm)) rfl rfl rfl rfl ?_)
        refine sops_go rfl (st_assign (v := .d _) rfl rfl rfl ?_)
        refine sops_nil ?_
        refine swp_seq ?_
        refine swp_region ?_
        refine sops_go rfl (st_move (v := .d _) rfl rfl rfl ?_)
        refine sops_go rfl (st_move (v := .d _) rfl rfl rfl ?_)
        refine sops_go rfl (st_bin rfl rfl rfl rfl rfl ?_)
        refine sops_go rfl (st_move (v := .d _) rfl rfl rfl ?_)
        refine' sops_and (d := 73) (p := 77) [74, 75, 76] 4 rfl rfl rfl (fun hb73 => ?a73) (fun hb73 => ?b73) ?_
        case a73 =>
          refine sops_yes rfl rfl rfl rfl (st_move (v := .d _) rfl rfl rfl ?_)
          refine sops_yes rfl rfl rfl rfl (st_move (v := .d _) rfl rfl rfl ?_)
          refine sops_yes rfl rfl rfl rfl (st_bin rfl rfl rfl rfl rfl ?_)
          refine sops_go rfl (st_pick (v := .d _) rfl rfl rfl rfl ?_)
          refine sops_nil ?_
          exact ⟨rfl, rfl, rfl, rfl, [_, _, _], rfl, rfl⟩
        case b73 =>
          refine sops_no rfl rfl rfl rfl rfl ?_
          refine sops_no rfl rfl rfl rfl rfl ?_
          refine sops_no rfl rfl rfl rfl rfl ?_
          refine sops_go rfl (st_pick (v := .d _) rfl rfl rfl rfl ?_)
          refine sops_nil ?_
          exact ⟨rfl, rfl, rfl, rfl, [_, _, _], rfl, rfl⟩
        refine sops_go rfl (st_move (v := .d _) rfl rfl rfl ?_)
        refine' sops_and (d := 78) (p := 86) [79, 80, 81, 82, 83, 84, 85] 8 rfl rfl rfl (fun hb78 => ?a78) (fun hb78 => ?b78) ?_
        case a78 =>
          refine sops_yes rfl rfl rfl rfl (st_move (v := .d _) rfl rfl rfl ?_)
          refine sops_yes rfl rfl rfl rfl (st_call rfl rfl (ubytes_pure _) ⟨na_d _, trivial⟩ rfl ?_)
          refine sops_yes rfl rfl rfl rfl (st_move (v := .d _) rfl rfl rfl ?_)
          refine sops_yes rfl rfl rfl rfl (so_lenStr rfl rfl rfl rfl rfl ?_)
          refine sops_yes rfl rfl rfl rfl (so_cutStr rfl rfl rfl rfl rfl rfl rfl (by omega) (by omega) (by omega) ?_)
          refine sops_yes rfl rfl rfl rfl (st_move (v := .d _) rfl rfl rfl ?_)
          refine sops_yes rfl rfl rfl rfl (st_bin rfl rfl rfl rfl rfl ?_)
          refine sops_go rfl (st_pick (v := .d _) rfl rfl rfl rfl ?_)
          refine sops_nil ?_
          exact ⟨rfl, rfl, rfl, rfl, [_, _, _, _, _, _, _], rfl, rfl⟩
        case b78 =>
          refine sops_no rfl rfl rfl rfl rfl ?_
          refine sops_no rfl rfl rfl rfl rfl ?_
          refine sops_no rfl rfl rfl rfl rfl ?_
          refine sops_no rfl rfl rfl rfl rfl ?_
          refine sops_no rfl rfl rfl rfl rfl ?_
          refine sops_no rfl rfl rfl rfl rfl ?_
          refine sops_no rfl rfl rfl rfl rfl ?_
          refine sops_go rfl (st_pick (v := .d _) rfl rfl rfl rfl ?_)
          refine sops_nil ?_
          exact ⟨rfl, rfl, rfl, rfl, [_, _, _, _, _, _, _], rfl, rfl⟩
        refine sops_go rfl (st_assign (v := .d _) rfl rfl rfl ?_)
        refine sops_nil ?_
        refine swp_ret ?_
        exact fin_s0 ⟨_, rfl⟩ (fin_b rfl rfl rfl)
end Go.Proofs.YtdcpnpcmgfmenaaGreatDoor
/-
  Walks: the document's own answer on characters: Decode, Count, Valid. Conditions: none.
-/
set_option linter.unusedVariables false
set_option maxRecDepth 100000
namespace Go.Proofs.YtdcpnpcmgfmenaaGreatDoor
open Go Go.Proofs.YtdcpnpcmgfmenaaGreatDoor.Lg

/-- A text's first character, in the document's way. -/
def decN (t : ByteArray) (n : Nat) : Option (Int × Nat) :=
  if 0 < n ∧ n ≤ t.size then (if (charOk (numOf t n) && (bytesOf (numOf t n)).toList == (t.extract 0 n).toList) = true then some (numOf t n, n) else none) else none
def decU (t : ByteArray) : Option (Int × Nat) := decN t (longOf (byteAt t 0)).toNat
theorem decN_some {t : ByteArray} {n : Nat} {p : Int × Nat} (h : decN t n = some p) : 1 ≤ p.2 ∧ p.2 ≤ t.size := by
  unfold decN at h
  split at h
  · rename_i h1
    split at h
    · cases h; exact h1
    · cases h
  · cases h

def DecR (t : ByteArray) (r : AV) : Prop := ∃ (c : Int) (m : Nat) (e : Int), r = .tup [.d (.v (.int .i64 c)), .d (.v (.int .i64 m)), .d (.v (.int .i64 e))] ∧ ((e = 0 ∧ decU t = some (c, m)) ∨ (e ≠ 0 ∧ decU t = none))
theorem decR_some {t : ByteArray} {c : Int} {m : Nat} (h : decU t = some (c, m)) : DecR t (.tup [.d (.v (.int .i64 c)), .d (.v (.int .i64 m)), .d (.v (.int .i64 0))]) := ⟨c, m, 0, rfl, .inl ⟨rfl, h⟩⟩
theorem decR_none {t : ByteArray} {e : Int} (he : e ≠ 0) (h : decU t = none) : DecR t (.tup [.d (.v (.int .i64 0)), .d (.v (.int .i64 0)), .d (.v (.int .i64 e))]) := ⟨0, 0, e, rfl, .inr ⟨he, h⟩⟩

theorem udecode_s (s : ByteArray) (k : Nat) (hk : k < s.size) (hs : fits s) : PureS env 82 [.d (.v (.string s)), .d (.v (.int .i64 k))] (DecR (s.extract k s.size)) := by
  obtain ⟨t, ht⟩ : ∃ t, s.extract k s.size = t := ⟨_, rfl⟩
  have htz : t.size = s.size - k := by rw [← ht, ByteArray.size_extract]; omega
  rw [ht]
  have hlong := ulong_pure (byteAt t 0)
  obtain ⟨n, hn, h4⟩ := longOf_nat (byteAt t 0)
  rw [hn] at hlong
  have hS : decU t = decN t n := by unfold decU; rw [hn]; rfl
  unfold decN at hS
  have hbeg := ubegins_s t (by omega)
  refine pureS_of_body Tryz.func82 rfl rfl rfl fun B hB => ?_
  refine swp_seq ?_
  refine swp_region ?_
  refine sops_go rfl (st_assign (v := .d _) rfl rfl rfl ?_)
  refine sops_go rfl (st_assign (v := .d _) rfl rfl rfl ?_)
  refine sops_go rfl (st_assign (v := .d _) rfl rfl rfl ?_)
  refine sops_nil ?_
  refine swp_seq ?_
  refine swp_seq ?_
  refine swp_region ?_
  refine sops_go rfl (st_move (v := .d _) rfl rfl rfl ?_)
  refine sops_go rfl (st_bin rfl rfl rfl rfl rfl ?_)
  refine sops_go rfl (st_move (v := .d _) rfl rfl rfl ?_)
  refine' sops_or (d := 11) (p := 16) [12, 13, 14, 15] 5 rfl rfl rfl (fun hb11 => ?a11) (fun hb11 => ?b11) ?_
  case a11 =>
    refine sops_yes rfl rfl rfl rfl (st_move (v := .d _) rfl rfl rfl ?_)
    refine sops_yes rfl rfl rfl rfl (st_move (v := .d _) rfl rfl rfl ?_)
    refine sops_yes rfl rfl rfl rfl (so_lenStr rfl rfl rfl rfl rfl ?_)
    refine sops_yes rfl rfl rfl rfl (st_bin rfl rfl rfl rfl rfl ?_)
    refine sops_go rfl (st_pick (v := .d _) rfl rfl rfl rfl ?_)
    refine sops_nil ?_
    exact ⟨rfl, rfl, rfl, rfl, [_, _, _, _], rfl, rfl⟩
  case b11 =>
    refine sops_no rfl rfl rfl rfl rfl ?_
    refine sops_no rfl rfl rfl rfl rfl ?_
    refine sops_no rfl rfl rfl rfl rfl ?_
    refine sops_no rfl rfl rfl rfl rfl ?_
    refine sops_go rfl (st_pick (v := .d _) rfl rfl rfl rfl ?_)
    refine sops_nil ?_
    exact ⟨rfl, rfl, rfl, rfl, [_, _, _, _], rfl, rfl⟩
  refine sops_nil ?_
  refine swp_cond _ rfl (fun hc16 => ?_) (fun hc16 => ?_)
  · exact absurd hc16 (by simp; omega)
  · refine swp_skip ?_
    refine swp_seq ?_
    refine swp_region ?_
    refine sops_go rfl (st_move (v := .d _) rfl rfl rfl ?_)
    refine sops_go rfl (st_move (v := .d _) rfl rfl rfl ?_)
    refine sops_go rfl (so_cutStr rfl rfl rfl rfl rfl rfl rfl (by omega) (by omega) (by omega) ?_)
    rw [show s.extract ((k : Int)).toNat ((s.size : Int)).toNat = t from ht]
    refine sops_go rfl (st_assign (v := .d _) rfl rfl rfl ?_)
    refine sops_nil ?_
    refine swp_seq ?_
    refine swp_region ?_
    refine sops_go rfl (st_move (v := .d _) rfl rfl rfl ?_)
    refine sops_go rfl (so_indexStr rfl rfl rfl rfl rfl rfl (by omega) (by omega) ?_)
    refine sops_go rfl (st_call rfl rfl (hlong) ⟨na_d _, trivial⟩ rfl ?_)
    refine sops_go rfl (st_assign (v := .d _) rfl rfl rfl ?_)
    refine sops_nil ?_
    refine swp_seq ?_
    refine swp_seq ?_
    refine swp_region ?_
    refine sops_go rfl (st_move (v := .d _) rfl rfl rfl ?_)
    refine sops_go rfl (st_bin rfl rfl rfl rfl rfl ?_)
    refine sops_go rfl (st_move (v := .d _) rfl rfl rfl ?_)
    refine' sops_and (d := 25) (p := 30) [26, 27, 28, 29] 5 rfl rfl rfl (fun hb25 => ?a25) (fun hb25 => ?b25) ?_
    case a25 =>
      refine sops_yes rfl rfl rfl rfl (st_move (v := .d _) rfl rfl rfl ?_)
      refine sops_yes rfl rfl rfl rfl (so_lenStr rfl rfl rfl rfl rfl ?_)
      refine sops_yes rfl rfl rfl rfl (st_move (v := .d _) rfl rfl rfl ?_)
      refine sops_yes rfl rfl rfl rfl (st_bin rfl rfl rfl rfl rfl ?_)
      refine sops_go rfl (st_pick (v := .d _) rfl rfl rfl rfl ?_)
      refine sops_nil ?_
      exact ⟨rfl, rfl, rfl, rfl, [_, _, _, _], rfl, rfl⟩
    case b25 =>
      refine sops_no rfl rfl rfl rfl rfl ?_
      refine sops_no rfl rfl rfl rfl rfl ?_
      refine sops_no rfl rfl rfl rfl rfl ?_
      refine sops_no rfl rfl rfl rfl rfl ?_
      refine sops_go rfl (st_pick (v := .d _) rfl rfl rfl rfl ?_)
      refine sops_nil ?_
      exact ⟨rfl, rfl, rfl, rfl, [_, _, _, _], rfl, rfl⟩
    refine sops_nil ?_
    refine swp_cond _ rfl (fun hc30 => ?_) (fun hc30 => ?_)
    · have hb : 0 < n ∧ n ≤ t.size := by simp at hc30; omega
      rw [if_pos hb] at hS
      have hnum := unumber_pure t n (by omega) h4 hb.2
      generalize numOf t n = r at hS hnum
      refine swp_seq ?_
      refine swp_region ?_
      refine sops_go rfl (st_move (v := .d _) rfl rfl rfl ?_)
      refine sops_go rfl (st_move (v := .d _) rfl rfl rfl ?_)
      refine sops_go rfl (st_call rfl rfl (hnum) ⟨na_d _, na_d _, trivial⟩ rfl ?_)
      refine sops_go rfl (st_assign (v := .d _) rfl rfl rfl ?_)
      refine sops_nil ?_
      refine swp_seq ?_
      refine swp_regionQ 8 (by kernel_rfl) rfl rfl rfl ?_
      refine h0_go rfl (st_move (v := .d _) rfl rfl rfl ⟨_, rfl, ?_⟩)
      refine h0_go rfl (st_call rfl rfl (uis_pure _) ⟨na_d _, trivial⟩ rfl ⟨_, rfl, ?_⟩)
      refine h0_go rfl (st_move (v := .d _) rfl rfl rfl ⟨_, rfl, ?_⟩)
      refine h0_case 36 rfl (fun hb36 => ?_) (fun hb36 => ?_)
      · rw [hb36, Bool.true_and] at hS
        refine h0_yes rfl rfl rfl rfl (st_move (v := .d _) rfl rfl rfl ⟨_, rfl, ?_⟩)
        refine h0_yes rfl rfl rfl rfl (st_call rfl rfl (ubytes_pure _) ⟨na_d _, trivial⟩ rfl ⟨_, rfl, ?_⟩)
        refine h0_yes rfl rfl rfl rfl (st_move (v := .d _) rfl rfl rfl ⟨_, rfl, ?_⟩)
        refine h0_yes rfl rfl rfl rfl (st_move (v := .d _) rfl rfl rfl ⟨_, rfl, ?_⟩)
        refine h0_yes rfl rfl rfl rfl (so_cutStr rfl rfl rfl rfl rfl rfl rfl (by omega) (by omega) (by omega) ⟨_, rfl, ?_⟩)
        refine h0_nil ?_
        refine sops_yes rfl rfl rfl rfl (st_bin rfl rfl rfl rfl rfl ?_)
        refine sops_go rfl (st_pick (v := .d _) rfl rfl rfl rfl ?_)
        refine sops_nil ?_
        refine swp_cond _ rfl (fun hc43 => ?_) (fun hc43 => ?_)
        · rw [if_pos (show ((bytesOf r).toList == (t.extract 0 n).toList) = true from hc43)] at hS
          refine swp_seq ?_
          refine swp_region ?_
          refine sops_go rfl (st_move (v := .d _) rfl rfl rfl ?_)
          refine sops_go rfl (st_move (v := .d _) rfl rfl rfl ?_)
          refine sops_go rfl (st_assign (v := .d _) rfl rfl rfl ?_)
          refine sops_go rfl (st_assign (v := .d _) rfl rfl rfl ?_)
          refine sops_go rfl (st_assign (v := .d _) rfl rfl rfl ?_)
          refine sops_nil ?_
          refine swp_ret ?_
          with_reducible refine after_ret ?_
          exact fin_s0 (decR_some hS) (fin_3v rfl rfl rfl rfl rfl rfl rfl)
        · rw [if_neg (by rw [show ((bytesOf r).toList == (t.extract 0 n).toList) = false from hc43]; simp)] at hS
          refine swp_skip ?_
          refine swp_seq ?_
          refine swp_seq ?_
          refine swp_region ?_
          refine sops_go rfl (st_move (v := .d _) rfl rfl rfl ?_)
          refine sops_go rfl (st_move (v := .d _) rfl rfl rfl ?_)
          refine sops_go rfl (so_lenStr rfl rfl rfl rfl rfl ?_)
          refine sops_go rfl (st_bin rfl rfl rfl rfl rfl ?_)
          refine sops_go rfl (st_move (v := .d _) rfl rfl rfl ?_)
          refine sops_case 50 rfl (fun hb50 => ?_) (fun hb50 => ?_)
          · refine sops_yes rfl rfl rfl rfl (st_move (v := .d _) rfl rfl rfl ?_)
            refine sops_yes rfl rfl rfl rfl (st_callS rfl rfl (hbeg) ⟨na_d _, trivial⟩ rfl fun r hr => ?_)
            obtain ⟨b1, rfl⟩ := hr
            refine sops_go rfl (st_pick (v := .d _) rfl rfl rfl rfl ?_)
            refine sops_nil ?_
            refine swp_cond _ rfl (fun hc53 => ?_) (fun hc53 => ?_)
            · refine swp_seq ?_
              refine swp_region ?_
              refine sops_go rfl (st_assign (v := .d _) rfl rfl rfl ?_)
              refine sops_go rfl (st_assign (v := .d _) rfl rfl rfl ?_)
              refine sops_go rfl (st_assign (v := .d _) rfl rfl rfl ?_)
              refine sops_nil ?_
              refine swp_ret ?_
              with_reducible refine after_ret ?_
              exact fin_s0 (decR_none (by decide) hS) (fin_3v rfl rfl rfl rfl rfl rfl rfl)
            · refine swp_skip ?_
              refine swp_seq ?_
              refine swp_region ?_
              refine sops_go rfl (st_assign (v := .d _) rfl rfl rfl ?_)
              refine sops_go rfl (st_assign (v := .d _) rfl rfl rfl ?_)
              refine sops_go rfl (st_assign (v := .d _) rfl rfl rfl ?_)
              refine sops_nil ?_
              refine swp_ret ?_
              exact fin_s0 (decR_none (by decide) hS) (fin_3v rfl rfl rfl rfl rfl rfl rfl)
          · refine sops_no rfl rfl rfl rfl rfl ?_
            refine sops_no rfl rfl rfl rfl rfl ?_
            refine sops_go rfl (st_pick (v := .d _) rfl rfl rfl rfl ?_)
            refine sops_nil ?_
            refine swp_condF rfl ?_
            refine swp_skip ?_
            refine swp_seq ?_
            refine swp_region ?_
            refine sops_go rfl (st_assign (v := .d _) rfl rfl rfl ?_)
            refine sops_go rfl (st_assign (v := .d _) rfl rfl rfl ?_)
            refine sops_go rfl (st_assign (v := .d _) rfl rfl rfl ?_)
            refine sops_nil ?_
            refine swp_ret ?_
            exact fin_s0 (decR_none (by decide) hS) (fin_3v rfl rfl rfl rfl rfl rfl rfl)
      · rw [hb36, Bool.false_and, if_neg (by simp)] at hS
        refine h0_no rfl rfl rfl rfl rfl ?_
        refine h0_no rfl rfl rfl rfl rfl ?_
        refine h0_no rfl rfl rfl rfl rfl ?_
        refine h0_no rfl rfl rfl rfl rfl ?_
        refine h0_no rfl rfl rfl rfl rfl ?_
        refine h0_nil ?_
        refine sops_no rfl rfl rfl rfl rfl ?_
        refine sops_go rfl (st_pick (v := .d _) rfl rfl rfl rfl ?_)
        refine sops_nil ?_
        refine swp_condF rfl ?_
        refine swp_skip ?_
        refine swp_seq ?_
        refine swp_seq ?_
        refine swp_region ?_
        refine sops_go rfl (st_move (v := .d _) rfl rfl rfl ?_)
        refine sops_go rfl (st_move (v := .d _) rfl rfl rfl ?_)
        refine sops_go rfl (so_lenStr rfl rfl rfl rfl rfl ?_)
        refine sops_go rfl (st_bin rfl rfl rfl rfl rfl ?_)
        refine sops_go rfl (st_move (v := .d _) rfl rfl rfl ?_)
        refine sops_case 50 rfl (fun hb50 => ?_) (fun hb50 => ?_)
        · refine sops_yes rfl rfl rfl rfl (st_move (v := .d _) rfl rfl rfl ?_)
          refine sops_yes rfl rfl rfl rfl (st_callS rfl rfl (hbeg) ⟨na_d _, trivial⟩ rfl fun r hr => ?_)
          obtain ⟨b1, rfl⟩ := hr
          refine sops_go rfl (st_pick (v := .d _) rfl rfl rfl rfl ?_)
          refine sops_nil ?_
          refine swp_cond _ rfl (fun hc53 => ?_) (fun hc53 => ?_)
          · refine swp_seq ?_
            refine swp_region ?_
            refine sops_go rfl (st_assign (v := .d _) rfl rfl rfl ?_)
            refine sops_go rfl (st_assign (v := .d _) rfl rfl rfl ?_)
            refine sops_go rfl (st_assign (v := .d _) rfl rfl rfl ?_)
            refine sops_nil ?_
            refine swp_ret ?_
            with_reducible refine after_ret ?_
            exact fin_s0 (decR_none (by decide) hS) (fin_3v rfl rfl rfl rfl rfl rfl rfl)
          · refine swp_skip ?_
            refine swp_seq ?_
            refine swp_region ?_
            refine sops_go rfl (st_assign (v := .d _) rfl rfl rfl ?_)
            refine sops_go rfl (st_assign (v := .d _) rfl rfl rfl ?_)
            refine sops_go rfl (st_assign (v := .d _) rfl rfl rfl ?_)
            refine sops_nil ?_
            refine swp_ret ?_
            exact fin_s0 (decR_none (by decide) hS) (fin_3v rfl rfl rfl rfl rfl rfl rfl)
        · refine sops_no rfl rfl rfl rfl rfl ?_
          refine sops_no rfl rfl rfl rfl rfl ?_
          refine sops_go rfl (st_pick (v := .d _) rfl rfl rfl rfl ?_)
          refine sops_nil ?_
          refine swp_condF rfl ?_
          refine swp_skip ?_
          refine swp_seq ?_
          refine swp_region ?_
          refine sops_go rfl (st_assign (v := .d _) rfl rfl rfl ?_)
          refine sops_go rfl (st_assign (v := .d _) rfl rfl rfl ?_)
          refine sops_go rfl (st_assign (v := .d _) rfl rfl rfl ?_)
          refine sops_nil ?_
          refine swp_ret ?_
          exact fin_s0 (decR_none (by decide) hS) (fin_3v rfl rfl rfl rfl rfl rfl rfl)
    · rw [if_neg (by simp at hc30; omega)] at hS
      refine swp_skip ?_
      refine swp_seq ?_
      refine swp_seq ?_
      refine swp_region ?_
      refine sops_go rfl (st_move (v := .d _) rfl rfl rfl ?_)
      refine sops_go rfl (st_move (v := .d _) rfl rfl rfl ?_)
      refine sops_go rfl (so_lenStr rfl rfl rfl rfl rfl ?_)
      refine sops_go rfl (st_bin rfl rfl rfl rfl rfl ?_)
      refine sops_go rfl (st_move (v := .d _) rfl rfl rfl ?_)
      refine sops_case 50 rfl (fun hb50 => ?_) (fun hb50 => ?_)
      · refine sops_yes rfl rfl rfl rfl (st_move (v := .d _) rfl rfl rfl ?_)
        refine sops_yes rfl rfl rfl rfl (st_callS rfl rfl (hbeg) ⟨na_d _, trivial⟩ rfl fun r hr => ?_)
        obtain ⟨b1, rfl⟩ := hr
        refine sops_go rfl (st_pick (v := .d _) rfl rfl rfl rfl ?_)
        refine sops_nil ?_
        refine swp_cond _ rfl (fun hc53 => ?_) (fun hc53 => ?_)
        · refine swp_seq ?_
          refine swp_region ?_
          refine sops_go rfl (st_assign (v := .d _) rfl rfl rfl ?_)
          refine sops_go rfl (st_assign (v := .d _) rfl rfl rfl ?_)
          refine sops_go rfl (st_assign (v := .d _) rfl rfl rfl ?_)
          refine sops_nil ?_
          refine swp_ret ?_
          with_reducible refine after_ret ?_
          exact fin_s0 (decR_none (by decide) hS) (fin_3v rfl rfl rfl rfl rfl rfl rfl)
        · refine swp_skip ?_
          refine swp_seq ?_
          refine swp_region ?_
          refine sops_go rfl (st_assign (v := .d _) rfl rfl rfl ?_)
          refine sops_go rfl (st_assign (v := .d _) rfl rfl rfl ?_)
          refine sops_go rfl (st_assign (v := .d _) rfl rfl rfl ?_)
          refine sops_nil ?_
          refine swp_ret ?_
          exact fin_s0 (decR_none (by decide) hS) (fin_3v rfl rfl rfl rfl rfl rfl rfl)
      · refine sops_no rfl rfl rfl rfl rfl ?_
        refine sops_no rfl rfl rfl rfl rfl ?_
        refine sops_go rfl (st_pick (v := .d _) rfl rfl rfl rfl ?_)
        refine sops_nil ?_
        refine swp_condF rfl ?_
        refine swp_skip ?_
        refine swp_seq ?_
        refine swp_region ?_
        refine sops_go rfl (st_assign (v := .d _) rfl rfl rfl ?_)
        refine sops_go rfl (st_assign (v := .d _) rfl rfl rfl ?_)
        refine sops_go rfl (st_assign (v := .d _) rfl rfl rfl ?_)
        refine sops_nil ?_
        refine swp_ret ?_
        exact fin_s0 (decR_none (by decide) hS) (fin_3v rfl rfl rfl rfl rfl rfl rfl)

/-- Is a text one of characters, from a place on? -/
def validU : Nat → ByteArray → Nat → Bool
  | 0, _, _ => true
  | f + 1, s, k => bif decide (k < s.size) then (decU (s.extract k s.size)).elim false (fun p => validU f s (k + p.2)) else true
theorem validU_on {f : Nat} {s : ByteArray} {k : Nat} (h : k < s.size) : validU (f + 1) s k = (decU (s.extract k s.size)).elim false (fun p => validU f s (k + p.2)) := by
  show cond (decide (k < s.size)) _ true = _
  rw [decide_eq_true h]; rfl
theorem validU_end {f : Nat} {s : ByteArray} {k : Nat} (h : s.size ≤ k) : validU f s k = true := by
  cases f with
  | zero => rfl
  | succ f =>
    show cond (decide (k < s.size)) _ true = _
    rw [decide_eq_false (by omega)]; rfl

theorem ucount_s (s : ByteArray) (hs : fits s) : PureS env 78 [.d (.v (.string s))] (fun r => ∃ c e : Int, r = .tup [.d (.v (.int .i64 c)), .d (.v (.int .i64 e))] ∧ (e == 0) = validU s.size s 0) := by
  have hs' : s.size ≤ 9223372036854775807 := by unfold fits at hs; omega
  refine pureS_of_body Tryz.func78 rfl rfl rfl fun B hB => ?_
  refine swp_seq ?_
  refine swp_region ?_
  refine sops_go rfl (st_assign (v := .d _) rfl rfl rfl ?_)
  refine sops_go rfl (st_assign (v := .d _) rfl rfl rfl ?_)
  refine sops_nil ?_
  refine swp_seq ?_
  refine swp_region ?_
  refine sops_go rfl (st_assign (v := .d _) rfl rfl rfl ?_)
  refine sops_nil ?_
  refine swp_seq ?_
  refine swp_seq ?_
  refine swp_region ?_
  refine sops_go rfl (st_assign (v := .d _) rfl rfl rfl ?_)
  refine sops_nil ?_
  refine swp_block ?_
  refine swp_loopF (F := fun p : Int × Nat × Nat => { t := upd (upd (upd (fun _ => .any) 0 (.d (.v (.string s)))) 4 (.d (.v (.int .i64 p.1)))) 5 (.d (.v (.int .i64 p.2.1))), n := 29, h := fun _ => .dead, nx := 0 })
    (fun p => p.2.1 ≤ s.size ∧ s.size - p.2.1 ≤ p.2.2 ∧ validU s.size s 0 = validU p.2.2 s p.2.1) (fun p => s.size - p.2.1) (0, 0, s.size) ⟨Nat.zero_le _, by show s.size - 0 ≤ s.size; omega, rfl⟩ ?_ ?_
  · refine wk_of rfl (Nat.le_of_ble_eq_true rfl) (by rw [hB]; exact Nat.zero_le _) (tle_upd (le_eq rfl rfl) (tle_upd (le_eq rfl rfl) (tle_upd (le_eq rfl rfl) (tle_any _)))) (hle_dead _) (dead_none)
  rintro ⟨c, k, f⟩ ⟨hk, hf, hS⟩
  have hk : k ≤ s.size := hk
  have hf : s.size - k ≤ f := hf
  have hS : validU s.size s 0 = validU f s k := hS
  refine swp_seq ?_
  refine swp_seq ?_
  refine swp_region ?_
  refine sops_go rfl (st_move (v := .d _) rfl rfl rfl ?_)
  refine sops_go rfl (st_move (v := .d _) rfl rfl rfl ?_)
  refine sops_go rfl (so_lenStr rfl rfl rfl rfl rfl ?_)
  refine sops_go rfl (st_bin rfl rfl rfl rfl rfl ?_)
  refine sops_nil ?_
  refine swp_cond _ rfl (fun hc12 => ?_) (fun hc12 => ?_)
  · have hlt : k < s.size := by simp at hc12; omega
    obtain ⟨f, rfl⟩ : ∃ g, f = g + 1 := ⟨f - 1, by omega⟩
    rw [validU_on (f := f) hlt] at hS
    have hdec := udecode_s s k hlt hs
    have hsz : (s.extract k s.size).size = s.size - k := by rw [ByteArray.size_extract]; omega
    have hsome : ∀ p, decU (s.extract k s.size) = some p → 1 ≤ p.2 ∧ p.2 ≤ (s.extract k s.size).size := fun p h => decN_some h
    refine swp_skip ?_
    refine swp_block ?_
    refine swp_seq ?_
    refine swp_region ?_
    refine sops_go rfl (st_move (v := .d _) rfl rfl rfl ?_)
    refine sops_go rfl (st_move (v := .d _) rfl rfl rfl ?_)
    refine sops_go rfl (st_callS rfl rfl (hdec) ⟨na_d _, na_d _, trivial⟩ rfl fun r hr => ?_)
    obtain ⟨c1, m, e, rfl, hd⟩ := hr
    refine sops_go rfl (st_move (v := .tup _) rfl rfl rfl ?_)
    refine sops_go rfl (st_extract (c := .d _) rfl rfl rfl rfl ?_)
    refine sops_go rfl (st_extract (c := .d _) rfl rfl rfl rfl ?_)
    refine sops_go rfl (st_extract (c := .d _) rfl rfl rfl rfl ?_)
    refine sops_go rfl (st_assign (v := .d _) rfl rfl rfl ?_)
    refine sops_go rfl (st_assign (v := .d _) rfl rfl rfl ?_)
    refine sops_go rfl (st_assign (v := .d _) rfl rfl rfl ?_)
    refine sops_nil ?_
    refine swp_seq ?_
    refine swp_seq ?_
    refine swp_region ?_
    refine sops_go rfl (st_move (v := .d _) rfl rfl rfl ?_)
    refine sops_go rfl (st_bin rfl rfl rfl rfl rfl ?_)
    refine sops_nil ?_
    refine swp_cond _ rfl (fun hc21 => ?_) (fun hc21 => ?_)
    · have he : e ≠ 0 := by simpa using hc21
      rcases hd with ⟨h1, _⟩ | ⟨_, h1⟩
      · exact absurd h1 he
      rw [h1] at hS
      refine swp_seq ?_
      refine swp_region ?_
      refine sops_go rfl (st_move (v := .d _) rfl rfl rfl ?_)
      refine sops_go rfl (st_assign (v := .d _) rfl rfl rfl ?_)
      refine sops_go rfl (st_assign (v := .d _) rfl rfl rfl ?_)
      refine sops_nil ?_
      refine swp_ret ?_
      with_reducible refine after_ret ?_
      with_reducible refine inblk_ret ?_
      with_reducible refine after_ret ?_
      with_reducible refine inblk_ret ?_
      with_reducible refine after_ret ?_
      exact fin_s0 ⟨0, e, rfl, by rw [hS]; simpa using he⟩ (fin_2v rfl rfl rfl rfl rfl)
    · have he : e = 0 := by simpa using hc21
      rcases hd with ⟨_, h1⟩ | ⟨h1, _⟩
      rotate_left
      · exact absurd he h1
      rw [h1] at hS
      have hS : validU s.size s 0 = validU f s (k + m) := hS
      obtain ⟨h2, h3⟩ := hsome _ h1
      have h2 : 1 ≤ m := h2
      have h3 : m ≤ (s.extract k s.size).size := h3
      rw [hsz] at h3
      have hkm : AV.d (.v (.int .i64 (IntKind.i64.wrap ((k : Int) + (m : Int))))) = AV.d (.v (.int .i64 ((k + m : Nat) : Int))) := add_i64 (by omega) (by omega)
      refine swp_skip ?_
      refine swp_seq ?_
      refine swp_region ?_
      refine sops_go rfl (st_move (v := .d _) rfl rfl rfl ?_)
      refine sops_go rfl (st_move (v := .d _) rfl rfl rfl ?_)
      refine sops_go rfl (st_bin rfl rfl rfl rfl rfl ?_)
      refine sops_go rfl (st_assign (v := .d _) rfl rfl rfl ?_)
      refine sops_nil ?_
      refine swp_region ?_
      refine sops_go rfl (st_move (v := .d _) rfl rfl rfl ?_)
      refine sops_go rfl (st_bin rfl rfl rfl rfl rfl ?_)
      refine sops_go rfl (st_assign (v := .d _) rfl rfl rfl ?_)
      refine sops_nil ?_
      refine ⟨(IntKind.i64.wrap (c + 1), k + m, f), ⟨by show k + m ≤ s.size; omega, by show s.size - (k + m) ≤ f; omega, hS⟩, by show s.size - (k + m) < s.size - k; omega, ?_⟩
      refine wk_of rfl (Nat.le_of_ble_eq_true rfl) (by rw [hB]; exact Nat.zero_le _) (tle_upd (le_eq (hkm) rfl) (tle_upd (le_eq rfl rfl) (tle_upd (le_eq rfl rfl) (tle_any _)))) (hle_dead _) (dead_none)
  · have hge : s.size ≤ k := by simp at hc12; omega
    rw [validU_end hge] at hS
    refine swp_exit ?_
    with_reducible refine after_exit ?_
    with_reducible refine after_exit ?_
    refine inblk_hit ?_
    refine swp_seq ?_
    refine swp_region ?_
    refine sops_go rfl (st_move (v := .d _) rfl rfl rfl ?_)
    refine sops_go rfl (st_assign (v := .d _) rfl rfl rfl ?_)
    refine sops_go rfl (st_assign (v := .d _) rfl rfl rfl ?_)
    refine sops_nil ?_
    refine swp_ret ?_
    exact fin_s0 ⟨c, 0, rfl, by rw [hS]; rfl⟩ (fin_2v rfl rfl rfl rfl rfl)

theorem uvalid_pure (s : ByteArray) (hs : fits s) : Pure env 72 [.d (.v (.string s))] (.d (.v (.bool (validU s.size s 0)))) := by
  have hcount := ucount_s s hs
  refine pure_of_body Tryz.func72 rfl rfl rfl fun B hB => ?_
  refine swp_seq ?_
  refine swp_region ?_
  refine sops_go rfl (st_assign (v := .d _) rfl rfl rfl ?_)
  refine sops_nil ?_
  refine swp_seq ?_
  refine swp_region ?_
  refine sops_go rfl (st_move (v := .d _) rfl rfl rfl ?_)
  refine sops_go rfl (st_callS rfl rfl (hcount) ⟨na_d _, trivial⟩ rfl fun r hr => ?_)
  obtain ⟨c, e, rfl, hd⟩ := hr
  refine sops_go rfl (st_move (v := .tup _) rfl rfl rfl ?_)
  refine sops_go rfl (st_extract (c := .d _) rfl rfl rfl rfl ?_)
  refine sops_go rfl (st_extract (c := .d _) rfl rfl rfl rfl ?_)
  refine sops_go rfl (st_assign (v := .d _) rfl rfl rfl ?_)
  refine sops_go rfl (st_assign (v := .d _) rfl rfl rfl ?_)
  refine sops_nil ?_
  refine swp_seq ?_
  refine swp_region ?_
  refine sops_go rfl (st_move (v := .d _) rfl rfl rfl ?_)
  refine sops_go rfl (st_bin rfl rfl rfl rfl rfl ?_)
  refine sops_go rfl (st_assign (v := .d _) rfl rfl rfl ?_)
  refine sops_nil ?_
  refine swp_ret ?_
  exact fin_b rfl rfl hd.symm
end Go.Proofs.YtdcpnpcmgfmenaaGreatDoor
/-
  The document's valid texts are the library's. No program in sight. Conditions: none.
-/
set_option linter.unusedVariables false
set_option maxRecDepth 100000
namespace Go.Proofs.YtdcpnpcmgfmenaaGreatDoor
open Go Go.Proofs.YtdcpnpcmgfmenaaGreatDoor.Lg

def bt (t : ByteArray) (i : Nat) : Nat := (t.get! i).toNat
theorem bt_lt (t : ByteArray) (i : Nat) : bt t i < 256 := (t.get! i).toNat_lt
theorem byteAt_bt (t : ByteArray) (i : Nat) : byteAt t i = bt t i := by
  unfold byteAt bt
  congr 2
  show (t.data[i]?).getD 0 = t.data.get!Internal i
  rw [Array.get!Internal_eq_getElem!, getElem!_def]
  cases t.data[i]? <;> rfl

theorem wrap_nat {n : Nat} (h : n ≤ 20000000) : IntKind.i64.wrap (n : Int) = n := i64_in (by omega) (by omega)
theorem w8_nat {n : Nat} (h : n < 256) : w8 (n : Int) = n := by
  unfold w8
  simp [IntKind.wrap, IntKind.signed, IntKind.bits]
  omega
theorem wq_nat {r m : Nat} (h : r ≤ 20000000) : wq (r : Int) (m : Int) = ((r / m : Nat) : Int) := by
  unfold wq
  rw [show ((r : Int)).tdiv (m : Int) = ((r / m : Nat) : Int) from rfl]
  exact wrap_nat (Nat.le_trans (Nat.div_le_self _ _) h)
theorem wp_nat {a x : Nat} (h : a + x ≤ 20000000) : wp (a : Int) (x : Int) = ((a + x : Nat) : Int) := wrap_nat h
theorem tmod_nat (r m : Nat) : ((r : Int)).tmod (m : Int) = ((r % m : Nat) : Int) := rfl

def bytesN (r : Nat) : List Nat :=
  if r < 128 then [r]
  else if r < 2048 then [192 + r / 64, 128 + r % 64]
  else if r < 65536 then [224 + r / 4096, 128 + r / 64 % 64, 128 + r % 64]
  else [240 + r / 262144, 128 + r / 4096 % 64, 128 + r / 64 % 64, 128 + r % 64]
theorem w8q {a r m : Nat} (hr : r ≤ 1114111) (ha : a + r / m < 256) : w8 (wp (a : Int) (wq (r : Int) (m : Int))) = ((a + r / m : Nat) : Int) := by
  rw [wq_nat (by omega), wp_nat (by omega), w8_nat ha]
theorem w8m {a r : Nat} (ha : a + r % 64 < 256) : w8 (wp (a : Int) ((r : Int).tmod (64 : Int))) = ((a + r % 64 : Nat) : Int) := by
  rw [show ((r : Int)).tmod (64 : Int) = ((r % 64 : Nat) : Int) from rfl, wp_nat (by omega), w8_nat ha]
theorem w8qm {a r m : Nat} (hr : r ≤ 1114111) (ha : a + r / m % 64 < 256) : w8 (wp (a : Int) ((wq (r : Int) (m : Int)).tmod (64 : Int))) = ((a + r / m % 64 : Nat) : Int) := by
  rw [wq_nat (by omega), show (((r / m : Nat) : Int)).tmod (64 : Int) = ((r / m % 64 : Nat) : Int) from rfl, wp_nat (by omega), w8_nat ha]
theorem bytesL_nat {r : Nat} (h : r ≤ 1114111) : bytesL (r : Int) = (bytesN r).map fun n : Nat => (n : Int) := by
  unfold bytesL bytesN
  by_cases h1 : r < 128
  · rw [if_pos (by omega), if_pos h1, w8_nat (by omega)]; rfl
  rw [if_neg (by omega), if_neg h1]
  by_cases h2 : r < 2048
  · rw [if_pos (by omega), if_pos h2]
    have e1 := w8q (a := 192) (r := r) (m := 64) h (by omega)
    have e2 := w8m (a := 128) (r := r) (by omega)
    simp only [List.map_cons, List.map_nil]
    rw [← e1, ← e2]; rfl
  rw [if_neg (by omega), if_neg h2]
  by_cases h3 : r < 65536
  · rw [if_pos (by omega), if_pos h3]
    have e1 := w8q (a := 224) (r := r) (m := 4096) h (by omega)
    have e2 := w8qm (a := 128) (r := r) (m := 64) h (by omega)
    have e3 := w8m (a := 128) (r := r) (by omega)
    simp only [List.map_cons, List.map_nil]
    rw [← e1, ← e2, ← e3]; rfl
  rw [if_neg (by omega), if_neg h3]
  have e1 := w8q (a := 240) (r := r) (m := 262144) h (by omega)
  have e2 := w8qm (a := 128) (r := r) (m := 4096) h (by omega)
  have e3 := w8qm (a := 128) (r := r) (m := 64) h (by omega)
  have e4 := w8m (a := 128) (r := r) (by omega)
  simp only [List.map_cons, List.map_nil]
  rw [← e1, ← e2, ← e3, ← e4]; rfl

theorem text_iff {L : List Nat} (hL : ∀ x ∈ L, x < 256) {t : ByteArray} {n : Nat} (hn : n ≤ t.size) :
    ((textOf (L.map fun n : Nat => (n : Int))).toList == (t.extract 0 n).toList) = true ↔ L = (List.range n).map (bt t) := by
  rw [beq_iff_eq, ByteArray.toList_eq, ByteArray.toList_eq]
  have e1 : (textOf (L.map fun n : Nat => (n : Int))).data.toList = L.map UInt8.ofNat := by
    simp [textOf, Function.comp_def]
  have e2 : (t.extract 0 n).data.toList = (List.range n).map (fun i => t.get! i) := by
    have hs : t.data.toList.length = t.size := rfl
    rw [ByteArray.data_extract, Array.toList_extract]
    apply List.ext_getElem
    · simp; omega
    · intro i h1 h2
      simp only [List.length_map, List.length_range] at h2
      simp only [List.getElem_map, List.getElem_range]
      simp [List.extract]
      show _ = t.data.get!Internal i
      rw [Array.get!Internal_eq_getElem!, getElem!_def, Array.getElem?_eq_getElem (show i < t.data.size by have : t.data.size = t.size := rfl; omega)]
  rw [e1, e2]
  have e3 : (List.range n).map (bt t) = ((List.range n).map (fun i => t.get! i)).map UInt8.toNat := by simp [bt, Function.comp_def]
  rw [e3]
  constructor
  · intro h
    rw [← h, List.map_map]
    conv => lhs; rw [← List.map_id L]
    refine List.map_congr_left fun x hx => ?_
    have := hL x hx
    simp [Nat.mod_eq_of_lt this]
  · intro h
    rw [h, List.map_map]
    conv => rhs; rw [← List.map_id ((List.range n).map _)]
    refine List.map_congr_left fun x hx => ?_
    simp

theorem bytesN_lt {r : Nat} (h : r ≤ 1114111) : ∀ x ∈ bytesN r, x < 256 := by
  unfold bytesN
  intro x hx
  split at hx
  · simp at hx; omega
  · split at hx
    · simp at hx; omega
    · split at hx
      · simp at hx; omega
      · simp at hx; omega
theorem char_nat (r : Nat) : charOk (r : Int) = decide (r ≤ 1114111 ∧ (r < 55296 ∨ 57343 < r)) := by
  unfold charOk
  rw [Bool.eq_iff_iff]
  simp only [Bool.and_eq_true, Bool.or_eq_true, decide_eq_true_eq]
  omega
theorem decN_on {t : ByteArray} {n r : Nat} (hn : 0 < n) (ht : n ≤ t.size) (hr : numOf t n = (r : Int)) (h : r ≤ 1114111) :
    decN t n = if (r < 55296 ∨ 57343 < r) ∧ bytesN r = (List.range n).map (bt t) then some ((r : Int), n) else none := by
  unfold decN
  rw [if_pos ⟨hn, ht⟩, hr]
  have h1 := text_iff (bytesN_lt h) ht
  rw [← bytesL_nat h] at h1
  have h2 := char_nat r
  by_cases hc : (r < 55296 ∨ 57343 < r) ∧ bytesN r = (List.range n).map (bt t)
  · rw [if_pos hc, if_pos]
    rw [h2, Bool.and_eq_true]
    exact ⟨decide_eq_true ⟨h, hc.1⟩, h1.2 hc.2⟩
  · rw [if_neg hc, if_neg]
    rw [h2, Bool.and_eq_true]
    rintro ⟨g1, g2⟩
    exact hc ⟨(of_decide_eq_true g1).2, h1.1 g2⟩
theorem decN_off {t : ByteArray} {n r : Nat} (ht : 0 < n → n ≤ t.size → numOf t n = (r : Int) ∧ 1114111 < r) : decN t n = none := by
  unfold decN
  split
  · rename_i h
    obtain ⟨h1, h2⟩ := ht h.1 h.2
    rw [h1, char_nat, decide_eq_false (by omega)]; rfl
  · rfl
theorem tail_nat (t : ByteArray) (r i : Nat) (hr : r ≤ 40000) : IntKind.i64.wrap (IntKind.i64.wrap (64 * (r : Int)) + (byteAt t i).tmod 64) = ((64 * r + bt t i % 64 : Nat) : Int) := by
  rw [byteAt_bt, show ((bt t i : Nat) : Int).tmod 64 = ((bt t i % 64 : Nat) : Int) from rfl, show (64 * (r : Int)) = ((64 * r : Nat) : Int) by omega, wrap_nat (by omega)]
  rw [show (((64 * r : Nat) : Int) + ((bt t i % 64 : Nat) : Int)) = ((64 * r + bt t i % 64 : Nat) : Int) by omega]
  exact wrap_nat (by omega)
theorem num1 (t : ByteArray) : numOf t 1 = ((bt t 0 : Nat) : Int) := by unfold numOf; rw [if_pos rfl, byteAt_bt]
theorem num2 (t : ByteArray) : numOf t 2 = ((64 * (bt t 0 % 32) + bt t 1 % 64 : Nat) : Int) := by
  have := bt_lt t 0
  unfold numOf
  rw [if_neg (by omega)]
  show IntKind.i64.wrap (IntKind.i64.wrap (64 * (byteAt t 0).tmod 32) + (byteAt t 1).tmod 64) = _
  rw [byteAt_bt t 0, show ((bt t 0 : Nat) : Int).tmod 32 = ((bt t 0 % 32 : Nat) : Int) from rfl, tail_nat t _ _ (by omega)]
theorem num3 (t : ByteArray) : numOf t 3 = ((64 * (64 * (bt t 0 % 16) + bt t 1 % 64) + bt t 2 % 64 : Nat) : Int) := by
  have := bt_lt t 0
  unfold numOf
  rw [if_neg (by omega)]
  show IntKind.i64.wrap (IntKind.i64.wrap (64 * IntKind.i64.wrap (IntKind.i64.wrap (64 * (byteAt t 0).tmod 16) + (byteAt t 1).tmod 64)) + (byteAt t 2).tmod 64) = _
  rw [byteAt_bt t 0, show ((bt t 0 : Nat) : Int).tmod 16 = ((bt t 0 % 16 : Nat) : Int) from rfl, tail_nat t _ 1 (by omega), tail_nat t _ 2 (by omega)]
theorem num4 (t : ByteArray) : numOf t 4 = ((64 * (64 * (64 * (bt t 0 % 8) + bt t 1 % 64) + bt t 2 % 64) + bt t 3 % 64 : Nat) : Int) := by
  have := bt_lt t 0
  unfold numOf
  rw [if_neg (by omega)]
  show IntKind.i64.wrap (IntKind.i64.wrap (64 * IntKind.i64.wrap (IntKind.i64.wrap (64 * IntKind.i64.wrap (IntKind.i64.wrap (64 * (byteAt t 0).tmod 8) + (byteAt t 1).tmod 64)) + (byteAt t 2).tmod 64)) + (byteAt t 3).tmod 64) = _
  rw [byteAt_bt t 0, show ((bt t 0 : Nat) : Int).tmod 8 = ((bt t 0 % 8 : Nat) : Int) from rfl, tail_nat t _ 1 (by omega), tail_nat t _ 2 (by omega), tail_nat t _ 3 (by omega)]
theorem stepN {A : Option (Int × Nat)} {D : Nat × Nat} (hA : A = none) (hD : D = (65533, 1)) : A = if D.1 = 65533 ∧ D.2 = 1 then none else some ((D.1 : Int), D.2) := by
  subst hA hD; rfl
theorem stepS {A : Option (Int × Nat)} {D : Nat × Nat} {r k : Nat} (hA : A = some ((r : Int), k)) (hD : D = (r, k)) (h : ¬ (r = 65533 ∧ k = 1)) : A = if D.1 = 65533 ∧ D.2 = 1 then none else some ((D.1 : Int), D.2) := by
  subst hA hD; rw [if_neg h]

set_option maxHeartbeats 4000000 in
/-- One step, in the document's way and in the library's. -/
theorem dec_eq (t : ByteArray) (h0 : 0 < t.size) : decU t = if (Utf8.decode t 0).1 = 65533 ∧ (Utf8.decode t 0).2 = 1 then none else some (((Utf8.decode t 0).1 : Int), (Utf8.decode t 0).2) := by
  have hd : Utf8.decode t 0 = Lib.decodeN t.size (bt t 0) (bt t 1) (bt t 2) (bt t 3) := by rw [Lib.decode_at]; rfl
  rw [hd]
  have b0 := bt_lt t 0
  have b1 := bt_lt t 1
  have b2 := bt_lt t 2
  have b3 := bt_lt t 3
  have n1 := num1 t
  have n2 := num2 t
  have n3 := num3 t
  have n4 := num4 t
  have r1 : (List.range 1).map (bt t) = [bt t 0] := rfl
  have r2 : (List.range 2).map (bt t) = [bt t 0, bt t 1] := rfl
  have r3 : (List.range 3).map (bt t) = [bt t 0, bt t 1, bt t 2] := rfl
  have r4 : (List.range 4).map (bt t) = [bt t 0, bt t 1, bt t 2, bt t 3] := rfl
  have hl : decU t = decN t (longOf ((bt t 0 : Nat) : Int)).toNat := by unfold decU; rw [byteAt_bt]
  have on := fun n r => @decN_on t n r
  have off := fun n r => @decN_off t n r
  have e0 : decN t 0 = none := by unfold decN; rw [if_neg (by omega)]
  have es : ∀ n, t.size < n → decN t n = none := fun n h => by unfold decN; rw [if_neg (by omega)]
  generalize decU t = A at *
  generalize bt t 0 = x0 at *
  generalize bt t 1 = x1 at *
  generalize bt t 2 = x2 at *
  generalize bt t 3 = x3 at *
  generalize t.size = z at *
  by_cases c1 : x0 < 128
  · have hn : (longOf (x0 : Int)).toNat = 1 := by unfold longOf; rw [if_pos (by omega)]; rfl
    rw [hn] at hl
    refine stepS (r := x0) (k := 1) ?_ ?_ (by omega)
    · rw [hl, on 1 x0 (by omega) (by omega) n1 (by omega), r1, if_pos ⟨by omega, by unfold bytesN; rw [if_pos c1]⟩]
    · unfold Lib.decodeN; rw [if_pos c1]
  by_cases c2 : 192 ≤ x0 ∧ x0 < 224
  · have hn : (longOf (x0 : Int)).toNat = 2 := by unfold longOf; rw [if_neg (by omega), if_pos (by omega)]; rfl
    rw [hn] at hl
    by_cases hz : z < 2
    · refine stepN (by rw [hl, es 2 hz]) ?_
      unfold Lib.decodeN
      repeat' split
      all_goals first | rfl | (exfalso; omega)
    · rw [on 2 _ (by omega) (by omega) n2 (by omega), r2] at hl
      by_cases hc : x1 / 64 = 2 ∧ 2 ≤ x0 % 32
      · rw [if_pos ⟨by omega, by unfold bytesN; rw [if_neg (by omega), if_pos (by omega)]; simp; omega⟩] at hl
        refine stepS hl ?_ (by omega)
        unfold Lib.decodeN
        repeat' split
        all_goals first | (exfalso; omega) | (apply Prod.ext <;> simp only <;> omega)
      · rw [if_neg (by
          rintro ⟨_, h⟩
          unfold bytesN at h
          split at h
          · simp at h
          · split at h
            · simp at h; omega
            · split at h <;> simp at h)] at hl
        refine stepN hl ?_
        unfold Lib.decodeN
        repeat' split
        all_goals first | rfl | (exfalso; omega)
  by_cases c3 : 224 ≤ x0 ∧ x0 < 240
  · have hn : (longOf (x0 : Int)).toNat = 3 := by unfold longOf; rw [if_neg (by omega), if_neg (by omega), if_pos (by omega)]; rfl
    rw [hn] at hl
    by_cases hz : z < 3
    · refine stepN (by rw [hl, es 3 hz]) ?_
      unfold Lib.decodeN
      repeat' split
      all_goals first | rfl | (exfalso; omega)
    · rw [on 3 _ (by omega) (by omega) n3 (by omega), r3] at hl
      by_cases hc : (x1 / 64 = 2 ∧ x2 / 64 = 2) ∧ 2048 ≤ 64 * (64 * (x0 % 16) + x1 % 64) + x2 % 64 ∧ (64 * (64 * (x0 % 16) + x1 % 64) + x2 % 64 < 55296 ∨ 57343 < 64 * (64 * (x0 % 16) + x1 % 64) + x2 % 64)
      · rw [if_pos ⟨hc.2.2, by unfold bytesN; rw [if_neg (by omega), if_neg (by omega), if_pos (by omega)]; simp; omega⟩] at hl
        refine stepS hl ?_ (by omega)
        unfold Lib.decodeN
        repeat' split
        all_goals first | (exfalso; omega) | (apply Prod.ext <;> simp only <;> omega)
      · rw [if_neg (by
          rintro ⟨h1, h⟩
          unfold bytesN at h
          split at h
          · simp at h
          · split at h
            · simp at h
            · split at h
              · simp at h; omega
              · simp at h)] at hl
        refine stepN hl ?_
        unfold Lib.decodeN
        repeat' split
        all_goals first | rfl | (exfalso; omega)
  by_cases c4 : 240 ≤ x0 ∧ x0 < 248
  · have hn : (longOf (x0 : Int)).toNat = 4 := by unfold longOf; rw [if_neg (by omega), if_neg (by omega), if_neg (by omega), if_pos (by omega)]; rfl
    rw [hn] at hl
    by_cases hz : z < 4
    · refine stepN (by rw [hl, es 4 hz]) ?_
      unfold Lib.decodeN
      repeat' split
      all_goals first | rfl | (exfalso; omega)
    · by_cases hbig : 64 * (64 * (64 * (x0 % 8) + x1 % 64) + x2 % 64) + x3 % 64 ≤ 1114111
      · rw [on 4 _ (by omega) (by omega) n4 hbig, r4] at hl
        by_cases hc : (x1 / 64 = 2 ∧ x2 / 64 = 2 ∧ x3 / 64 = 2) ∧ 65536 ≤ 64 * (64 * (64 * (x0 % 8) + x1 % 64) + x2 % 64) + x3 % 64
        · rw [if_pos ⟨by omega, by unfold bytesN; rw [if_neg (by omega), if_neg (by omega), if_neg (by omega)]; simp; omega⟩] at hl
          refine stepS hl ?_ (by omega)
          unfold Lib.decodeN
          repeat' split
          all_goals first | (exfalso; omega) | (apply Prod.ext <;> simp only <;> omega)
        · rw [if_neg (by
            rintro ⟨h1, h⟩
            unfold bytesN at h
            split at h
            · simp at h
            · split at h
              · simp at h
              · split at h
                · simp at h
                · simp at h; omega)] at hl
          refine stepN hl ?_
          unfold Lib.decodeN
          repeat' split
          all_goals first | rfl | (exfalso; omega)
      · refine stepN (by rw [hl, off 4 _ fun _ _ => ⟨n4, by omega⟩]) ?_
        unfold Lib.decodeN
        repeat' split
        all_goals first | rfl | (exfalso; omega)
  have hn : (longOf (x0 : Int)).toNat = 0 := by unfold longOf; rw [if_neg (by omega), if_neg (by omega), if_neg (by omega), if_neg (by omega)]; rfl
  rw [hn] at hl
  refine stepN (by rw [hl, e0]) ?_
  unfold Lib.decodeN
  repeat' split
  all_goals first | rfl | (exfalso; omega)

theorem valid_eq (s : ByteArray) : ∀ f k, s.size - k ≤ f → validU f s k = Lib.validD (s.data.toList.drop k)
  | f, k, h => by
    have hsz : s.data.toList.length = s.size := rfl
    by_cases hk : k < s.size
    · obtain ⟨f, rfl⟩ : ∃ g, f = g + 1 := ⟨f - 1, by omega⟩
      have hne : s.data.toList.drop k ≠ [] := fun e => by have := congrArg List.length e; simp at this; omega
      have hx : (s.extract k s.size).size = s.size - k := by rw [ByteArray.size_extract]; omega
      have hxl : (s.extract k s.size).data.toList = s.data.toList.drop k := by
        rw [ByteArray.data_extract, Array.toList_extract, List.extract_eq_take_drop]
        rw [List.take_of_length_le]
        simp
      have hdl : Lib.decodeL (s.data.toList.drop k) = Utf8.decode (s.extract k s.size) 0 := by
        rw [← hxl, ← Lib.decodeL_drop, List.drop_zero]
      have hw := Lib.decodeL_width (s.data.toList.drop k)
      rw [validU_on hk, dec_eq _ (by omega), Lib.validD_step _ hne, hdl]
      rw [hdl] at hw
      split
      · rfl
      · show validU f s (k + (Utf8.decode (s.extract k s.size) 0).2) = _
        rw [valid_eq s f _ (by omega), List.drop_drop]
    · rw [validU_end (by omega), List.drop_of_length_le (by omega), Lib.validD_nil]

theorem uvalid_utf (s : ByteArray) : validU s.size s 0 = utfOk s := by
  rw [valid_eq s s.size 0 (by omega)]; rfl
end Go.Proofs.YtdcpnpcmgfmenaaGreatDoor
/-
  Walks: the document's own answer: names, Formed, Check. Conditions: none.
-/
set_option linter.unusedVariables false
set_option maxRecDepth 100000
namespace Go.Proofs.YtdcpnpcmgfmenaaGreatDoor
open Go Go.Proofs.YtdcpnpcmgfmenaaGreatDoor.Lg

theorem placesFrom_full : ∀ (l : List ByteArray) (i : Nat) (es : List (ByteArray × Nat)), l.Nodup → (∀ s ∈ l, ∀ p ∈ es, p.1 ≠ s) → (placesFrom l i es).length = es.length + l.length
  | [], i, es, _, _ => by simp [placesFrom]
  | s :: r, i, es, hn, hd => by
    have hn' := List.nodup_cons.1 hn
    rw [placesFrom, mput_new es s i (hd s (by simp)), placesFrom_full r (i + 1) _ hn'.2 (by
      intro x hx p hp
      rcases List.mem_append.1 hp with hp | hp
      · exact hd x (by simp [hx]) p hp
      · simp at hp; subst hp
        intro e
        have e : s = x := e
        exact hn'.1 (e ▸ hx))]
    simp; omega
theorem placesOf_full {l : List ByteArray} (h : l.Nodup) : (placesOf l).length = l.length := by
  have := placesFrom_full l 0 [] h (by simp)
  simpa [placesOf] using this
def rnamesOk (l : List ByteArray) : Bool := ((placesOf l).length == l.length) && !(l.any fun n => !utfOk n)
theorem rnamesOk_no {l : List ByteArray} {k : Nat} (hk : k < l.length) (h : utfOk l[k] = false ∨ l[k] ∈ l.take k) : rnamesOk l = false := by
  refine Bool.eq_false_iff.2 fun e => ?_
  unfold rnamesOk at e
  simp only [Bool.and_eq_true, beq_iff_eq] at e
  rcases h with h | h
  · have := any_get (fun n => !utfOk n) l k hk (by simp [h])
    rw [this] at e; simp at e
  · have hn := placesOf_nd e.1
    obtain ⟨j, hj, ej⟩ := List.mem_iff_getElem.1 h
    rw [List.getElem_take] at ej
    have := nd_inj hn (List.getElem?_eq_some_iff.2 ⟨by simp at hj; omega, ej⟩) (List.getElem?_eq_getElem hk)
    simp at hj; omega
theorem rnamesOk_yes {l : List ByteArray} (h : ∀ (k : Nat) (hk : k < l.length), utfOk l[k] = true ∧ l[k] ∉ l.take k) : rnamesOk l = true := by
  have hn : l.Nodup := by
    refine List.pairwise_iff_getElem.2 fun i j hi hj hij e => ?_
    refine (h j hj).2 (List.mem_iff_getElem.2 ⟨i, by simp; omega, ?_⟩)
    rw [List.getElem_take]; exact e
  unfold rnamesOk
  rw [placesOf_full hn]
  simp only [beq_self_eq_true, Bool.true_and, Bool.not_eq_true']
  refine List.any_eq_false.2 fun x hx => ?_
  obtain ⟨k, hk, rfl⟩ := List.mem_iff_getElem.1 hx
  simp [(h k hk).1]
theorem spot_mem (l : List ByteArray) (s : ByteArray) : decide (spot l s ≥ 0) = true ↔ s ∈ l := by
  have := firstAt_any (fun y : ByteArray => y.toList == s.toList) l 0 (by omega)
  unfold spot
  rw [this]
  simp only [List.any_eq_true]
  constructor
  · rintro ⟨x, hx, e⟩; exact (strEq_iff x s).1 e ▸ hx
  · intro h; exact ⟨s, h, beq_self_eq_true _⟩

theorem rnames_pure (s : Bool) (l : List ByteArray) (hf : ∀ n ∈ l, fits n) : Pure env 54 [.d (.sl s (strRows l))] (.d (.v (.bool (rnamesOk l)))) := by
  refine pure_of_body Tryz.func54 rfl rfl rfl fun B hB => ?_
  refine swp_seq ?_
  refine swp_region ?_
  refine sops_go rfl (st_assign (v := .d _) rfl rfl rfl ?_)
  refine sops_nil ?_
  refine swp_seq ?_
  refine swp_seq ?_
  refine swp_region ?_
  refine sops_go rfl (st_assign (v := .d _) rfl rfl rfl ?_)
  refine sops_nil ?_
  refine swp_block ?_
  refine swp_lenT (i := 0) rfl fun hlen => ?_
  rw [strRows_len] at hlen
  refine swp_loopF (F := fun k : Nat => { t := upd (upd (fun _ => .any) 0 (.d (.sl s (strRows l)))) 3 (.d (.v (.int .i64 k))), n := 27, h := fun _ => .dead, nx := 0 })
    (fun k => k ≤ l.length ∧ ∀ (j : Nat) (hj : j < l.length), j < k → utfOk l[j] = true ∧ l[j] ∉ l.take j) (fun k => l.length - k) 0 ⟨Nat.zero_le _, fun _ _ h => by omega⟩ ?_ ?_
  · refine wk_of rfl (Nat.le_of_ble_eq_true rfl) (by rw [hB]; exact Nat.zero_le _) (tle_upd (le_eq rfl rfl) (tle_upd (le_eq rfl rfl) (tle_any _))) (hle_dead _) (dead_none)
  rintro k ⟨hk, ha⟩
  have hk : k ≤ l.length := hk
  refine swp_seq ?_
  refine swp_seq ?_
  refine swp_region ?_
  refine sops_go rfl (st_move (v := .d _) rfl rfl rfl ?_)
  first | refine sops_go rfl (st_move (v := .d _) rfl rfl rfl ?_) | refine sops_go rfl (st_move (v := .own _ _ _ _ _) rfl rfl rfl ?_)
  refine sops_go rfl (so_lenSl rfl rfl rfl rfl rfl ?_)
  refine sops_go rfl (st_bin rfl rfl rfl rfl rfl ?_)
  refine sops_nil ?_
  refine swp_cond _ rfl (fun hc7 => ?_) (fun hc7 => ?_)
  · have hlt : k < l.length := by have := of_decide_eq_true hc7; rw [strRows_len] at this; omega
    have hv := uvalid_pure l[k] (hf _ (List.getElem_mem hlt))
    rw [uvalid_utf] at hv
    have hpl := rplace_pure s (l.take k) l[k]
    have hsp := spot_mem (l.take k) l[k]
    have hno := fun h => rnamesOk_no hlt h
    refine swp_skip ?_
    refine swp_seq ?_
    refine swp_block ?_
    refine swp_seq ?_
    refine swp_regionQ 14 (by kernel_rfl) rfl rfl rfl ?_
    first | refine h0_go rfl (st_move (v := .d _) rfl rfl rfl ⟨_, rfl, ?_⟩) | refine h0_go rfl (st_move (v := .own _ _ _ _ _) rfl rfl rfl ⟨_, rfl, ?_⟩)
    refine h0_go rfl (st_move (v := .d _) rfl rfl rfl ⟨_, rfl, ?_⟩)
    refine h0_go rfl (so_indexSl rfl rfl rfl rfl rfl rfl rfl (strRows_all _) (by omega) (by rw [strRows_len]; omega) (strRows_get _ _ hlt) ⟨_, rfl, ?_⟩)
    refine h0_go rfl (so_load (v := .d _) rfl rfl rfl rfl rfl rfl rfl rfl ⟨_, rfl, ?_⟩)
    refine h0_go rfl (st_call rfl rfl (hv) ⟨na_d _, trivial⟩ rfl ⟨_, rfl, ?_⟩)
    refine h0_go rfl (st_not rfl rfl rfl ⟨_, rfl, ?_⟩)
    refine h0_go rfl (st_move (v := .d _) rfl rfl rfl ⟨_, rfl, ?_⟩)
    refine h0_case 16 rfl (fun hb16 => ?_) (fun hb16 => ?_)
    · refine h0_no rfl rfl rfl rfl rfl ?_
      refine h0_no rfl rfl rfl rfl rfl ?_
      refine h0_no rfl rfl rfl rfl rfl ?_
      refine h0_no rfl rfl rfl rfl rfl ?_
      refine h0_no rfl rfl rfl rfl rfl ?_
      refine h0_no rfl rfl rfl rfl rfl ?_
      refine h0_no rfl rfl rfl rfl rfl ?_
      refine h0_nil ?_
      refine sops_no rfl rfl rfl rfl rfl ?_
      refine sops_no rfl rfl rfl rfl rfl ?_
      refine sops_go rfl (st_pick (v := .d _) rfl rfl rfl rfl ?_)
      refine sops_nil ?_
      refine swp_condT rfl ?_
      refine swp_seq ?_
      refine swp_region ?_
      refine sops_go rfl (st_assign (v := .d _) rfl rfl rfl ?_)
      refine sops_nil ?_
      refine swp_ret ?_
      with_reducible refine inblk_ret ?_
      with_reducible refine after_ret ?_
      with_reducible refine after_ret ?_
      with_reducible refine inblk_ret ?_
      with_reducible refine after_ret ?_
      exact fin_b rfl rfl (hno (.inl (by simpa using hb16)))
    · first | refine h0_yes rfl rfl rfl rfl (st_move (v := .d _) rfl rfl rfl ⟨_, rfl, ?_⟩) | refine h0_yes rfl rfl rfl rfl (st_move (v := .own _ _ _ _ _) rfl rfl rfl ⟨_, rfl, ?_⟩)
      refine h0_yes rfl rfl rfl rfl (st_move (v := .d _) rfl rfl rfl ⟨_, rfl, ?_⟩)
      refine h0_yes rfl rfl rfl rfl (so_cutD rfl rfl rfl rfl rfl rfl rfl rfl (strRows_all _) (by omega) (by omega) (by rw [strRows_len]; omega) (fs := strRows (l.take k)) (by simp [strRows]) ⟨_, rfl, ?_⟩)
      first | refine h0_yes rfl rfl rfl rfl (st_move (v := .d _) rfl rfl rfl ⟨_, rfl, ?_⟩) | refine h0_yes rfl rfl rfl rfl (st_move (v := .own _ _ _ _ _) rfl rfl rfl ⟨_, rfl, ?_⟩)
      refine h0_yes rfl rfl rfl rfl (st_move (v := .d _) rfl rfl rfl ⟨_, rfl, ?_⟩)
      refine h0_yes rfl rfl rfl rfl (so_indexSl rfl rfl rfl rfl rfl rfl rfl (strRows_all _) (by omega) (by rw [strRows_len]; omega) (strRows_get _ _ hlt) ⟨_, rfl, ?_⟩)
      refine h0_yes rfl rfl rfl rfl (so_load (v := .d _) rfl rfl rfl rfl rfl rfl rfl rfl ⟨_, rfl, ?_⟩)
      refine h0_nil ?_
      refine sops_yes rfl rfl rfl rfl (st_call rfl rfl (hpl) ⟨na_d _, na_d _, trivial⟩ rfl ?_)
      refine sops_yes rfl rfl rfl rfl (st_bin rfl rfl rfl rfl rfl ?_)
      refine sops_go rfl (st_pick (v := .d _) rfl rfl rfl rfl ?_)
      refine sops_nil ?_
      refine swp_cond _ rfl (fun hc26 => ?_) (fun hc26 => ?_)
      · refine swp_seq ?_
        refine swp_region ?_
        refine sops_go rfl (st_assign (v := .d _) rfl rfl rfl ?_)
        refine sops_nil ?_
        refine swp_ret ?_
        with_reducible refine inblk_ret ?_
        with_reducible refine after_ret ?_
        with_reducible refine after_ret ?_
        with_reducible refine inblk_ret ?_
        with_reducible refine after_ret ?_
        exact fin_b rfl rfl (hno (.inr (hsp.1 hc26)))
      · refine swp_skip ?_
        refine swp_region ?_
        refine sops_go rfl (st_move (v := .d _) rfl rfl rfl ?_)
        refine sops_go rfl (st_bin rfl rfl rfl rfl rfl ?_)
        refine sops_go rfl (st_assign (v := .d _) rfl rfl rfl ?_)
        refine sops_nil ?_
        have hc : ¬ l[k] ∈ l.take k := fun h => by have h := hsp.2 h; have h : decide (firstAt (fun y => y.toList == l[k].toList) (l.take k) 0 ≥ 0) = true := h; rw [show decide (firstAt (fun y => y.toList == l[k].toList) (l.take k) 0 ≥ 0) = false from hc26] at h; cases h
        refine ⟨k + 1, ⟨hlt, fun j hj h => ?_⟩, by omega, ?_⟩
        · rcases Nat.lt_or_ge j k with h1 | h1
          · exact ha j hj h1
          · obtain rfl : j = k := by omega
            exact ⟨by simpa using hb16, hc⟩
        refine wk_of rfl (Nat.le_of_ble_eq_true rfl) (by rw [hB]; exact Nat.zero_le _) (tle_upd (le_eq (next_i64 hlt hlen) rfl) (tle_upd (le_eq rfl rfl) (tle_any _))) (hle_dead _) (dead_none)
  · have he : l.length ≤ k := by have := of_decide_eq_false hc7; rw [strRows_len] at this; omega
    refine swp_exit ?_
    with_reducible refine after_exit ?_
    with_reducible refine after_exit ?_
    refine inblk_hit ?_
    refine swp_seq ?_
    refine swp_region ?_
    refine sops_go rfl (st_assign (v := .d _) rfl rfl rfl ?_)
    refine sops_nil ?_
    refine swp_ret ?_
    exact fin_b rfl rfl (rnamesOk_yes fun j hj => ha j hj (by omega))

theorem rformed_pure (t : T) : t.fit → ∀ s, Pure env 28 [.d (t.df s)] (.d (.v (.bool t.formed))) := by
  revert t
  apply T.ind
  intro kind names list ih hfit s
  have hfn := hfit.1
  have hfl := (T.fitL_iff list).1 hfit.2
  have hnames := rnames_pure s names hfn
  have h9 : kind = 9 → (T.mk kind names list).formed = (((((strRows names).length : Int) == 0) && (((T.rows list).length : Int) == 1)) && T.formedL list) := fun h => by
    rw [T.formed, if_pos h, strRows_len, T.rows_len]
    congr 2 <;> rw [Bool.eq_iff_iff] <;> simp <;> omega
  have h10 : kind = 10 ∨ kind = 11 → (T.mk kind names list).formed = (((((strRows names).length : Int) == ((T.rows list).length : Int)) && rnamesOk names) && T.formedL list) := fun h => by
    rw [T.formed, if_neg (by omega), if_pos h, strRows_len, T.rows_len]
    congr 1
    unfold rnamesOk
    rw [Bool.and_assoc]
    congr 1
    rw [Bool.eq_iff_iff]; simp; omega
  have h0 : ¬ kind = 9 → ¬ (kind = 10 ∨ kind = 11) → (decide (kind ≥ 1) && decide (kind ≤ 8)) = true → (T.mk kind names list).formed = (((((strRows names).length : Int) == 0) && (((T.rows list).length : Int) == 0)) && T.formedL list) := fun h1 h2 h3 => by
    rw [T.formed, if_neg h1, if_neg h2, strRows_len, T.rows_len]
    rw [show (decide (1 ≤ kind) && decide (kind ≤ 8)) = true from h3, Bool.true_and]
    cases list with
    | nil =>
      rw [T.formedL, Bool.and_true, Bool.eq_iff_iff]; simp
    | cons x r =>
      have e1 : (names.length + (x :: r).length == 0) = false := by simp
      have e2 : ((((x :: r).length : Nat) : Int) == 0) = false := by
        refine Bool.eq_false_iff.2 fun e => ?_
        have := eq_of_beq e
        simp at this; omega
      rw [e1, e2, Bool.and_false, Bool.false_and]
  have hx : ¬ kind = 9 → ¬ (kind = 10 ∨ kind = 11) → (decide (kind ≥ 1) && decide (kind ≤ 8)) = false → (T.mk kind names list).formed = (false && T.formedL list) := fun h1 h2 h3 => by
    rw [T.formed, if_neg h1, if_neg h2]
    rw [show (decide (1 ≤ kind) && decide (kind ≤ 8)) = false from h3]; rfl
  refine pure_of_body Tryz.func28 rfl rfl rfl fun B hB => ?_
  refine swp_seq ?_
  refine swp_region ?_
  refine sops_go rfl (so_box (cs := [_, _, _]) rfl rfl rfl ?_)
  refine sops_go rfl (st_assign (v := .d _) rfl rfl rfl ?_)
  refine sops_nil ?_
  refine swp_seq ?_
  refine swp_region ?_
  refine sops_go rfl (st_assign (v := .d _) rfl rfl rfl ?_)
  refine sops_nil ?_
  refine swp_seqF (F := fun ok : Bool => ({ t := upd (upd (fun _ => .any) 1 (.p 0 0 0)) 3 (.d (.v (.bool ok))), n := 76, h := upd (fun _ => .dead) 0 (.cells [.any, .any, .d (.sl s (T.rows list))]), nx := 1 } : St)) (P := fun ok => (T.mk kind names list).formed = (ok && T.formedL list)) ?_ ?_
  · refine swp_block ?_
    refine swp_seq ?_
    refine swp_region ?_
    first | refine sops_go rfl (so_fieldAddr (v := .p _ _ _) rfl rfl rfl rfl rfl rfl rfl rfl rfl rfl ?_) | refine sops_go rfl (so_fieldAddr (v := .dp _ _) rfl rfl rfl rfl rfl rfl rfl rfl rfl rfl ?_) | refine sops_go rfl (so_fieldAddr (v := .pe _ _ _ _ _) rfl rfl rfl rfl rfl rfl rfl rfl rfl rfl ?_)
    refine sops_go rfl (so_load (v := .d _) rfl rfl rfl rfl rfl rfl rfl rfl ?_)
    refine sops_go rfl (st_bin rfl rfl rfl rfl rfl ?_)
    refine sops_go rfl (st_assign (v := .d _) rfl rfl rfl ?_)
    refine sops_nil ?_
    refine swp_cond _ rfl (fun hc5 => ?_) (fun hc5 => ?_)
    · have hS := h9 (by simpa using hc5)
      refine swp_region ?_
      first | refine sops_go rfl (so_fieldAddr (v := .p _ _ _) rfl rfl rfl rfl rfl rfl rfl rfl rfl rfl ?_) | refine sops_go rfl (so_fieldAddr (v := .dp _ _) rfl rfl rfl rfl rfl rfl rfl rfl rfl rfl ?_) | refine sops_go rfl (so_fieldAddr (v := .pe _ _ _ _ _) rfl rfl rfl rfl rfl rfl rfl rfl rfl rfl ?_)
      first | refine sops_go rfl (so_load (v := .d _) rfl rfl rfl rfl rfl rfl rfl rfl ?_) | refine sops_go rfl (so_load (v := .own _ _ _ _ _) rfl rfl rfl rfl rfl rfl rfl rfl ?_)
      refine sops_go rfl (so_lenSl rfl rfl rfl rfl rfl ?_)
      refine sops_go rfl (st_bin rfl rfl rfl rfl rfl ?_)
      refine sops_go rfl (st_move (v := .d _) rfl rfl rfl ?_)
      refine' sops_and (d := 13) (p := 18) [14, 15, 16, 17] 5 rfl rfl rfl (fun hb13 => ?a13) (fun hb13 => ?b13) ?_
      case a13 =>
        first | refine sops_yes rfl rfl rfl rfl (so_fieldAddr (v := .p _ _ _) rfl rfl rfl rfl rfl rfl rfl rfl rfl rfl ?_) | refine sops_yes rfl rfl rfl rfl (so_fieldAddr (v := .dp _ _) rfl rfl rfl rfl rfl rfl rfl rfl rfl rfl ?_) | refine sops_yes rfl rfl rfl rfl (so_fieldAddr (v := .pe _ _ _ _ _) rfl rfl rfl rfl rfl rfl rfl rfl rfl rfl ?_)
        first | refine sops_yes rfl rfl rfl rfl (so_load (v := .d _) rfl rfl rfl rfl rfl rfl rfl rfl ?_) | refine sops_yes rfl rfl rfl rfl (so_load (v := .own _ _ _ _ _) rfl rfl rfl rfl rfl rfl rfl rfl ?_)
        refine sops_yes rfl rfl rfl rfl (so_lenSl rfl rfl rfl rfl rfl ?_)
        refine sops_yes rfl rfl rfl rfl (st_bin rfl rfl rfl rfl rfl ?_)
        refine sops_go rfl (st_pick (v := .d _) rfl rfl rfl rfl ?_)
        refine sops_nil ?_
        exact ⟨rfl, rfl, rfl, rfl, [_, _, _, _], rfl, rfl⟩
      case b13 =>
        refine sops_no rfl rfl rfl rfl rfl ?_
        refine sops_no rfl rfl rfl rfl rfl ?_
        refine sops_no rfl rfl rfl rfl rfl ?_
        refine sops_no rfl rfl rfl rfl rfl ?_
        refine sops_go rfl (st_pick (v := .d _) rfl rfl rfl rfl ?_)
        refine sops_nil ?_
        exact ⟨rfl, rfl, rfl, rfl, [_, _, _, _], rfl, rfl⟩
      refine sops_go rfl (st_assign (v := .d _) rfl rfl rfl ?_)
      refine sops_nil ?_
      refine ⟨_, hS, ?_⟩
      refine wk_of rfl (Nat.le_of_ble_eq_true rfl) (by rw [hB]; exact Nat.zero_le _) (tle_upd (le_eq rfl rfl) (tle_upd (le_eq rfl rfl) (tle_any _))) (hle_upd (.cells _ _ ⟨le_any _, le_any _, le_eq rfl rfl, trivial⟩) (hle_dead _)) (dead_upd (Nat.le_of_ble_eq_true rfl) (dead_none))
    · refine swp_seq ?_
      refine swp_region ?_
      first | refine sops_go rfl (so_fieldAddr (v := .p _ _ _) rfl rfl rfl rfl rfl rfl rfl rfl rfl rfl ?_) | refine sops_go rfl (so_fieldAddr (v := .dp _ _) rfl rfl rfl rfl rfl rfl rfl rfl rfl rfl ?_) | refine sops_go rfl (so_fieldAddr (v := .pe _ _ _ _ _) rfl rfl rfl rfl rfl rfl rfl rfl rfl rfl ?_)
      refine sops_go rfl (so_load (v := .d _) rfl rfl rfl rfl rfl rfl rfl rfl ?_)
      refine sops_go rfl (st_bin rfl rfl rfl rfl rfl ?_)
      refine sops_go rfl (st_move (v := .d _) rfl rfl rfl ?_)
      refine' sops_or (d := 23) (p := 27) [24, 25, 26] 4 rfl rfl rfl (fun hb23 => ?a23) (fun hb23 => ?b23) ?_
      case a23 =>
        first | refine sops_yes rfl rfl rfl rfl (so_fieldAddr (v := .p _ _ _) rfl rfl rfl rfl rfl rfl rfl rfl rfl rfl ?_) | refine sops_yes rfl rfl rfl rfl (so_fieldAddr (v := .dp _ _) rfl rfl rfl rfl rfl rfl rfl rfl rfl rfl ?_) | refine sops_yes rfl rfl rfl rfl (so_fieldAddr (v := .pe _ _ _ _ _) rfl rfl rfl rfl rfl rfl rfl rfl rfl rfl ?_)
        refine sops_yes rfl rfl rfl rfl (so_load (v := .d _) rfl rfl rfl rfl rfl rfl rfl rfl ?_)
        refine sops_yes rfl rfl rfl rfl (st_bin rfl rfl rfl rfl rfl ?_)
        refine sops_go rfl (st_pick (v := .d _) rfl rfl rfl rfl ?_)
        refine sops_nil ?_
        exact ⟨rfl, rfl, rfl, rfl, [_, _, _], rfl, rfl⟩
      case b23 =>
        refine sops_no rfl rfl rfl rfl rfl ?_
        refine sops_no rfl rfl rfl rfl rfl ?_
        refine sops_no rfl rfl rfl rfl rfl ?_
        refine sops_go rfl (st_pick (v := .d _) rfl rfl rfl rfl ?_)
        refine sops_nil ?_
        exact ⟨rfl, rfl, rfl, rfl, [_, _, _], rfl, rfl⟩
      refine sops_go rfl (st_assign (v := .d _) rfl rfl rfl ?_)
      refine sops_nil ?_
      refine swp_cond _ rfl (fun hc19 => ?_) (fun hc19 => ?_)
      · have hS := h10 (by simpa using hc19)
        refine swp_region ?_
        first | refine sops_go rfl (so_fieldAddr (v := .p _ _ _) rfl rfl rfl rfl rfl rfl rfl rfl rfl rfl ?_) | refine sops_go rfl (so_fieldAddr (v := .dp _ _) rfl rfl rfl rfl rfl rfl rfl rfl rfl rfl ?_) | refine sops_go rfl (so_fieldAddr (v := .pe _ _ _ _ _) rfl rfl rfl rfl rfl rfl rfl rfl rfl rfl ?_)
        first | refine sops_go rfl (so_load (v := .d _) rfl rfl rfl rfl rfl rfl rfl rfl ?_) | refine sops_go rfl (so_load (v := .own _ _ _ _ _) rfl rfl rfl rfl rfl rfl rfl rfl ?_)
        refine sops_go rfl (so_lenSl rfl rfl rfl rfl rfl ?_)
        first | refine sops_go rfl (so_fieldAddr (v := .p _ _ _) rfl rfl rfl rfl rfl rfl rfl rfl rfl rfl ?_) | refine sops_go rfl (so_fieldAddr (v := .dp _ _) rfl rfl rfl rfl rfl rfl rfl rfl rfl rfl ?_) | refine sops_go rfl (so_fieldAddr (v := .pe _ _ _ _ _) rfl rfl rfl rfl rfl rfl rfl rfl rfl rfl ?_)
        first | refine sops_go rfl (so_load (v := .d _) rfl rfl rfl rfl rfl rfl rfl rfl ?_) | refine sops_go rfl (so_load (v := .own _ _ _ _ _) rfl rfl rfl rfl rfl rfl rfl rfl ?_)
        refine sops_go rfl (so_lenSl rfl rfl rfl rfl rfl ?_)
        refine sops_go rfl (st_bin rfl rfl rfl rfl rfl ?_)
        refine sops_go rfl (st_move (v := .d _) rfl rfl rfl ?_)
        refine' sops_and (d := 35) (p := 39) [36, 37, 38] 4 rfl rfl rfl (fun hb35 => ?a35) (fun hb35 => ?b35) ?_
        case a35 =>
          first | refine sops_yes rfl rfl rfl rfl (so_fieldAddr (v := .p _ _ _) rfl rfl rfl rfl rfl rfl rfl rfl rfl rfl ?_) | refine sops_yes rfl rfl rfl rfl (so_fieldAddr (v := .dp _ _) rfl rfl rfl rfl rfl rfl rfl rfl rfl rfl ?_) | refine sops_yes rfl rfl rfl rfl (so_fieldAddr (v := .pe _ _ _ _ _) rfl rfl rfl rfl rfl rfl rfl rfl rfl rfl ?_)
          first | refine sops_yes rfl rfl rfl rfl (so_load (v := .d _) rfl rfl rfl rfl rfl rfl rfl rfl ?_) | refine sops_yes rfl rfl rfl rfl (so_load (v := .own _ _ _ _ _) rfl rfl rfl rfl rfl rfl rfl rfl ?_)
          refine sops_yes rfl rfl rfl rfl (st_call rfl rfl (hnames) ⟨na_d _, trivial⟩ rfl ?_)
          refine sops_go rfl (st_pick (v := .d _) rfl rfl rfl rfl ?_)
          refine sops_nil ?_
          exact ⟨rfl, rfl, rfl, rfl, [_, _, _], rfl, rfl⟩
        case b35 =>
          refine sops_no rfl rfl rfl rfl rfl ?_
          refine sops_no rfl rfl rfl rfl rfl ?_
          refine sops_no rfl rfl rfl rfl rfl ?_
          refine sops_go rfl (st_pick (v := .d _) rfl rfl rfl rfl ?_)
          refine sops_nil ?_
          exact ⟨rfl, rfl, rfl, rfl, [_, _, _], rfl, rfl⟩
        refine sops_go rfl (st_assign (v := .d _) rfl rfl rfl ?_)
        refine sops_nil ?_
        refine ⟨_, hS, ?_⟩
        refine wk_of rfl (Nat.le_of_ble_eq_true rfl) (by rw [hB]; exact Nat.zero_le _) (tle_upd (le_eq rfl rfl) (tle_upd (le_eq rfl rfl) (tle_any _))) (hle_upd (.cells _ _ ⟨le_any _, le_any _, le_eq rfl rfl, trivial⟩) (hle_dead _)) (dead_upd (Nat.le_of_ble_eq_true rfl) (dead_none))
      · refine swp_seq ?_
        refine swp_region ?_
        first | refine sops_go rfl (so_fieldAddr (v := .p _ _ _) rfl rfl rfl rfl rfl rfl rfl rfl rfl rfl ?_) | refine sops_go rfl (so_fieldAddr (v := .dp _ _) rfl rfl rfl rfl rfl rfl rfl rfl rfl rfl ?_) | refine sops_go rfl (so_fieldAddr (v := .pe _ _ _ _ _) rfl rfl rfl rfl rfl rfl rfl rfl rfl rfl ?_)
        refine sops_go rfl (so_load (v := .d _) rfl rfl rfl rfl rfl rfl rfl rfl ?_)
        refine sops_go rfl (st_bin rfl rfl rfl rfl rfl ?_)
        refine sops_go rfl (st_move (v := .d _) rfl rfl rfl ?_)
        refine' sops_and (d := 44) (p := 48) [45, 46, 47] 4 rfl rfl rfl (fun hb44 => ?a44) (fun hb44 => ?b44) ?_
        case a44 =>
          first | refine sops_yes rfl rfl rfl rfl (so_fieldAddr (v := .p _ _ _) rfl rfl rfl rfl rfl rfl rfl rfl rfl rfl ?_) | refine sops_yes rfl rfl rfl rfl (so_fieldAddr (v := .dp _ _) rfl rfl rfl rfl rfl rfl rfl rfl rfl rfl ?_) | refine sops_yes rfl rfl rfl rfl (so_fieldAddr (v := .pe _ _ _ _ _) rfl rfl rfl rfl rfl rfl rfl rfl rfl rfl ?_)
          refine sops_yes rfl rfl rfl rfl (so_load (v := .d _) rfl rfl rfl rfl rfl rfl rfl rfl ?_)
          refine sops_yes rfl rfl rfl rfl (st_bin rfl rfl rfl rfl rfl ?_)
          refine sops_go rfl (st_pick (v := .d _) rfl rfl rfl rfl ?_)
          refine sops_nil ?_
          exact ⟨rfl, rfl, rfl, rfl, [_, _, _], rfl, rfl⟩
        case b44 =>
          refine sops_no rfl rfl rfl rfl rfl ?_
          refine sops_no rfl rfl rfl rfl rfl ?_
          refine sops_no rfl rfl rfl rfl rfl ?_
          refine sops_go rfl (st_pick (v := .d _) rfl rfl rfl rfl ?_)
          refine sops_nil ?_
          exact ⟨rfl, rfl, rfl, rfl, [_, _, _], rfl, rfl⟩
        refine sops_go rfl (st_assign (v := .d _) rfl rfl rfl ?_)
        refine sops_nil ?_
        refine swp_cond _ rfl (fun hc40 => ?_) (fun hc40 => ?_)
        · have hS := h0 (by simpa using hc5) (by simpa using hc19) hc40
          refine swp_region ?_
          first | refine sops_go rfl (so_fieldAddr (v := .p _ _ _) rfl rfl rfl rfl rfl rfl rfl rfl rfl rfl ?_) | refine sops_go rfl (so_fieldAddr (v := .dp _ _) rfl rfl rfl rfl rfl rfl rfl rfl rfl rfl ?_) | refine sops_go rfl (so_fieldAddr (v := .pe _ _ _ _ _) rfl rfl rfl rfl rfl rfl rfl rfl rfl rfl ?_)
          first | refine sops_go rfl (so_load (v := .d _) rfl rfl rfl rfl rfl rfl rfl rfl ?_) | refine sops_go rfl (so_load (v := .own _ _ _ _ _) rfl rfl rfl rfl rfl rfl rfl rfl ?_)
          refine sops_go rfl (so_lenSl rfl rfl rfl rfl rfl ?_)
          refine sops_go rfl (st_bin rfl rfl rfl rfl rfl ?_)
          refine sops_go rfl (st_move (v := .d _) rfl rfl rfl ?_)
          refine' sops_and (d := 53) (p := 58) [54, 55, 56, 57] 5 rfl rfl rfl (fun hb53 => ?a53) (fun hb53 => ?b53) ?_
          case a53 =>
            first | refine sops_yes rfl rfl rfl rfl (so_fieldAddr (v := .p _ _ _) rfl rfl rfl rfl rfl rfl rfl rfl rfl rfl ?_) | refine sops_yes rfl rfl rfl rfl (so_fieldAddr (v := .dp _ _) rfl rfl rfl rfl rfl rfl rfl rfl rfl rfl ?_) | refine sops_yes rfl rfl rfl rfl (so_fieldAddr (v := .pe _ _ _ _ _) rfl rfl rfl rfl rfl rfl rfl rfl rfl rfl ?_)
            first | refine sops_yes rfl rfl rfl rfl (so_load (v := .d _) rfl rfl rfl rfl rfl rfl rfl rfl ?_) | refine sops_yes rfl rfl rfl rfl (so_load (v := .own _ _ _ _ _) rfl rfl rfl rfl rfl rfl rfl rfl ?_)
            refine sops_yes rfl rfl rfl rfl (so_lenSl rfl rfl rfl rfl rfl ?_)
            refine sops_yes rfl rfl rfl rfl (st_bin rfl rfl rfl rfl rfl ?_)
            refine sops_go rfl (st_pick (v := .d _) rfl rfl rfl rfl ?_)
            refine sops_nil ?_
            exact ⟨rfl, rfl, rfl, rfl, [_, _, _, _], rfl, rfl⟩
          case b53 =>
            refine sops_no rfl rfl rfl rfl rfl ?_
            refine sops_no rfl rfl rfl rfl rfl ?_
            refine sops_no rfl rfl rfl rfl rfl ?_
            refine sops_no rfl rfl rfl rfl rfl ?_
            refine sops_go rfl (st_pick (v := .d _) rfl rfl rfl rfl ?_)
            refine sops_nil ?_
            exact ⟨rfl, rfl, rfl, rfl, [_, _, _, _], rfl, rfl⟩
          refine sops_go rfl (st_assign (v := .d _) rfl rfl rfl ?_)
          refine sops_nil ?_
          refine ⟨_, hS, ?_⟩
          refine wk_of rfl (Nat.le_of_ble_eq_true rfl) (by rw [hB]; exact Nat.zero_le _) (tle_upd (le_eq rfl rfl) (tle_upd (le_eq rfl rfl) (tle_any _))) (hle_upd (.cells _ _ ⟨le_any _, le_any _, le_eq rfl rfl, trivial⟩) (hle_dead _)) (dead_upd (Nat.le_of_ble_eq_true rfl) (dead_none))
        · have hS := hx (by simpa using hc5) (by simpa using hc19) hc40
          refine swp_skip ?_
          refine ⟨_, hS, ?_⟩
          refine wk_of rfl (Nat.le_of_ble_eq_true rfl) (by rw [hB]; exact Nat.zero_le _) (tle_upd (le_eq rfl rfl) (tle_upd (le_eq rfl rfl) (tle_any _))) (hle_upd (.cells _ _ ⟨le_any _, le_any _, le_eq rfl rfl, trivial⟩) (hle_dead _)) (dead_upd (Nat.le_of_ble_eq_true rfl) (dead_none))
  · rintro ok0 hS
    have hS : (T.mk kind names list).formed = (ok0 && T.formedL list) := hS
    refine swp_seq ?_
    refine swp_seq ?_
    refine swp_region ?_
    refine sops_go rfl (st_assign (v := .d _) rfl rfl rfl ?_)
    refine sops_nil ?_
    refine swp_block ?_
    refine swp_len (l := 0) (i := 2) rfl rfl rfl fun hll => ?_
    rw [T.rows_len] at hll
    refine swp_loopF (F := fun p : Nat × Bool => { t := upd (upd (upd (fun _ => .any) 1 (.p 0 0 0)) 3 (.d (.v (.bool p.2)))) 4 (.d (.v (.int .i64 p.1))), n := 76, h := upd (fun _ => .dead) 0 (.cells [.any, .any, .d (.sl s (T.rows list))]), nx := 1 })
      (fun p => p.1 ≤ list.length ∧ (T.mk kind names list).formed = (p.2 && T.formedL (list.drop p.1))) (fun p => list.length - p.1) (0, ok0) ⟨Nat.zero_le _, hS⟩ ?_ ?_
    · refine wk_of rfl (Nat.le_of_ble_eq_true rfl) (by rw [hB]; exact Nat.zero_le _) (tle_upd (le_eq rfl rfl) (tle_upd (le_eq rfl rfl) (tle_upd (le_eq rfl rfl) (tle_any _)))) (hle_upd (.cells _ _ ⟨le_any _, le_any _, le_eq rfl rfl, trivial⟩) (hle_dead _)) (dead_upd (Nat.le_of_ble_eq_true rfl) (dead_none))
    rintro ⟨k, ok⟩ ⟨hk, hS⟩
    have hk : k ≤ list.length := hk
    have hS : (T.mk kind names list).formed = (ok && T.formedL (list.drop k)) := hS
    refine swp_seq ?_
    refine swp_seq ?_
    refine swp_region ?_
    refine sops_go rfl (st_move (v := .d _) rfl rfl rfl ?_)
    first | refine sops_go rfl (so_fieldAddr (v := .p _ _ _) rfl rfl rfl rfl rfl rfl rfl rfl rfl rfl ?_) | refine sops_go rfl (so_fieldAddr (v := .dp _ _) rfl rfl rfl rfl rfl rfl rfl rfl rfl rfl ?_) | refine sops_go rfl (so_fieldAddr (v := .pe _ _ _ _ _) rfl rfl rfl rfl rfl rfl rfl rfl rfl rfl ?_)
    first | refine sops_go rfl (so_load (v := .d _) rfl rfl rfl rfl rfl rfl rfl rfl ?_) | refine sops_go rfl (so_load (v := .own _ _ _ _ _) rfl rfl rfl rfl rfl rfl rfl rfl ?_)
    refine sops_go rfl (so_lenSl rfl rfl rfl rfl rfl ?_)
    refine sops_go rfl (st_bin rfl rfl rfl rfl rfl ?_)
    refine sops_go rfl (st_move (v := .d _) rfl rfl rfl ?_)
    refine' sops_and (d := 64) (p := 66) [65] 2 rfl rfl rfl (fun hb64 => ?a64) (fun hb64 => ?b64) ?_
    case a64 =>
      refine sops_yes rfl rfl rfl rfl (st_move (v := .d _) rfl rfl rfl ?_)
      refine sops_go rfl (st_pick (v := .d _) rfl rfl rfl rfl ?_)
      refine sops_nil ?_
      exact ⟨rfl, rfl, rfl, rfl, [_], rfl, rfl⟩
    case b64 =>
      refine sops_no rfl rfl rfl rfl rfl ?_
      refine sops_go rfl (st_pick (v := .d _) rfl rfl rfl rfl ?_)
      refine sops_nil ?_
      exact ⟨rfl, rfl, rfl, rfl, [_], rfl, rfl⟩
    refine sops_nil ?_
    refine swp_cond _ rfl (fun hc66 => ?_) (fun hc66 => ?_)
    · have hc := Bool.and_eq_true_iff.1 hc66
      have hlt : k < list.length := by have := of_decide_eq_true hc.1; rw [T.rows_len] at this; omega
      have hok : ok = true := hc.2
      rw [hok, Bool.true_and, List.drop_eq_getElem_cons hlt, T.formedL] at hS
      have ihk := ih _ (List.getElem_mem hlt) (hfl _ (List.getElem_mem hlt)) true
      refine swp_skip ?_
      refine swp_seq ?_
      refine swp_block ?_
      refine swp_region ?_
      first | refine sops_go rfl (so_fieldAddr (v := .p _ _ _) rfl rfl rfl rfl rfl rfl rfl rfl rfl rfl ?_) | refine sops_go rfl (so_fieldAddr (v := .dp _ _) rfl rfl rfl rfl rfl rfl rfl rfl rfl rfl ?_) | refine sops_go rfl (so_fieldAddr (v := .pe _ _ _ _ _) rfl rfl rfl rfl rfl rfl rfl rfl rfl rfl ?_)
      first | refine sops_go rfl (so_load (v := .d _) rfl rfl rfl rfl rfl rfl rfl rfl ?_) | refine sops_go rfl (so_load (v := .own _ _ _ _ _) rfl rfl rfl rfl rfl rfl rfl rfl ?_)
      refine sops_go rfl (st_move (v := .d _) rfl rfl rfl ?_)
      refine sops_go rfl (so_indexSl rfl rfl rfl rfl rfl rfl rfl (T.rows_all _) (by omega) (by rw [T.rows_len]; omega) (T.rows_get _ _ hlt) ?_)
      generalize list[k] = x at ihk hS ⊢
      obtain ⟨x1, x2, x3⟩ := x
      first | refine sops_go rfl (so_load (v := .d (.agg [_, _, _])) rfl rfl rfl rfl rfl rfl rfl rfl ?_) | refine sops_go rfl (so_load (v := .agg [_, _, _]) rfl rfl rfl rfl rfl rfl rfl rfl ?_)
      refine sops_go rfl (st_call rfl rfl (ihk) ⟨na_d _, trivial⟩ rfl ?_)
      refine sops_go rfl (st_assign (v := .d _) rfl rfl rfl ?_)
      refine sops_nil ?_
      refine swp_region ?_
      refine sops_go rfl (st_move (v := .d _) rfl rfl rfl ?_)
      refine sops_go rfl (st_bin rfl rfl rfl rfl rfl ?_)
      refine sops_go rfl (st_assign (v := .d _) rfl rfl rfl ?_)
      refine sops_nil ?_
      refine ⟨(k + 1, (T.mk x1 x2 x3).formed), ⟨hlt, hS⟩, by show list.length - (k + 1) < list.length - k; omega, ?_⟩
      refine wk_of rfl (Nat.le_of_ble_eq_true rfl) (by rw [hB]; exact Nat.zero_le _) (tle_upd (le_eq (next_i64 hlt hll) rfl) (tle_upd (le_eq rfl rfl) (tle_upd (le_eq rfl rfl) (tle_any _)))) (hle_upd (.cells _ _ ⟨le_any _, le_any _, le_eq rfl rfl, trivial⟩) (hle_dead _)) (dead_upd (Nat.le_of_ble_eq_true rfl) (dead_none))
    · have hS : (T.mk kind names list).formed = ok := by
        cases ok with
        | false => rw [hS]; rfl
        | true =>
          have hge : list.length ≤ k := by rw [Bool.and_true] at hc66; have := of_decide_eq_false hc66; rw [T.rows_len] at this; omega
          rw [hS, List.drop_of_length_le hge]; rfl
      refine swp_exit ?_
      with_reducible refine after_exit ?_
      with_reducible refine after_exit ?_
      refine inblk_hit ?_
      refine swp_seq ?_
      refine swp_region ?_
      refine sops_go rfl (st_move (v := .d _) rfl rfl rfl ?_)
      refine sops_go rfl (st_assign (v := .d _) rfl rfl rfl ?_)
      refine sops_nil ?_
      refine swp_ret ?_
      exact fin_b rfl rfl hS

theorem rcheck_pure (t : T) (hf : t.fit) (s : Bool) : Pure env 12 [.d (t.df s)] (.d (.v (.int .i64 t.check))) := by
  have c1 := rformed_pure t hf s
  have c2 := rshort_pure t s
  have c3 := rdepth_pure t s
  have c4 := rsize_pure t s
  have hS : t.check = if t.formed = true then (if (!t.span.ok || (decide (t.span.deep > 16) || decide (t.span.many > 4096))) = true then 2 else 0) else 110 := rfl
  generalize t.check = r at *
  generalize t.formed = b1 at *
  generalize t.span.ok = b2 at *
  generalize t.span.deep = b3 at *
  generalize t.span.many = b4 at *
  obtain ⟨kind, names, list⟩ := t
  refine pure_of_body Tryz.func12 rfl rfl rfl fun B hB => ?_
  refine swp_seq ?_
  refine swp_region ?_
  refine sops_go rfl (so_box (cs := [_, _, _]) rfl rfl rfl ?_)
  refine sops_go rfl (st_assign (v := .d _) rfl rfl rfl ?_)
  refine sops_nil ?_
  refine swp_seq ?_
  refine swp_block ?_
  refine swp_seq ?_
  refine swp_region ?_
  first | refine sops_go rfl (so_load (v := .d (.agg [_, _, _])) rfl rfl rfl rfl rfl rfl rfl rfl ?_) | refine sops_go rfl (so_load (v := .agg [_, _, _]) rfl rfl rfl rfl rfl rfl rfl rfl ?_)
  refine sops_go rfl (st_call rfl rfl (c1) ⟨na_d _, trivial⟩ rfl ?_)
  refine sops_go rfl (st_not rfl rfl rfl ?_)
  refine sops_go rfl (st_assign (v := .d _) rfl rfl rfl ?_)
  refine sops_nil ?_
  refine swp_cond _ rfl (fun hc3 => ?_) (fun hc3 => ?_)
  · rw [if_neg (by simpa using hc3)] at hS
    refine swp_seq ?_
    refine swp_region ?_
    refine sops_go rfl (st_assign (v := .d _) rfl rfl rfl ?_)
    refine sops_nil ?_
    refine swp_ret ?_
    with_reducible refine inblk_ret ?_
    with_reducible refine after_ret ?_
    exact fin_i rfl rfl hS
  · rw [if_pos (by simpa using hc3), ← Bool.or_assoc] at hS
    refine swp_seq ?_
    refine swp_region ?_
    first | refine sops_go rfl (so_load (v := .d (.agg [_, _, _])) rfl rfl rfl rfl rfl rfl rfl rfl ?_) | refine sops_go rfl (so_load (v := .agg [_, _, _]) rfl rfl rfl rfl rfl rfl rfl rfl ?_)
    refine sops_go rfl (st_call rfl rfl (c2) ⟨na_d _, trivial⟩ rfl ?_)
    refine sops_go rfl (st_not rfl rfl rfl ?_)
    refine sops_go rfl (st_move (v := .d _) rfl rfl rfl ?_)
    refine' sops_or (d := 11) (p := 15) [12, 13, 14] 4 rfl rfl rfl (fun hb11 => ?a11) (fun hb11 => ?b11) ?_
    case a11 =>
      first | refine sops_yes rfl rfl rfl rfl (so_load (v := .d (.agg [_, _, _])) rfl rfl rfl rfl rfl rfl rfl rfl ?_) | refine sops_yes rfl rfl rfl rfl (so_load (v := .agg [_, _, _]) rfl rfl rfl rfl rfl rfl rfl rfl ?_)
      refine sops_yes rfl rfl rfl rfl (st_call rfl rfl (c3) ⟨na_d _, trivial⟩ rfl ?_)
      refine sops_yes rfl rfl rfl rfl (st_bin rfl rfl rfl rfl rfl ?_)
      refine sops_go rfl (st_pick (v := .d _) rfl rfl rfl rfl ?_)
      refine sops_nil ?_
      exact ⟨rfl, rfl, rfl, rfl, [_, _, _], rfl, rfl⟩
    case b11 =>
      refine sops_no rfl rfl rfl rfl rfl ?_
      refine sops_no rfl rfl rfl rfl rfl ?_
      refine sops_no rfl rfl rfl rfl rfl ?_
      refine sops_go rfl (st_pick (v := .d _) rfl rfl rfl rfl ?_)
      refine sops_nil ?_
      exact ⟨rfl, rfl, rfl, rfl, [_, _, _], rfl, rfl⟩
    refine sops_go rfl (st_move (v := .d _) rfl rfl rfl ?_)
    refine' sops_or (d := 16) (p := 20) [17, 18, 19] 4 rfl rfl rfl (fun hb16 => ?a16) (fun hb16 => ?b16) ?_
    case a16 =>
      first | refine sops_yes rfl rfl rfl rfl (so_load (v := .d (.agg [_, _, _])) rfl rfl rfl rfl rfl rfl rfl rfl ?_) | refine sops_yes rfl rfl rfl rfl (so_load (v := .agg [_, _, _]) rfl rfl rfl rfl rfl rfl rfl rfl ?_)
      refine sops_yes rfl rfl rfl rfl (st_call rfl rfl (c4) ⟨na_d _, trivial⟩ rfl ?_)
      refine sops_yes rfl rfl rfl rfl (st_bin rfl rfl rfl rfl rfl ?_)
      refine sops_go rfl (st_pick (v := .d _) rfl rfl rfl rfl ?_)
      refine sops_nil ?_
      exact ⟨rfl, rfl, rfl, rfl, [_, _, _], rfl, rfl⟩
    case b16 =>
      refine sops_no rfl rfl rfl rfl rfl ?_
      refine sops_no rfl rfl rfl rfl rfl ?_
      refine sops_no rfl rfl rfl rfl rfl ?_
      refine sops_go rfl (st_pick (v := .d _) rfl rfl rfl rfl ?_)
      refine sops_nil ?_
      exact ⟨rfl, rfl, rfl, rfl, [_, _, _], rfl, rfl⟩
    refine sops_go rfl (st_assign (v := .d _) rfl rfl rfl ?_)
    refine sops_nil ?_
    refine swp_cond _ rfl (fun hc7 => ?_) (fun hc7 => ?_)
    · rw [if_pos hc7] at hS
      refine swp_seq ?_
      refine swp_region ?_
      refine sops_go rfl (st_assign (v := .d _) rfl rfl rfl ?_)
      refine sops_nil ?_
      refine swp_ret ?_
      with_reducible refine inblk_ret ?_
      with_reducible refine after_ret ?_
      exact fin_i rfl rfl hS
    · rw [if_neg (by rw [hc7]; simp)] at hS
      refine swp_skip ?_
      refine swp_seq ?_
      refine swp_region ?_
      refine sops_go rfl (st_assign (v := .d _) rfl rfl rfl ?_)
      refine sops_nil ?_
      refine swp_ret ?_
      exact fin_i rfl rfl hS
end Go.Proofs.YtdcpnpcmgfmenaaGreatDoor
