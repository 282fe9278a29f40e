/-
  The law TypesThree of the given program: for every input that the row speaks of the call returns true, and each argument reads afterwards as it read before. Conditions: the row's own (the listed variables read as the program's text lays them).
-/
import Derived.Test.YtdcpnpcmgfmenaaDoorM3
import Derived.Deep.Slices
import Derived.LaidMore
import Derived.OpenShut
import Derived.Test.YtdcpnpcmgfmenaaDoorRows
import Derived.ProofKit
import Derived.Lay
import Derived.Below
import Derived.SizedLaws
import Derived.SevenTiedAt
import Derived.Stop.Joined
import Derived.Test.YtdcpnpcmgfmenaaDoorTie
import Derived.Test.YtdcpnpcmgfmenaaDoorCards
set_option linter.unusedVariables false
set_option linter.unusedSimpArgs false
/-
  Walks: how big types are, as far as the guards ask. Conditions: none.
-/
set_option linter.unusedVariables false
set_option maxRecDepth 100000
namespace Go.Proofs.YtdcpnpcmgfmenaaDoor
open Go Go.Proofs.YtdcpnpcmgfmenaaDoor.Lg

theorem parts_s (t : T) : ∀ n m w : Int, PureS env 17 [.d t.d, .d (.v (.int .i64 n)), .d (.v (.int .i64 m)), .d (.v (.int .i64 w))] isInt := by
  revert t
  apply T.ind
  intro kind names list ih n m w
  refine pureS_of_body Tryd.func17 rfl rfl rfl fun B hB => ?_
  refine swp_seq ?_
  refine swp_region ?_
  refine sops_go rfl (so_box (cs := [_, _, _]) rfl rfl rfl ?_)
  refine sops_go rfl (st_assign (v := .d _) rfl rfl rfl ?_)
  refine sops_nil ?_
  refine swp_seq ?_
  refine swp_seq ?_
  refine swp_region ?_
  refine sops_go rfl (st_move (v := .d _) rfl rfl rfl ?_)
  refine sops_go rfl (st_bin rfl rfl rfl rfl rfl ?_)
  refine sops_nil ?_
  -- cond
  refine swp_cond _ rfl (fun hc => ?_) (fun hc => ?_)
  · refine swp_seq ?_
    refine swp_region ?_
    refine sops_go rfl (st_move (v := .d _) rfl rfl rfl ?_)
    refine sops_go rfl (st_bin rfl rfl rfl rfl rfl ?_)
    refine sops_go rfl (st_assign (v := .d _) rfl rfl rfl ?_)
    refine sops_nil ?_
    refine swp_ret ?_
    with_reducible refine after_ret ?_
    -- ret
    exact ⟨.inl rfl, _, ⟨_, rfl⟩, .inl ⟨8, rfl, ra_d (keeps_v _)⟩⟩
  · refine swp_skip ?_
    refine swp_seq ?_
    refine swp_region ?_
    refine sops_go rfl (st_move (v := .d _) rfl rfl rfl ?_)
    refine sops_go rfl (st_bin rfl rfl rfl rfl rfl ?_)
    first | refine sops_go rfl (so_fieldAddr (v := .p _ _ _) rfl rfl rfl rfl rfl rfl rfl rfl rfl rfl ?_) | refine sops_go rfl (so_fieldAddr (v := .dp _ _) rfl rfl rfl rfl rfl rfl rfl rfl rfl rfl ?_) | refine sops_go rfl (so_fieldAddr (v := .pe _ _ _ _ _) rfl rfl rfl rfl rfl rfl rfl rfl rfl rfl ?_)
    first | refine sops_go rfl (so_load (v := .d _) rfl rfl rfl rfl rfl rfl rfl rfl ?_) | refine sops_go rfl (so_load (v := .own _ _ _ _ _) rfl rfl rfl rfl rfl rfl rfl rfl ?_)
    refine sops_go rfl (so_lenSl rfl rfl rfl rfl rfl ?_)
    refine sops_go rfl (st_bin rfl rfl rfl rfl rfl ?_)
    refine sops_go rfl (st_assign (v := .d _) rfl rfl rfl ?_)
    refine sops_nil ?_
    -- stop
    refine swp_len (l := 0) (i := 1) rfl rfl rfl fun hn => ?_
    refine swp_len (l := 0) (i := 2) rfl rfl rfl fun hlen => ?_
    rw [strRows_len] at hn
    rw [T.rows_len] at hlen
    let F0 : Int → St := fun n => { t := upd (upd (upd (upd (fun _ => .any) 4 (.p 0 0 0)) 3 (.d (.v (.int .i64 w)))) 2 (.d (.v (.int .i64 m)))) 1 (.d (.v (.int .i64 n))), n := 64, h := upd (fun _ => .dead) 0 (.cells [.any, .d (.sl true (strRows names)), .d (.sl true (T.rows list))]), nx := 1 }
    refine swp_seqF (F := F0) (P := fun _ => True) ?_ ?_
    · refine swp_seq ?_
      refine swp_region ?_
      refine sops_go rfl (st_assign (v := .d _) rfl rfl rfl ?_)
      refine sops_nil ?_
      refine swp_block ?_
      -- loop
      let F1 : Nat × Int → St := fun p => { F0 p.2 with t := upd (F0 p.2).t 9 (.d (.v (.int .i64 p.1))) }
      refine swp_loopF (F := F1) (fun p => p.1 ≤ names.length) (fun p => names.length - p.1) (0, IntKind.i64.wrap (IntKind.i64.wrap (n + 1) + ((strRows names).length : Int))) (Nat.zero_le _) ?_ ?_
      · refine wk_of rfl (Nat.le_of_ble_eq_true rfl) (by rw [hB]; exact Nat.zero_le _) (tle_upd (le_eq rfl rfl) (tle_upd (le_eq rfl rfl) (tle_upd (le_eq rfl rfl) (tle_upd (le_eq rfl rfl) (tle_upd (le_eq rfl rfl) (tle_any _)))))) (hle_upd (.cells _ _ ⟨le_any _, le_eq rfl rfl, le_eq rfl rfl, trivial⟩) (hle_dead _)) (dead_upd (Nat.le_of_ble_eq_true rfl) (dead_none))
      rintro ⟨k, n1⟩ hk
      simp only at hk
      refine swp_seq ?_
      refine swp_seq ?_
      refine swp_region ?_
      refine sops_go rfl (st_move (v := .d _) rfl rfl rfl ?_)
      first | refine sops_go rfl (so_fieldAddr (v := .p _ _ _) rfl rfl rfl rfl rfl rfl rfl rfl rfl rfl ?_) | refine sops_go rfl (so_fieldAddr (v := .dp _ _) rfl rfl rfl rfl rfl rfl rfl rfl rfl rfl ?_) | refine sops_go rfl (so_fieldAddr (v := .pe _ _ _ _ _) rfl rfl rfl rfl rfl rfl rfl rfl rfl rfl ?_)
      first | refine sops_go rfl (so_load (v := .d _) rfl rfl rfl rfl rfl rfl rfl rfl ?_) | refine sops_go rfl (so_load (v := .own _ _ _ _ _) rfl rfl rfl rfl rfl rfl rfl rfl ?_)
      refine sops_go rfl (so_lenSl rfl rfl rfl rfl rfl ?_)
      refine sops_go rfl (st_bin rfl rfl rfl rfl rfl ?_)
      refine sops_go rfl (st_move (v := .d _) rfl rfl rfl ?_)
      -- guard (some (5, true))
      refine sops_case 26 rfl (fun hb26 => ?_) (fun hb26 => ?_)
      · have hlt : k < names.length := by have := of_decide_eq_true hb26; rw [strRows_len] at this; omega
        first | refine sops_yes rfl rfl rfl rfl (st_move (v := .d _) rfl rfl rfl ?_) | refine sops_no rfl rfl rfl rfl rfl ?_
        first | refine sops_yes rfl rfl rfl rfl (st_move (v := .d _) rfl rfl rfl ?_) | refine sops_no rfl rfl rfl rfl rfl ?_
        first | refine sops_yes rfl rfl rfl rfl (st_bin rfl rfl rfl rfl rfl ?_) | refine sops_no rfl rfl rfl rfl rfl ?_
        refine sops_go rfl (st_pick (v := .d _) rfl rfl rfl rfl ?_)
        refine sops_nil ?_
        -- cond
        refine swp_cond _ rfl (fun hc => ?_) (fun hc => ?_)
        · refine swp_skip ?_
          refine swp_seq ?_
          refine swp_block ?_
          refine swp_region ?_
          refine sops_go rfl (st_move (v := .d _) rfl rfl rfl ?_)
          first | refine sops_go rfl (so_fieldAddr (v := .p _ _ _) rfl rfl rfl rfl rfl rfl rfl rfl rfl rfl ?_) | refine sops_go rfl (so_fieldAddr (v := .dp _ _) rfl rfl rfl rfl rfl rfl rfl rfl rfl rfl ?_) | refine sops_go rfl (so_fieldAddr (v := .pe _ _ _ _ _) rfl rfl rfl rfl rfl rfl rfl rfl rfl rfl ?_)
          first | refine sops_go rfl (so_load (v := .d _) rfl rfl rfl rfl rfl rfl rfl rfl ?_) | refine sops_go rfl (so_load (v := .own _ _ _ _ _) rfl rfl rfl rfl rfl rfl rfl rfl ?_)
          refine sops_go rfl (st_move (v := .d _) rfl rfl rfl ?_)
          -- hand: indexAddr 23 t35 t36
          refine sops_go rfl (so_indexSl rfl rfl rfl rfl rfl rfl rfl (strRows_all _) (by omega) (by rw [strRows_len]; omega) (strRows_get _ _ hlt) ?_)
          refine sops_go rfl (so_load (v := .d _) rfl rfl rfl rfl rfl rfl rfl rfl ?_)
          refine sops_go rfl (so_lenStr rfl rfl rfl rfl rfl ?_)
          refine sops_go rfl (st_bin rfl rfl rfl rfl rfl ?_)
          refine sops_go rfl (st_assign (v := .d _) rfl rfl rfl ?_)
          refine sops_nil ?_
          refine swp_region ?_
          refine sops_go rfl (st_move (v := .d _) rfl rfl rfl ?_)
          refine sops_go rfl (st_bin rfl rfl rfl rfl rfl ?_)
          refine sops_go rfl (st_assign (v := .d _) rfl rfl rfl ?_)
          refine sops_nil ?_
          -- loopend
          refine ⟨(k + 1, IntKind.i64.wrap (n1 + ((names[k]).size : Int))), hlt, by simp only; omega, ?_⟩
          refine wk_of rfl (Nat.le_of_ble_eq_true rfl) (by rw [hB]; exact Nat.zero_le _) (tle_upd (le_eq (next_i64 hlt hn) rfl) (tle_upd (le_eq rfl rfl) (tle_upd (le_eq rfl rfl) (tle_upd (le_eq rfl rfl) (tle_upd (le_eq rfl rfl) (tle_any _)))))) (hle_upd (.cells _ _ ⟨le_any _, le_eq rfl rfl, le_eq rfl rfl, trivial⟩) (hle_dead _)) (dead_upd (Nat.le_of_ble_eq_true rfl) (dead_none))
        · refine swp_exit ?_
          with_reducible refine after_exit ?_
          with_reducible refine after_exit ?_
          refine inblk_hit ?_
          -- cut
          refine ⟨n1, trivial, ?_⟩
          refine wk_of rfl (Nat.le_of_ble_eq_true rfl) (by rw [hB]; exact Nat.zero_le _) (tle_upd (le_eq rfl rfl) (tle_upd (le_eq rfl rfl) (tle_upd (le_eq rfl rfl) (tle_upd (le_eq rfl rfl) (tle_any _))))) (hle_upd (.cells _ _ ⟨le_any _, le_eq rfl rfl, le_eq rfl rfl, trivial⟩) (hle_dead _)) (dead_upd (Nat.le_of_ble_eq_true rfl) (dead_none))
      · first | refine sops_yes rfl rfl rfl rfl (st_move (v := .d _) rfl rfl rfl ?_) | refine sops_no rfl rfl rfl rfl rfl ?_
        first | refine sops_yes rfl rfl rfl rfl (st_move (v := .d _) rfl rfl rfl ?_) | refine sops_no rfl rfl rfl rfl rfl ?_
        first | refine sops_yes rfl rfl rfl rfl (st_bin rfl rfl rfl rfl rfl ?_) | refine sops_no rfl rfl rfl rfl rfl ?_
        refine sops_go rfl (st_pick (v := .d _) rfl rfl rfl rfl ?_)
        refine sops_nil ?_
        -- cond
        refine swp_condF rfl ?_
        refine swp_exit ?_
        with_reducible refine after_exit ?_
        with_reducible refine after_exit ?_
        refine inblk_hit ?_
        -- cut
        refine ⟨n1, trivial, ?_⟩
        refine wk_of rfl (Nat.le_of_ble_eq_true rfl) (by rw [hB]; exact Nat.zero_le _) (tle_upd (le_eq rfl rfl) (tle_upd (le_eq rfl rfl) (tle_upd (le_eq rfl rfl) (tle_upd (le_eq rfl rfl) (tle_any _))))) (hle_upd (.cells _ _ ⟨le_any _, le_eq rfl rfl, le_eq rfl rfl, trivial⟩) (hle_dead _)) (dead_upd (Nat.le_of_ble_eq_true rfl) (dead_none))
    rintro n1 -
    refine swp_seq ?_
    refine swp_seq ?_
    refine swp_region ?_
    refine sops_go rfl (st_assign (v := .d _) rfl rfl rfl ?_)
    refine sops_nil ?_
    refine swp_block ?_
    -- loop
    let F2 : Nat × Int → St := fun p => { F0 p.2 with t := upd (F0 p.2).t 10 (.d (.v (.int .i64 p.1))) }
    refine swp_loopF (F := F2) (fun p => p.1 ≤ list.length) (fun p => list.length - p.1) (0, n1) (Nat.zero_le _) ?_ ?_
    · refine wk_of rfl (Nat.le_of_ble_eq_true rfl) (by rw [hB]; exact Nat.zero_le _) (tle_upd (le_eq rfl rfl) (tle_upd (le_eq rfl rfl) (tle_upd (le_eq rfl rfl) (tle_upd (le_eq rfl rfl) (tle_upd (le_eq rfl rfl) (tle_any _)))))) (hle_upd (.cells _ _ ⟨le_any _, le_eq rfl rfl, le_eq rfl rfl, trivial⟩) (hle_dead _)) (dead_upd (Nat.le_of_ble_eq_true rfl) (dead_none))
    rintro ⟨k, n2⟩ hk
    simp only at hk
    refine swp_seq ?_
    refine swp_seq ?_
    refine swp_region ?_
    refine sops_go rfl (st_move (v := .d _) rfl rfl rfl ?_)
    first | refine sops_go rfl (so_fieldAddr (v := .p _ _ _) rfl rfl rfl rfl rfl rfl rfl rfl rfl rfl ?_) | refine sops_go rfl (so_fieldAddr (v := .dp _ _) rfl rfl rfl rfl rfl rfl rfl rfl rfl rfl ?_) | refine sops_go rfl (so_fieldAddr (v := .pe _ _ _ _ _) rfl rfl rfl rfl rfl rfl rfl rfl rfl rfl ?_)
    first | refine sops_go rfl (so_load (v := .d _) rfl rfl rfl rfl rfl rfl rfl rfl ?_) | refine sops_go rfl (so_load (v := .own _ _ _ _ _) rfl rfl rfl rfl rfl rfl rfl rfl ?_)
    refine sops_go rfl (so_lenSl rfl rfl rfl rfl rfl ?_)
    refine sops_go rfl (st_bin rfl rfl rfl rfl rfl ?_)
    refine sops_go rfl (st_move (v := .d _) rfl rfl rfl ?_)
    -- guard (some (5, true))
    refine sops_case 46 rfl (fun hb46 => ?_) (fun hb46 => ?_)
    · have hlt : k < list.length := by have := of_decide_eq_true hb46; rw [T.rows_len] at this; omega
      first | refine sops_yes rfl rfl rfl rfl (st_move (v := .d _) rfl rfl rfl ?_) | refine sops_no rfl rfl rfl rfl rfl ?_
      first | refine sops_yes rfl rfl rfl rfl (st_move (v := .d _) rfl rfl rfl ?_) | refine sops_no rfl rfl rfl rfl rfl ?_
      first | refine sops_yes rfl rfl rfl rfl (st_bin rfl rfl rfl rfl rfl ?_) | refine sops_no rfl rfl rfl rfl rfl ?_
      refine sops_go rfl (st_pick (v := .d _) rfl rfl rfl rfl ?_)
      refine sops_nil ?_
      -- cond
      refine swp_cond _ rfl (fun hc => ?_) (fun hc => ?_)
      · refine swp_skip ?_
        refine swp_seq ?_
        refine swp_block ?_
        refine swp_region ?_
        first | refine sops_go rfl (so_fieldAddr (v := .p _ _ _) rfl rfl rfl rfl rfl rfl rfl rfl rfl rfl ?_) | refine sops_go rfl (so_fieldAddr (v := .dp _ _) rfl rfl rfl rfl rfl rfl rfl rfl rfl rfl ?_) | refine sops_go rfl (so_fieldAddr (v := .pe _ _ _ _ _) rfl rfl rfl rfl rfl rfl rfl rfl rfl rfl ?_)
        first | refine sops_go rfl (so_load (v := .d _) rfl rfl rfl rfl rfl rfl rfl rfl ?_) | refine sops_go rfl (so_load (v := .own _ _ _ _ _) rfl rfl rfl rfl rfl rfl rfl rfl ?_)
        refine sops_go rfl (st_move (v := .d _) rfl rfl rfl ?_)
        -- hand: indexAddr 24 t54 t55
        refine sops_go rfl (so_indexSl rfl rfl rfl rfl rfl rfl rfl (T.rows_all _) (by omega) (by rw [T.rows_len]; omega) (T.rows_get _ _ hlt) ?_)
        have ihk := ih _ (List.getElem_mem hlt)
        generalize list[k] = x at ihk ⊢
        obtain ⟨a1, a2, a3⟩ := x
        first | refine sops_go rfl (so_load (v := .d (.agg [_, _, _])) rfl rfl rfl rfl rfl rfl rfl rfl ?_) | refine sops_go rfl (so_load (v := .agg [_, _, _]) rfl rfl rfl rfl rfl rfl rfl rfl ?_)
        refine sops_go rfl (st_move (v := .d _) rfl rfl rfl ?_)
        refine sops_go rfl (st_move (v := .d _) rfl rfl rfl ?_)
        refine sops_go rfl (st_move (v := .d _) rfl rfl rfl ?_)
        refine sops_go rfl (st_bin rfl rfl rfl rfl rfl ?_)
        -- hand: CALL f17(t57, t58, t59, t61)
        refine sops_go rfl (st_callS rfl rfl (ihk _ _ _) ⟨na_d _, na_d _, na_d _, na_d _, trivial⟩ rfl fun r hr => ?_)
        obtain ⟨v, rfl⟩ := hr
        refine sops_go rfl (st_assign (v := .d _) rfl rfl rfl ?_)
        refine sops_nil ?_
        refine swp_region ?_
        refine sops_go rfl (st_move (v := .d _) rfl rfl rfl ?_)
        refine sops_go rfl (st_bin rfl rfl rfl rfl rfl ?_)
        refine sops_go rfl (st_assign (v := .d _) rfl rfl rfl ?_)
        refine sops_nil ?_
        -- loopend
        refine ⟨(k + 1, v), hlt, by simp only; omega, ?_⟩
        refine wk_of rfl (Nat.le_of_ble_eq_true rfl) (by rw [hB]; exact Nat.zero_le _) (tle_upd (le_eq (next_i64 hlt hlen) rfl) (tle_upd (le_eq rfl rfl) (tle_upd (le_eq rfl rfl) (tle_upd (le_eq rfl rfl) (tle_upd (le_eq rfl rfl) (tle_any _)))))) (hle_upd (.cells _ _ ⟨le_any _, le_eq rfl rfl, le_eq rfl rfl, trivial⟩) (hle_dead _)) (dead_upd (Nat.le_of_ble_eq_true rfl) (dead_none))
      · refine swp_exit ?_
        with_reducible refine after_exit ?_
        with_reducible refine after_exit ?_
        refine inblk_hit ?_
        refine swp_seq ?_
        refine swp_region ?_
        refine sops_go rfl (st_move (v := .d _) rfl rfl rfl ?_)
        refine sops_go rfl (st_assign (v := .d _) rfl rfl rfl ?_)
        refine sops_nil ?_
        refine swp_ret ?_
        -- ret
        exact ⟨.inl rfl, _, ⟨_, rfl⟩, .inl ⟨8, rfl, ra_d (keeps_v _)⟩⟩
    · first | refine sops_yes rfl rfl rfl rfl (st_move (v := .d _) rfl rfl rfl ?_) | refine sops_no rfl rfl rfl rfl rfl ?_
      first | refine sops_yes rfl rfl rfl rfl (st_move (v := .d _) rfl rfl rfl ?_) | refine sops_no rfl rfl rfl rfl rfl ?_
      first | refine sops_yes rfl rfl rfl rfl (st_bin rfl rfl rfl rfl rfl ?_) | refine sops_no rfl rfl rfl rfl rfl ?_
      refine sops_go rfl (st_pick (v := .d _) rfl rfl rfl rfl ?_)
      refine sops_nil ?_
      -- cond
      refine swp_condF rfl ?_
      refine swp_exit ?_
      with_reducible refine after_exit ?_
      with_reducible refine after_exit ?_
      refine inblk_hit ?_
      refine swp_seq ?_
      refine swp_region ?_
      refine sops_go rfl (st_move (v := .d _) rfl rfl rfl ?_)
      refine sops_go rfl (st_assign (v := .d _) rfl rfl rfl ?_)
      refine sops_nil ?_
      refine swp_ret ?_
      -- ret
      exact ⟨.inl rfl, _, ⟨_, rfl⟩, .inl ⟨8, rfl, ra_d (keeps_v _)⟩⟩

theorem bigType_s (t : T) : PureS env 7 [.d t.d] isBool := by
  obtain ⟨kind, names, list⟩ := t
  refine pureS_of_body Tryd.func7 rfl rfl rfl fun B hB => ?_
  refine swp_seq ?_
  refine swp_region ?_
  refine sops_go rfl (so_box (cs := [_, _, _]) rfl rfl rfl ?_)
  refine sops_go rfl (st_assign (v := .d _) rfl rfl rfl ?_)
  refine sops_nil ?_
  refine swp_seq ?_
  refine swp_region ?_
  first | refine sops_go rfl (so_load (v := .d (.agg [_, _, _])) rfl rfl rfl rfl rfl rfl rfl rfl ?_) | refine sops_go rfl (so_load (v := .agg [_, _, _]) rfl rfl rfl rfl rfl rfl rfl rfl ?_)
  -- hand: CALL f17(t3, 0:i64, 32768:i64, 0:i64)
  refine sops_go rfl (st_callS rfl rfl (parts_s (.mk kind names list) _ _ _) ⟨na_d _, na_d _, na_d _, na_d _, trivial⟩ rfl fun r hr => ?_)
  obtain ⟨v, rfl⟩ := hr
  refine sops_go rfl (st_bin rfl rfl rfl rfl rfl ?_)
  refine sops_go rfl (st_move (v := .d _) rfl rfl rfl ?_)
  -- guard (some (3, false))
  refine sops_case 6 rfl (fun hb6 => ?_) (fun hb6 => ?_)
  · first | refine sops_yes rfl rfl rfl rfl (so_load (v := .d (.agg [_, _, _])) rfl rfl rfl rfl rfl rfl rfl rfl ?_) | refine sops_yes rfl rfl rfl rfl (so_load (v := .agg [_, _, _]) rfl rfl rfl rfl rfl rfl rfl rfl ?_) | refine sops_no rfl rfl rfl rfl rfl ?_
    -- hand: CALL f18(t7)
    first | refine sops_yes rfl rfl rfl rfl (st_call rfl rfl (wide_pure (.mk kind names list)) ⟨na_d _, trivial⟩ rfl ?_) | refine sops_no rfl rfl rfl rfl rfl ?_
    refine sops_go rfl (st_pick (v := .d _) rfl rfl rfl rfl ?_)
    refine sops_go rfl (st_assign (v := .d _) rfl rfl rfl ?_)
    refine sops_nil ?_
    refine swp_ret ?_
    -- ret
    exact ⟨.inl rfl, _, ⟨_, rfl⟩, .inl ⟨2, rfl, ra_d (keeps_v _)⟩⟩
  · first | refine sops_yes rfl rfl rfl rfl (so_load (v := .d (.agg [_, _, _])) rfl rfl rfl rfl rfl rfl rfl rfl ?_) | refine sops_yes rfl rfl rfl rfl (so_load (v := .agg [_, _, _]) rfl rfl rfl rfl rfl rfl rfl rfl ?_) | refine sops_no rfl rfl rfl rfl rfl ?_
    -- hand: CALL f18(t7)
    first | refine sops_yes rfl rfl rfl rfl (st_call rfl rfl (wide_pure (.mk kind names list)) ⟨na_d _, trivial⟩ rfl ?_) | refine sops_no rfl rfl rfl rfl rfl ?_
    refine sops_go rfl (st_pick (v := .d _) rfl rfl rfl rfl ?_)
    refine sops_go rfl (st_assign (v := .d _) rfl rfl rfl ?_)
    refine sops_nil ?_
    refine swp_ret ?_
    -- ret
    exact ⟨.inl rfl, _, ⟨_, rfl⟩, .inl ⟨2, rfl, ra_d (keeps_v _)⟩⟩
end Go.Proofs.YtdcpnpcmgfmenaaDoor
/-
  Walks: how big values are, as far as the guards ask. Conditions: none.
-/
set_option linter.unusedVariables false
set_option maxRecDepth 100000
namespace Go.Proofs.YtdcpnpcmgfmenaaDoor
open Go Go.Proofs.YtdcpnpcmgfmenaaDoor.Lg

mutual
def V.many : V → Bool
  | .mk _ _ _ _ _ _ _ names list => decide (2000 < names.length) || V.manys list
def V.manys : List V → Bool
  | [] => false
  | x :: r => x.many || V.manys r
end
theorem V.manys_any : ∀ l : List V, V.manys l = l.any V.many
  | [] => rfl
  | x :: r => by rw [V.manys, V.manys_any r]; rfl
theorem keeps_strs' (l : List ByteArray) : Keeps (.sl true (strRows l)) := keeps_strs l

theorem many_pure (t : V) : Pure env 29 [.d t.d] (.d (.v (.bool t.many))) := by
  revert t
  apply V.ind
  intro kind flag neg digits exp bits text names list ih
  refine pure_of_body Tryd.func29 rfl rfl rfl fun B hB => ?_
  refine swp_seq ?_
  refine swp_region ?_
  refine sops_go rfl (so_box (cs := [_, _, _, _, _, _, _, _, _]) rfl rfl rfl ?_)
  refine sops_go rfl (st_assign (v := .d _) rfl rfl rfl ?_)
  refine sops_nil ?_
  refine swp_seq ?_
  refine swp_seq ?_
  refine swp_region ?_
  first | refine sops_go rfl (so_fieldAddr (v := .p _ _ _) rfl rfl rfl rfl rfl rfl rfl rfl rfl rfl ?_) | refine sops_go rfl (so_fieldAddr (v := .dp _ _) rfl rfl rfl rfl rfl rfl rfl rfl rfl rfl ?_) | refine sops_go rfl (so_fieldAddr (v := .pe _ _ _ _ _) rfl rfl rfl rfl rfl rfl rfl rfl rfl rfl ?_)
  first | refine sops_go rfl (so_load (v := .d _) rfl rfl rfl rfl rfl rfl rfl rfl ?_) | refine sops_go rfl (so_load (v := .own _ _ _ _ _) rfl rfl rfl rfl rfl rfl rfl rfl ?_)
  refine sops_go rfl (so_lenSl rfl rfl rfl rfl rfl ?_)
  refine sops_go rfl (st_bin rfl rfl rfl rfl rfl ?_)
  refine sops_nil ?_
  -- cond
  refine swp_cond _ rfl (fun hc => ?_) (fun hc => ?_)
  · refine swp_seq ?_
    refine swp_region ?_
    refine sops_go rfl (st_assign (v := .d _) rfl rfl rfl ?_)
    refine sops_nil ?_
    refine swp_ret ?_
    with_reducible refine after_ret ?_
    -- ret
    refine ⟨.inl rfl, .inl ⟨2, rfl, ?_⟩⟩
    have e : (V.mk kind flag neg digits exp bits text names list).many = true := by
      have := of_decide_eq_true hc
      rw [strRows_len] at this
      simp [V.many]; omega
    rw [e]; exact ra_d (keeps_v _)
  · refine swp_skip ?_
    refine swp_seq ?_
    refine swp_seq ?_
    refine swp_region ?_
    refine sops_go rfl (st_assign (v := .d _) rfl rfl rfl ?_)
    refine sops_nil ?_
    refine swp_block ?_
    -- loop
    have hn : (names.length : Int) ≤ 2000 := by
      have := of_decide_eq_false hc
      rw [strRows_len] at this; omega
    have hw : (V.mk kind flag neg digits exp bits text names list).many = list.any V.many := by
      have : ¬ 2000 < names.length := by omega
      simp [V.many, V.manys_any, this]
    refine swp_len (l := 0) (i := 8) rfl rfl rfl fun hlen => ?_
    rw [V.rows_len] at hlen
    refine swp_loopF (F := fun k : Nat => { t := upd (upd (fun _ => .any) 1 (.p 0 0 0)) 3 (.d (.v (.int .i64 k))), n := 21, h := upd (fun _ => .dead) 0 (.cells [.any, .any, .any, .any, .any, .any, .any, .any, .d (.sl true (V.rows list))]), nx := 1 })
      (fun k => k ≤ list.length ∧ (list.take k).any V.many = false) (fun k => list.length - k) 0 ⟨Nat.zero_le _, rfl⟩ ?_ ?_
    · refine wk_of rfl (Nat.le_of_ble_eq_true rfl) (by rw [hB]; exact Nat.zero_le _) (tle_upd (le_eq rfl rfl) (tle_upd (le_eq rfl rfl) (tle_any _))) (hle_upd (.cells _ _ ⟨le_any _, le_any _, le_any _, le_any _, le_any _, le_any _, le_any _, le_any _, le_eq rfl rfl, trivial⟩) (hle_dead _)) (dead_upd (Nat.le_of_ble_eq_true rfl) (dead_none))
    rintro k ⟨hk, ha⟩
    refine swp_seq ?_
    refine swp_seq ?_
    refine swp_region ?_
    refine sops_go rfl (st_move (v := .d _) rfl rfl rfl ?_)
    first | refine sops_go rfl (so_fieldAddr (v := .p _ _ _) rfl rfl rfl rfl rfl rfl rfl rfl rfl rfl ?_) | refine sops_go rfl (so_fieldAddr (v := .dp _ _) rfl rfl rfl rfl rfl rfl rfl rfl rfl rfl ?_) | refine sops_go rfl (so_fieldAddr (v := .pe _ _ _ _ _) rfl rfl rfl rfl rfl rfl rfl rfl rfl rfl ?_)
    first | refine sops_go rfl (so_load (v := .d _) rfl rfl rfl rfl rfl rfl rfl rfl ?_) | refine sops_go rfl (so_load (v := .own _ _ _ _ _) rfl rfl rfl rfl rfl rfl rfl rfl ?_)
    refine sops_go rfl (so_lenSl rfl rfl rfl rfl rfl ?_)
    refine sops_go rfl (st_bin rfl rfl rfl rfl rfl ?_)
    refine sops_nil ?_
    -- cond
    refine swp_cond _ rfl (fun hc => ?_) (fun hc => ?_)
    · have hlt : k < list.length := by have := of_decide_eq_true hc; rw [V.rows_len] at this; omega
      refine swp_skip ?_
      refine swp_seq ?_
      refine swp_block ?_
      refine swp_seq ?_
      refine swp_region ?_
      first | refine sops_go rfl (so_fieldAddr (v := .p _ _ _) rfl rfl rfl rfl rfl rfl rfl rfl rfl rfl ?_) | refine sops_go rfl (so_fieldAddr (v := .dp _ _) rfl rfl rfl rfl rfl rfl rfl rfl rfl rfl ?_) | refine sops_go rfl (so_fieldAddr (v := .pe _ _ _ _ _) rfl rfl rfl rfl rfl rfl rfl rfl rfl rfl ?_)
      first | refine sops_go rfl (so_load (v := .d _) rfl rfl rfl rfl rfl rfl rfl rfl ?_) | refine sops_go rfl (so_load (v := .own _ _ _ _ _) rfl rfl rfl rfl rfl rfl rfl rfl ?_)
      refine sops_go rfl (st_move (v := .d _) rfl rfl rfl ?_)
      -- hand: indexAddr 39 t16 t17
      refine sops_go rfl (so_indexSl rfl rfl rfl rfl rfl rfl rfl (V.rows_all _) (by omega) (by rw [V.rows_len]; omega) (V.rows_get _ _ hlt) ?_)
      have ihk := ih _ (List.getElem_mem hlt)
      have hat := any_take V.many list k hlt
      have hget := any_get V.many list k hlt
      generalize list[k] = x at ihk hat hget ⊢
      obtain ⟨a1, a2, a3, a4, a5, a6, a7, a8, a9⟩ := x
      first | refine sops_go rfl (so_load (v := .d (.agg [_, _, _, _, _, _, _, _, _])) rfl rfl rfl rfl rfl rfl rfl rfl ?_) | refine sops_go rfl (so_load (v := .agg [_, _, _, _, _, _, _, _, _]) rfl rfl rfl rfl rfl rfl rfl rfl ?_)
      -- hand: CALL f29(t19)
      refine sops_go rfl (st_call rfl rfl (ihk) ⟨na_d _, trivial⟩ rfl ?_)
      refine sops_nil ?_
      -- cond
      refine swp_cond _ rfl (fun hc => ?_) (fun hc => ?_)
      · refine swp_seq ?_
        refine swp_region ?_
        refine sops_go rfl (st_assign (v := .d _) rfl rfl rfl ?_)
        refine sops_nil ?_
        refine swp_ret ?_
        with_reducible refine inblk_ret ?_
        with_reducible refine after_ret ?_
        with_reducible refine after_ret ?_
        with_reducible refine inblk_ret ?_
        with_reducible refine after_ret ?_
        -- ret
        refine ⟨.inl rfl, .inl ⟨2, rfl, ?_⟩⟩
        rw [hw, hget hc]
        exact ra_d (keeps_v _)
      · refine swp_skip ?_
        refine swp_region ?_
        refine sops_go rfl (st_move (v := .d _) rfl rfl rfl ?_)
        refine sops_go rfl (st_bin rfl rfl rfl rfl rfl ?_)
        refine sops_go rfl (st_assign (v := .d _) rfl rfl rfl ?_)
        refine sops_nil ?_
        -- loopend
        refine ⟨k + 1, ⟨hlt, by rw [hat, ha, hc]; rfl⟩, by omega, ?_⟩
        refine wk_of rfl (Nat.le_of_ble_eq_true rfl) (by rw [hB]; exact Nat.zero_le _) (tle_upd (le_eq (next_i64 hlt hlen) rfl) (tle_upd (le_eq rfl rfl) (tle_any _))) (hle_upd (.cells _ _ ⟨le_any _, le_any _, le_any _, le_any _, le_any _, le_any _, le_any _, le_any _, le_eq rfl rfl, trivial⟩) (hle_dead _)) (dead_upd (Nat.le_of_ble_eq_true rfl) (dead_none))
    · refine swp_exit ?_
      with_reducible refine after_exit ?_
      with_reducible refine after_exit ?_
      refine inblk_hit ?_
      refine swp_seq ?_
      refine swp_region ?_
      refine sops_go rfl (st_assign (v := .d _) rfl rfl rfl ?_)
      refine sops_nil ?_
      refine swp_ret ?_
      -- ret
      refine ⟨.inl rfl, .inl ⟨2, rfl, ?_⟩⟩
      have : k = list.length := by have := of_decide_eq_false hc; rw [V.rows_len] at this; omega
      rw [this, List.take_length] at ha
      rw [hw, ha]
      exact ra_d (keeps_v _)

theorem partsV_s (t : V) : ∀ n m w : Int, PureS env 28 [.d t.d, .d (.v (.int .i64 n)), .d (.v (.int .i64 m)), .d (.v (.int .i64 w))] isInt := by
  revert t
  apply V.ind
  intro kind flag neg digits exp bits text names list ih n m w
  refine pureS_of_body Tryd.func28 rfl rfl rfl fun B hB => ?_
  refine swp_seq ?_
  refine swp_region ?_
  refine sops_go rfl (so_box (cs := [_, _, _, _, _, _, _, _, _]) rfl rfl rfl ?_)
  refine sops_go rfl (st_assign (v := .d _) rfl rfl rfl ?_)
  refine sops_nil ?_
  refine swp_seq ?_
  refine swp_seq ?_
  refine swp_region ?_
  refine sops_go rfl (st_move (v := .d _) rfl rfl rfl ?_)
  refine sops_go rfl (st_bin rfl rfl rfl rfl rfl ?_)
  refine sops_nil ?_
  -- cond
  refine swp_cond _ rfl (fun hc => ?_) (fun hc => ?_)
  · refine swp_seq ?_
    refine swp_region ?_
    refine sops_go rfl (st_move (v := .d _) rfl rfl rfl ?_)
    refine sops_go rfl (st_bin rfl rfl rfl rfl rfl ?_)
    refine sops_go rfl (st_assign (v := .d _) rfl rfl rfl ?_)
    refine sops_nil ?_
    refine swp_ret ?_
    with_reducible refine after_ret ?_
    -- ret
    exact ⟨.inl rfl, _, ⟨_, rfl⟩, .inl ⟨8, rfl, ra_d (keeps_v _)⟩⟩
  · refine swp_skip ?_
    refine swp_seq ?_
    refine swp_region ?_
    refine sops_go rfl (st_move (v := .d _) rfl rfl rfl ?_)
    refine sops_go rfl (st_bin rfl rfl rfl rfl rfl ?_)
    first | refine sops_go rfl (so_fieldAddr (v := .p _ _ _) rfl rfl rfl rfl rfl rfl rfl rfl rfl rfl ?_) | refine sops_go rfl (so_fieldAddr (v := .dp _ _) rfl rfl rfl rfl rfl rfl rfl rfl rfl rfl ?_) | refine sops_go rfl (so_fieldAddr (v := .pe _ _ _ _ _) rfl rfl rfl rfl rfl rfl rfl rfl rfl rfl ?_)
    refine sops_go rfl (so_load (v := .d _) rfl rfl rfl rfl rfl rfl rfl rfl ?_)
    refine sops_go rfl (so_lenStr rfl rfl rfl rfl rfl ?_)
    refine sops_go rfl (st_bin rfl rfl rfl rfl rfl ?_)
    first | refine sops_go rfl (so_fieldAddr (v := .p _ _ _) rfl rfl rfl rfl rfl rfl rfl rfl rfl rfl ?_) | refine sops_go rfl (so_fieldAddr (v := .dp _ _) rfl rfl rfl rfl rfl rfl rfl rfl rfl rfl ?_) | refine sops_go rfl (so_fieldAddr (v := .pe _ _ _ _ _) rfl rfl rfl rfl rfl rfl rfl rfl rfl rfl ?_)
    first | refine sops_go rfl (so_fieldAddr (v := .p _ _ _) rfl rfl rfl rfl rfl rfl rfl rfl rfl rfl ?_) | refine sops_go rfl (so_fieldAddr (v := .dp _ _) rfl rfl rfl rfl rfl rfl rfl rfl rfl rfl ?_) | refine sops_go rfl (so_fieldAddr (v := .pe _ _ _ _ _) rfl rfl rfl rfl rfl rfl rfl rfl rfl rfl ?_)
    refine sops_go rfl (so_load (v := .d _) rfl rfl rfl rfl rfl rfl rfl rfl ?_)
    refine sops_go rfl (so_lenStr rfl rfl rfl rfl rfl ?_)
    refine sops_go rfl (st_bin rfl rfl rfl rfl rfl ?_)
    first | refine sops_go rfl (so_fieldAddr (v := .p _ _ _) rfl rfl rfl rfl rfl rfl rfl rfl rfl rfl ?_) | refine sops_go rfl (so_fieldAddr (v := .dp _ _) rfl rfl rfl rfl rfl rfl rfl rfl rfl rfl ?_) | refine sops_go rfl (so_fieldAddr (v := .pe _ _ _ _ _) rfl rfl rfl rfl rfl rfl rfl rfl rfl rfl ?_)
    first | refine sops_go rfl (so_load (v := .d _) rfl rfl rfl rfl rfl rfl rfl rfl ?_) | refine sops_go rfl (so_load (v := .own _ _ _ _ _) rfl rfl rfl rfl rfl rfl rfl rfl ?_)
    refine sops_go rfl (so_lenSl rfl rfl rfl rfl rfl ?_)
    refine sops_go rfl (st_bin rfl rfl rfl rfl rfl ?_)
    refine sops_go rfl (st_assign (v := .d _) rfl rfl rfl ?_)
    refine sops_nil ?_
    -- stop
    refine swp_len (l := 0) (i := 7) rfl rfl rfl fun hn => ?_
    refine swp_len (l := 0) (i := 8) rfl rfl rfl fun hlen => ?_
    rw [strRows_len] at hn
    rw [V.rows_len] at hlen
    let F0 : Int → St := fun n => { t := upd (upd (upd (upd (fun _ => .any) 4 (.p 0 0 0)) 3 (.d (.v (.int .i64 w)))) 2 (.d (.v (.int .i64 m)))) 1 (.d (.v (.int .i64 n))), n := 73, h := upd (fun _ => .dead) 0 (.cells [.any, .any, .any, .any, .any, .any, .any, .d (.sl true (strRows names)), .d (.sl true (V.rows list))]), nx := 1 }
    refine swp_seqF (F := F0) (P := fun _ => True) ?_ ?_
    · refine swp_seq ?_
      refine swp_region ?_
      refine sops_go rfl (st_assign (v := .d _) rfl rfl rfl ?_)
      refine sops_nil ?_
      refine swp_block ?_
      -- loop
      let F1 : Nat × Int → St := fun p => { F0 p.2 with t := upd (F0 p.2).t 9 (.d (.v (.int .i64 p.1))) }
      refine swp_loopF (F := F1) (fun p => p.1 ≤ names.length) (fun p => names.length - p.1) (0, IntKind.i64.wrap (IntKind.i64.wrap (IntKind.i64.wrap (IntKind.i64.wrap (n + 1) + (text.size : Int)) + (digits.size : Int)) + (names.length : Int))) (Nat.zero_le _) ?_ ?_
      · rw [← strRows_len names]
        refine wk_of rfl (Nat.le_of_ble_eq_true rfl) (by rw [hB]; exact Nat.zero_le _) (tle_upd (le_eq rfl rfl) (tle_upd (le_eq rfl rfl) (tle_upd (le_eq rfl rfl) (tle_upd (le_eq rfl rfl) (tle_upd (le_eq rfl rfl) (tle_any _)))))) (hle_upd (.cells _ _ ⟨le_any _, le_any _, le_any _, le_any _, le_any _, le_any _, le_any _, le_eq rfl rfl, le_eq rfl rfl, trivial⟩) (hle_dead _)) (dead_upd (Nat.le_of_ble_eq_true rfl) (dead_none))
      rintro ⟨k, n1⟩ hk
      simp only at hk
      refine swp_seq ?_
      refine swp_seq ?_
      refine swp_region ?_
      refine sops_go rfl (st_move (v := .d _) rfl rfl rfl ?_)
      first | refine sops_go rfl (so_fieldAddr (v := .p _ _ _) rfl rfl rfl rfl rfl rfl rfl rfl rfl rfl ?_) | refine sops_go rfl (so_fieldAddr (v := .dp _ _) rfl rfl rfl rfl rfl rfl rfl rfl rfl rfl ?_) | refine sops_go rfl (so_fieldAddr (v := .pe _ _ _ _ _) rfl rfl rfl rfl rfl rfl rfl rfl rfl rfl ?_)
      first | refine sops_go rfl (so_load (v := .d _) rfl rfl rfl rfl rfl rfl rfl rfl ?_) | refine sops_go rfl (so_load (v := .own _ _ _ _ _) rfl rfl rfl rfl rfl rfl rfl rfl ?_)
      refine sops_go rfl (so_lenSl rfl rfl rfl rfl rfl ?_)
      refine sops_go rfl (st_bin rfl rfl rfl rfl rfl ?_)
      refine sops_go rfl (st_move (v := .d _) rfl rfl rfl ?_)
      -- guard (some (5, true))
      refine sops_case 35 rfl (fun hb35 => ?_) (fun hb35 => ?_)
      · have hlt : k < names.length := by have := of_decide_eq_true hb35; rw [strRows_len] at this; omega
        first | refine sops_yes rfl rfl rfl rfl (st_move (v := .d _) rfl rfl rfl ?_) | refine sops_no rfl rfl rfl rfl rfl ?_
        first | refine sops_yes rfl rfl rfl rfl (st_move (v := .d _) rfl rfl rfl ?_) | refine sops_no rfl rfl rfl rfl rfl ?_
        first | refine sops_yes rfl rfl rfl rfl (st_bin rfl rfl rfl rfl rfl ?_) | refine sops_no rfl rfl rfl rfl rfl ?_
        refine sops_go rfl (st_pick (v := .d _) rfl rfl rfl rfl ?_)
        refine sops_nil ?_
        -- cond
        refine swp_cond _ rfl (fun hc => ?_) (fun hc => ?_)
        · refine swp_skip ?_
          refine swp_seq ?_
          refine swp_block ?_
          refine swp_region ?_
          refine sops_go rfl (st_move (v := .d _) rfl rfl rfl ?_)
          first | refine sops_go rfl (so_fieldAddr (v := .p _ _ _) rfl rfl rfl rfl rfl rfl rfl rfl rfl rfl ?_) | refine sops_go rfl (so_fieldAddr (v := .dp _ _) rfl rfl rfl rfl rfl rfl rfl rfl rfl rfl ?_) | refine sops_go rfl (so_fieldAddr (v := .pe _ _ _ _ _) rfl rfl rfl rfl rfl rfl rfl rfl rfl rfl ?_)
          first | refine sops_go rfl (so_load (v := .d _) rfl rfl rfl rfl rfl rfl rfl rfl ?_) | refine sops_go rfl (so_load (v := .own _ _ _ _ _) rfl rfl rfl rfl rfl rfl rfl rfl ?_)
          refine sops_go rfl (st_move (v := .d _) rfl rfl rfl ?_)
          -- hand: indexAddr 23 t44 t45
          refine sops_go rfl (so_indexSl rfl rfl rfl rfl rfl rfl rfl (strRows_all _) (by omega) (by rw [strRows_len]; omega) (strRows_get _ _ hlt) ?_)
          refine sops_go rfl (so_load (v := .d _) rfl rfl rfl rfl rfl rfl rfl rfl ?_)
          refine sops_go rfl (so_lenStr rfl rfl rfl rfl rfl ?_)
          refine sops_go rfl (st_bin rfl rfl rfl rfl rfl ?_)
          refine sops_go rfl (st_assign (v := .d _) rfl rfl rfl ?_)
          refine sops_nil ?_
          refine swp_region ?_
          refine sops_go rfl (st_move (v := .d _) rfl rfl rfl ?_)
          refine sops_go rfl (st_bin rfl rfl rfl rfl rfl ?_)
          refine sops_go rfl (st_assign (v := .d _) rfl rfl rfl ?_)
          refine sops_nil ?_
          -- loopend
          refine ⟨(k + 1, IntKind.i64.wrap (n1 + ((names[k]).size : Int))), hlt, by simp only; omega, ?_⟩
          refine wk_of rfl (Nat.le_of_ble_eq_true rfl) (by rw [hB]; exact Nat.zero_le _) (tle_upd (le_eq (next_i64 hlt hn) rfl) (tle_upd (le_eq rfl rfl) (tle_upd (le_eq rfl rfl) (tle_upd (le_eq rfl rfl) (tle_upd (le_eq rfl rfl) (tle_any _)))))) (hle_upd (.cells _ _ ⟨le_any _, le_any _, le_any _, le_any _, le_any _, le_any _, le_any _, le_eq rfl rfl, le_eq rfl rfl, trivial⟩) (hle_dead _)) (dead_upd (Nat.le_of_ble_eq_true rfl) (dead_none))
        · refine swp_exit ?_
          with_reducible refine after_exit ?_
          with_reducible refine after_exit ?_
          refine inblk_hit ?_
          -- cut
          refine ⟨n1, trivial, ?_⟩
          refine wk_of rfl (Nat.le_of_ble_eq_true rfl) (by rw [hB]; exact Nat.zero_le _) (tle_upd (le_eq rfl rfl) (tle_upd (le_eq rfl rfl) (tle_upd (le_eq rfl rfl) (tle_upd (le_eq rfl rfl) (tle_any _))))) (hle_upd (.cells _ _ ⟨le_any _, le_any _, le_any _, le_any _, le_any _, le_any _, le_any _, le_eq rfl rfl, le_eq rfl rfl, trivial⟩) (hle_dead _)) (dead_upd (Nat.le_of_ble_eq_true rfl) (dead_none))
      · first | refine sops_yes rfl rfl rfl rfl (st_move (v := .d _) rfl rfl rfl ?_) | refine sops_no rfl rfl rfl rfl rfl ?_
        first | refine sops_yes rfl rfl rfl rfl (st_move (v := .d _) rfl rfl rfl ?_) | refine sops_no rfl rfl rfl rfl rfl ?_
        first | refine sops_yes rfl rfl rfl rfl (st_bin rfl rfl rfl rfl rfl ?_) | refine sops_no rfl rfl rfl rfl rfl ?_
        refine sops_go rfl (st_pick (v := .d _) rfl rfl rfl rfl ?_)
        refine sops_nil ?_
        -- cond
        refine swp_condF rfl ?_
        refine swp_exit ?_
        with_reducible refine after_exit ?_
        with_reducible refine after_exit ?_
        refine inblk_hit ?_
        -- cut
        refine ⟨n1, trivial, ?_⟩
        refine wk_of rfl (Nat.le_of_ble_eq_true rfl) (by rw [hB]; exact Nat.zero_le _) (tle_upd (le_eq rfl rfl) (tle_upd (le_eq rfl rfl) (tle_upd (le_eq rfl rfl) (tle_upd (le_eq rfl rfl) (tle_any _))))) (hle_upd (.cells _ _ ⟨le_any _, le_any _, le_any _, le_any _, le_any _, le_any _, le_any _, le_eq rfl rfl, le_eq rfl rfl, trivial⟩) (hle_dead _)) (dead_upd (Nat.le_of_ble_eq_true rfl) (dead_none))
    rintro n1 -
    refine swp_seq ?_
    refine swp_seq ?_
    refine swp_region ?_
    refine sops_go rfl (st_assign (v := .d _) rfl rfl rfl ?_)
    refine sops_nil ?_
    refine swp_block ?_
    -- loop
    let F2 : Nat × Int → St := fun p => { F0 p.2 with t := upd (F0 p.2).t 10 (.d (.v (.int .i64 p.1))) }
    refine swp_loopF (F := F2) (fun p => p.1 ≤ list.length) (fun p => list.length - p.1) (0, n1) (Nat.zero_le _) ?_ ?_
    · refine wk_of rfl (Nat.le_of_ble_eq_true rfl) (by rw [hB]; exact Nat.zero_le _) (tle_upd (le_eq rfl rfl) (tle_upd (le_eq rfl rfl) (tle_upd (le_eq rfl rfl) (tle_upd (le_eq rfl rfl) (tle_upd (le_eq rfl rfl) (tle_any _)))))) (hle_upd (.cells _ _ ⟨le_any _, le_any _, le_any _, le_any _, le_any _, le_any _, le_any _, le_eq rfl rfl, le_eq rfl rfl, trivial⟩) (hle_dead _)) (dead_upd (Nat.le_of_ble_eq_true rfl) (dead_none))
    rintro ⟨k, n2⟩ hk
    simp only at hk
    refine swp_seq ?_
    refine swp_seq ?_
    refine swp_region ?_
    refine sops_go rfl (st_move (v := .d _) rfl rfl rfl ?_)
    first | refine sops_go rfl (so_fieldAddr (v := .p _ _ _) rfl rfl rfl rfl rfl rfl rfl rfl rfl rfl ?_) | refine sops_go rfl (so_fieldAddr (v := .dp _ _) rfl rfl rfl rfl rfl rfl rfl rfl rfl rfl ?_) | refine sops_go rfl (so_fieldAddr (v := .pe _ _ _ _ _) rfl rfl rfl rfl rfl rfl rfl rfl rfl rfl ?_)
    first | refine sops_go rfl (so_load (v := .d _) rfl rfl rfl rfl rfl rfl rfl rfl ?_) | refine sops_go rfl (so_load (v := .own _ _ _ _ _) rfl rfl rfl rfl rfl rfl rfl rfl ?_)
    refine sops_go rfl (so_lenSl rfl rfl rfl rfl rfl ?_)
    refine sops_go rfl (st_bin rfl rfl rfl rfl rfl ?_)
    refine sops_go rfl (st_move (v := .d _) rfl rfl rfl ?_)
    -- guard (some (5, true))
    refine sops_case 55 rfl (fun hb55 => ?_) (fun hb55 => ?_)
    · have hlt : k < list.length := by have := of_decide_eq_true hb55; rw [V.rows_len] at this; omega
      first | refine sops_yes rfl rfl rfl rfl (st_move (v := .d _) rfl rfl rfl ?_) | refine sops_no rfl rfl rfl rfl rfl ?_
      first | refine sops_yes rfl rfl rfl rfl (st_move (v := .d _) rfl rfl rfl ?_) | refine sops_no rfl rfl rfl rfl rfl ?_
      first | refine sops_yes rfl rfl rfl rfl (st_bin rfl rfl rfl rfl rfl ?_) | refine sops_no rfl rfl rfl rfl rfl ?_
      refine sops_go rfl (st_pick (v := .d _) rfl rfl rfl rfl ?_)
      refine sops_nil ?_
      -- cond
      refine swp_cond _ rfl (fun hc => ?_) (fun hc => ?_)
      · refine swp_skip ?_
        refine swp_seq ?_
        refine swp_block ?_
        refine swp_region ?_
        first | refine sops_go rfl (so_fieldAddr (v := .p _ _ _) rfl rfl rfl rfl rfl rfl rfl rfl rfl rfl ?_) | refine sops_go rfl (so_fieldAddr (v := .dp _ _) rfl rfl rfl rfl rfl rfl rfl rfl rfl rfl ?_) | refine sops_go rfl (so_fieldAddr (v := .pe _ _ _ _ _) rfl rfl rfl rfl rfl rfl rfl rfl rfl rfl ?_)
        first | refine sops_go rfl (so_load (v := .d _) rfl rfl rfl rfl rfl rfl rfl rfl ?_) | refine sops_go rfl (so_load (v := .own _ _ _ _ _) rfl rfl rfl rfl rfl rfl rfl rfl ?_)
        refine sops_go rfl (st_move (v := .d _) rfl rfl rfl ?_)
        -- hand: indexAddr 39 t63 t64
        refine sops_go rfl (so_indexSl rfl rfl rfl rfl rfl rfl rfl (V.rows_all _) (by omega) (by rw [V.rows_len]; omega) (V.rows_get _ _ hlt) ?_)
        have ihk := ih _ (List.getElem_mem hlt)
        generalize list[k] = x at ihk ⊢
        obtain ⟨a1, a2, a3, a4, a5, a6, a7, a8, a9⟩ := x
        first | refine sops_go rfl (so_load (v := .d (.agg [_, _, _, _, _, _, _, _, _])) rfl rfl rfl rfl rfl rfl rfl rfl ?_) | refine sops_go rfl (so_load (v := .agg [_, _, _, _, _, _, _, _, _]) rfl rfl rfl rfl rfl rfl rfl rfl ?_)
        refine sops_go rfl (st_move (v := .d _) rfl rfl rfl ?_)
        refine sops_go rfl (st_move (v := .d _) rfl rfl rfl ?_)
        refine sops_go rfl (st_move (v := .d _) rfl rfl rfl ?_)
        refine sops_go rfl (st_bin rfl rfl rfl rfl rfl ?_)
        -- hand: CALL f28(t66, t67, t68, t70)
        refine sops_go rfl (st_callS rfl rfl (ihk _ _ _) ⟨na_d _, na_d _, na_d _, na_d _, trivial⟩ rfl fun r hr => ?_)
        obtain ⟨v, rfl⟩ := hr
        refine sops_go rfl (st_assign (v := .d _) rfl rfl rfl ?_)
        refine sops_nil ?_
        refine swp_region ?_
        refine sops_go rfl (st_move (v := .d _) rfl rfl rfl ?_)
        refine sops_go rfl (st_bin rfl rfl rfl rfl rfl ?_)
        refine sops_go rfl (st_assign (v := .d _) rfl rfl rfl ?_)
        refine sops_nil ?_
        -- loopend
        refine ⟨(k + 1, v), hlt, by simp only; omega, ?_⟩
        refine wk_of rfl (Nat.le_of_ble_eq_true rfl) (by rw [hB]; exact Nat.zero_le _) (tle_upd (le_eq (next_i64 hlt hlen) rfl) (tle_upd (le_eq rfl rfl) (tle_upd (le_eq rfl rfl) (tle_upd (le_eq rfl rfl) (tle_upd (le_eq rfl rfl) (tle_any _)))))) (hle_upd (.cells _ _ ⟨le_any _, le_any _, le_any _, le_any _, le_any _, le_any _, le_any _, le_eq rfl rfl, le_eq rfl rfl, trivial⟩) (hle_dead _)) (dead_upd (Nat.le_of_ble_eq_true rfl) (dead_none))
      · refine swp_exit ?_
        with_reducible refine after_exit ?_
        with_reducible refine after_exit ?_
        refine inblk_hit ?_
        refine swp_seq ?_
        refine swp_region ?_
        refine sops_go rfl (st_move (v := .d _) rfl rfl rfl ?_)
        refine sops_go rfl (st_assign (v := .d _) rfl rfl rfl ?_)
        refine sops_nil ?_
        refine swp_ret ?_
        -- ret
        exact ⟨.inl rfl, _, ⟨_, rfl⟩, .inl ⟨8, rfl, ra_d (keeps_v _)⟩⟩
    · first | refine sops_yes rfl rfl rfl rfl (st_move (v := .d _) rfl rfl rfl ?_) | refine sops_no rfl rfl rfl rfl rfl ?_
      first | refine sops_yes rfl rfl rfl rfl (st_move (v := .d _) rfl rfl rfl ?_) | refine sops_no rfl rfl rfl rfl rfl ?_
      first | refine sops_yes rfl rfl rfl rfl (st_bin rfl rfl rfl rfl rfl ?_) | refine sops_no rfl rfl rfl rfl rfl ?_
      refine sops_go rfl (st_pick (v := .d _) rfl rfl rfl rfl ?_)
      refine sops_nil ?_
      -- cond
      refine swp_condF rfl ?_
      refine swp_exit ?_
      with_reducible refine after_exit ?_
      with_reducible refine after_exit ?_
      refine inblk_hit ?_
      refine swp_seq ?_
      refine swp_region ?_
      refine sops_go rfl (st_move (v := .d _) rfl rfl rfl ?_)
      refine sops_go rfl (st_assign (v := .d _) rfl rfl rfl ?_)
      refine sops_nil ?_
      refine swp_ret ?_
      -- ret
      exact ⟨.inl rfl, _, ⟨_, rfl⟩, .inl ⟨8, rfl, ra_d (keeps_v _)⟩⟩


theorem big_s (t : V) : PureS env 14 [.d t.d] isBool := by
  obtain ⟨kind, flag, neg, digits, exp, bits, text, names, list⟩ := t
  refine pureS_of_body Tryd.func14 rfl rfl rfl fun B hB => ?_
  refine swp_seq ?_
  refine swp_region ?_
  refine sops_go rfl (so_box (cs := [_, _, _, _, _, _, _, _, _]) rfl rfl rfl ?_)
  refine sops_go rfl (st_assign (v := .d _) rfl rfl rfl ?_)
  refine sops_nil ?_
  refine swp_seq ?_
  refine swp_region ?_
  first | refine sops_go rfl (so_load (v := .d (.agg [_, _, _, _, _, _, _, _, _])) rfl rfl rfl rfl rfl rfl rfl rfl ?_) | refine sops_go rfl (so_load (v := .agg [_, _, _, _, _, _, _, _, _]) rfl rfl rfl rfl rfl rfl rfl rfl ?_)
  -- hand: CALL f28(t3, 0:i64, 65536:i64, 0:i64)
  refine sops_go rfl (st_callS rfl rfl (partsV_s (.mk kind flag neg digits exp bits text names list) _ _ _) ⟨na_d _, na_d _, na_d _, na_d _, trivial⟩ rfl fun r hr => ?_)
  obtain ⟨v, rfl⟩ := hr
  refine sops_go rfl (st_bin rfl rfl rfl rfl rfl ?_)
  refine sops_go rfl (st_move (v := .d _) rfl rfl rfl ?_)
  -- guard (some (3, false))
  refine sops_case 6 rfl (fun hb6 => ?_) (fun hb6 => ?_)
  · first | refine sops_yes rfl rfl rfl rfl (so_load (v := .d (.agg [_, _, _, _, _, _, _, _, _])) rfl rfl rfl rfl rfl rfl rfl rfl ?_) | refine sops_yes rfl rfl rfl rfl (so_load (v := .agg [_, _, _, _, _, _, _, _, _]) rfl rfl rfl rfl rfl rfl rfl rfl ?_) | refine sops_no rfl rfl rfl rfl rfl ?_
    -- hand: CALL f29(t7)
    first | refine sops_yes rfl rfl rfl rfl (st_call rfl rfl (many_pure (.mk kind flag neg digits exp bits text names list)) ⟨na_d _, trivial⟩ rfl ?_) | refine sops_no rfl rfl rfl rfl rfl ?_
    refine sops_go rfl (st_pick (v := .d _) rfl rfl rfl rfl ?_)
    refine sops_go rfl (st_assign (v := .d _) rfl rfl rfl ?_)
    refine sops_nil ?_
    refine swp_ret ?_
    -- ret
    exact ⟨.inl rfl, _, ⟨_, rfl⟩, .inl ⟨2, rfl, ra_d (keeps_v _)⟩⟩
  · first | refine sops_yes rfl rfl rfl rfl (so_load (v := .d (.agg [_, _, _, _, _, _, _, _, _])) rfl rfl rfl rfl rfl rfl rfl rfl ?_) | refine sops_yes rfl rfl rfl rfl (so_load (v := .agg [_, _, _, _, _, _, _, _, _]) rfl rfl rfl rfl rfl rfl rfl rfl ?_) | refine sops_no rfl rfl rfl rfl rfl ?_
    -- hand: CALL f29(t7)
    first | refine sops_yes rfl rfl rfl rfl (st_call rfl rfl (many_pure (.mk kind flag neg digits exp bits text names list)) ⟨na_d _, trivial⟩ rfl ?_) | refine sops_no rfl rfl rfl rfl rfl ?_
    refine sops_go rfl (st_pick (v := .d _) rfl rfl rfl rfl ?_)
    refine sops_go rfl (st_assign (v := .d _) rfl rfl rfl ?_)
    refine sops_nil ?_
    refine swp_ret ?_
    -- ret
    exact ⟨.inl rfl, _, ⟨_, rfl⟩, .inl ⟨2, rfl, ra_d (keeps_v _)⟩⟩
end Go.Proofs.YtdcpnpcmgfmenaaDoor
/-
  Walks: the document's examples; the law TypesParts. Conditions: none.
-/
set_option linter.unusedVariables false
set_option maxRecDepth 100000
namespace Go.Proofs.YtdcpnpcmgfmenaaDoor
open Go Go.Proofs.YtdcpnpcmgfmenaaDoor.Lg

theorem na_nilF {E : Env} {σ : St} (s : Bool) : NA E σ (.d (.v (.slice none 0 0))) (.d (.sl s [])) := fun B g w a hr y h => by rw [vr_val h]; exact .d _ _ (.nil _ _ _)
theorem tf_plain (k : Int) : (T.mk k [] []).fit := ⟨by simp, trivial⟩
theorem fits_of {s : ByteArray} (h : s.size ≤ 1000000) : fits s := by unfold fits; omega
theorem tA_fit : tA.fit := ⟨by intro n hn; simp at hn; subst hn; exact fits_of (by decide), ⟨by simp, trivial⟩, trivial⟩
theorem tB_fit : tB.fit := ⟨by intro n hn; simp at hn; subst hn; exact fits_of (by decide), ⟨by simp, trivial⟩, trivial⟩
theorem vFive_fit : vFive.fit := ⟨fits_of (by decide), fits_of (by decide), by simp, trivial⟩
theorem vHalf_fit : vHalf.fit := ⟨fits_of (by decide), fits_of (by decide), by simp, trivial⟩

theorem T.Sub_ok {a b : T} (h : (a.Sub b).2 = 0) : a.check = 0 ∧ b.check = 0 ∧ (a.Sub b).1 = a.sub b := by
  unfold T.Sub at h ⊢
  split at h
  · rename_i hc; simp at hc; exact absurd h hc
  · rename_i hc
    rw [if_neg hc]
    simp at hc
    exact ⟨(T.both_checks hc).1, (T.both_checks hc).2, rfl⟩
theorem T.Has_ok {t : T} {v : V} (h : (t.Has v).2 = 0) : t.check = 0 ∧ v.check = 0 ∧ (t.Has v).1 = t.has v := by
  unfold T.Has at h ⊢
  split at h
  · rename_i hc; simp at hc; exact absurd h hc
  · rename_i hc
    split at h
    · rename_i hd; simp at hd; exact absurd h hd
    · rename_i hd
      rw [if_neg hc, if_neg hd]
      simp at hc hd
      exact ⟨hc, hd, rfl⟩

theorem awake_pure : Pure env 12 [] (.d (.v (.bool true))) := by
  have c1 := Has_pure (T.mk 5 [] []) vFive (tf_plain 5) vFive_fit true true
  have c2 := Has_pure (T.mk 5 [] []) vHalf (tf_plain 5) vHalf_fit true true
  have c3 := Sub_pure (T.mk 5 [] []) (T.mk 4 [] []) (tf_plain 5) (tf_plain 4) true true
  have c4 := Sub_pure (T.mk 4 [] []) (T.mk 5 [] []) (tf_plain 4) (tf_plain 5) true true
  have c5 := Join_pure tA tB tA_fit tB_fit
  have c6 := checkT_pure (T.mk 0 [] []) (tf_plain 0) true
  have c7 := checkT_pure (T.mk 9 [] []) (tf_plain 9) true
  rw [aw1] at c1
  rw [aw2] at c2
  rw [aw3] at c3
  rw [aw4] at c4
  rw [aw5] at c5
  rw [aw6] at c6
  rw [aw7] at c7
  refine pure_of_body Tryd.func12 rfl rfl rfl fun B hB => ?_
  refine swp_seq ?_
  refine swp_region ?_
  refine sops_go rfl (st_assign (v := .d _) rfl rfl rfl ?_)
  refine sops_nil ?_
  refine swp_seq ?_
  refine swp_region ?_
  first | refine sops_go rfl (so_build (v := .d (.agg [_, _, _])) rfl rfl rfl rfl rfl rfl rfl ?_) | refine sops_go rfl (so_build (v := .agg [_, _, _]) rfl rfl rfl rfl rfl rfl rfl ?_)
  first | refine sops_go rfl (so_build (v := .d (.agg [_, _, _, _, _, _, _, _, _])) rfl rfl rfl rfl rfl rfl rfl ?_) | refine sops_go rfl (so_build (v := .agg [_, _, _, _, _, _, _, _, _]) rfl rfl rfl rfl rfl rfl rfl ?_)
  refine sops_go rfl (so_alloc (cs := [_, _, _, _, _, _, _, _, _]) rfl rfl rfl rfl ?_)
  refine sops_go rfl (so_store rfl rfl rfl rfl rfl rfl rfl rfl rfl (zs := [_, _, _, _, _, _, _, _, _]) rfl ?_)
  refine sops_nil ?_
  refine swp_seq ?_
  refine swp_region ?_
  first | refine sops_go rfl (so_build (v := .d (.agg [_, _, _])) rfl rfl rfl rfl rfl rfl rfl ?_) | refine sops_go rfl (so_build (v := .agg [_, _, _]) rfl rfl rfl rfl rfl rfl rfl ?_)
  first | refine sops_go rfl (so_build (v := .d (.agg [_, _, _, _, _, _, _, _, _])) rfl rfl rfl rfl rfl rfl rfl ?_) | refine sops_go rfl (so_build (v := .agg [_, _, _, _, _, _, _, _, _]) rfl rfl rfl rfl rfl rfl rfl ?_)
  refine sops_go rfl (so_alloc (cs := [_, _, _, _, _, _, _, _, _]) rfl rfl rfl rfl ?_)
  refine sops_go rfl (so_store rfl rfl rfl rfl rfl rfl rfl rfl rfl (zs := [_, _, _, _, _, _, _, _, _]) rfl ?_)
  refine sops_nil ?_
  refine swp_seq ?_
  refine swp_regionQ 7 (by kernel_rfl) rfl rfl rfl ?_
  refine h0_go rfl (st_call rfl rfl (plain_pure _) ⟨na_d _, trivial⟩ rfl ⟨_, rfl, ?_⟩)
  first | refine h0_go rfl (so_load (v := .d (.agg [_, _, _, _, _, _, _, _, _])) rfl rfl rfl rfl rfl rfl rfl rfl ⟨_, rfl, ?_⟩) | refine h0_go rfl (so_load (v := .agg [_, _, _, _, _, _, _, _, _]) rfl rfl rfl rfl rfl rfl rfl rfl ⟨_, rfl, ?_⟩)
  refine h0_go rfl (st_call rfl rfl (c1) ⟨na_d _, na_dagg ⟨na_d _, na_d _, na_d _, na_d _, na_d _, na_d _, na_d _, na_nil, na_nil, trivial⟩, trivial⟩ rfl ⟨_, rfl, ?_⟩)
  refine h0_go rfl (st_move (v := .tup _) rfl rfl rfl ⟨_, rfl, ?_⟩)
  refine h0_go rfl (st_extract (c := .d _) rfl rfl rfl rfl ⟨_, rfl, ?_⟩)
  refine h0_go rfl (st_extract (c := .d _) rfl rfl rfl rfl ⟨_, rfl, ?_⟩)
  refine h0_go rfl (st_assign (v := .d _) rfl rfl rfl ⟨_, rfl, ?_⟩)
  refine h0_nil ?_
  refine sops_go rfl (st_assign (v := .d _) rfl rfl rfl ?_)
  refine sops_nil ?_
  refine swp_seq ?_
  refine swp_regionQ 7 (by kernel_rfl) rfl rfl rfl ?_
  refine h0_go rfl (st_call rfl rfl (plain_pure _) ⟨na_d _, trivial⟩ rfl ⟨_, rfl, ?_⟩)
  first | refine h0_go rfl (so_load (v := .d (.agg [_, _, _, _, _, _, _, _, _])) rfl rfl rfl rfl rfl rfl rfl rfl ⟨_, rfl, ?_⟩) | refine h0_go rfl (so_load (v := .agg [_, _, _, _, _, _, _, _, _]) rfl rfl rfl rfl rfl rfl rfl rfl ⟨_, rfl, ?_⟩)
  refine h0_go rfl (st_call rfl rfl (c2) ⟨na_d _, na_dagg ⟨na_d _, na_d _, na_d _, na_d _, na_d _, na_d _, na_d _, na_nil, na_nil, trivial⟩, trivial⟩ rfl ⟨_, rfl, ?_⟩)
  refine h0_go rfl (st_move (v := .tup _) rfl rfl rfl ⟨_, rfl, ?_⟩)
  refine h0_go rfl (st_extract (c := .d _) rfl rfl rfl rfl ⟨_, rfl, ?_⟩)
  refine h0_go rfl (st_extract (c := .d _) rfl rfl rfl rfl ⟨_, rfl, ?_⟩)
  refine h0_go rfl (st_assign (v := .d _) rfl rfl rfl ⟨_, rfl, ?_⟩)
  refine h0_nil ?_
  refine sops_go rfl (st_assign (v := .d _) rfl rfl rfl ?_)
  refine sops_nil ?_
  refine swp_seq ?_
  refine swp_region ?_
  refine sops_go rfl (st_call rfl rfl (plain_pure _) ⟨na_d _, trivial⟩ rfl ?_)
  refine sops_go rfl (st_call rfl rfl (plain_pure _) ⟨na_d _, trivial⟩ rfl ?_)
  refine sops_go rfl (st_call rfl rfl (c3) ⟨na_d _, na_d _, trivial⟩ rfl ?_)
  refine sops_go rfl (st_move (v := .tup _) rfl rfl rfl ?_)
  refine sops_go rfl (st_extract (c := .d _) rfl rfl rfl rfl ?_)
  refine sops_go rfl (st_extract (c := .d _) rfl rfl rfl rfl ?_)
  refine sops_go rfl (st_assign (v := .d _) rfl rfl rfl ?_)
  refine sops_go rfl (st_assign (v := .d _) rfl rfl rfl ?_)
  refine sops_nil ?_
  refine swp_seq ?_
  refine swp_region ?_
  refine sops_go rfl (st_call rfl rfl (plain_pure _) ⟨na_d _, trivial⟩ rfl ?_)
  refine sops_go rfl (st_call rfl rfl (plain_pure _) ⟨na_d _, trivial⟩ rfl ?_)
  refine sops_go rfl (st_call rfl rfl (c4) ⟨na_d _, na_d _, trivial⟩ rfl ?_)
  refine sops_go rfl (st_move (v := .tup _) rfl rfl rfl ?_)
  refine sops_go rfl (st_extract (c := .d _) rfl rfl rfl rfl ?_)
  refine sops_go rfl (st_extract (c := .d _) rfl rfl rfl rfl ?_)
  refine sops_go rfl (st_assign (v := .d _) rfl rfl rfl ?_)
  refine sops_go rfl (st_assign (v := .d _) rfl rfl rfl ?_)
  refine sops_nil ?_
  refine swp_seq ?_
  refine swp_region ?_
  refine sops_go rfl (st_call rfl rfl (plain_pure _) ⟨na_d _, trivial⟩ rfl ?_)
  refine sops_go rfl (st_call rfl rfl (union_pure _ (T.mk 5 [] [])) ⟨na_d _, na_d _, trivial⟩ rfl ?_)
  refine sops_go rfl (st_call rfl rfl (plain_pure _) ⟨na_d _, trivial⟩ rfl ?_)
  refine sops_go rfl (st_call rfl rfl (union_pure _ (T.mk 7 [] [])) ⟨na_d _, na_d _, trivial⟩ rfl ?_)
  refine sops_go rfl (st_call rfl rfl (c5) ⟨na_d _, na_d _, trivial⟩ rfl ?_)
  refine sops_go rfl (st_move (v := .tup _) rfl rfl rfl ?_)
  first | refine sops_go rfl (st_extract (c := .d _) rfl rfl rfl rfl ?_) | refine sops_go rfl (st_extract (c := .agg _) rfl rfl rfl rfl ?_)
  refine sops_go rfl (st_extract (c := .d _) rfl rfl rfl rfl ?_)
  refine sops_go rfl (so_alloc (cs := [_, _, _]) rfl rfl rfl rfl ?_)
  refine sops_go rfl (so_store rfl rfl rfl rfl rfl rfl rfl rfl rfl (zs := [_, _, _]) rfl ?_)
  refine sops_go rfl (st_assign (v := .d _) rfl rfl rfl ?_)
  refine sops_nil ?_
  refine swp_seq ?_
  refine swp_region ?_
  refine sops_go rfl (st_move (v := .d _) rfl rfl rfl ?_)
  refine sops_go rfl (st_bin rfl rfl rfl rfl rfl ?_)
  refine sops_go rfl (st_move (v := .d _) rfl rfl rfl ?_)
  refine' sops_and (d := 52) (p := 55) [53, 54] 3 rfl rfl rfl (fun hb52 => ?a52) (fun hb52 => ?b52) ?_
  case a52 =>
    refine sops_yes rfl rfl rfl rfl (st_move (v := .d _) rfl rfl rfl ?_)
    refine sops_yes rfl rfl rfl rfl (st_bin rfl rfl rfl rfl rfl ?_)
    refine sops_go rfl (st_pick (v := .d _) rfl rfl rfl rfl ?_)
    refine sops_nil ?_
    exact ⟨rfl, rfl, rfl, rfl, [_, _], rfl, rfl⟩
  case b52 =>
    refine sops_no rfl rfl rfl rfl rfl ?_
    refine sops_no rfl rfl rfl rfl rfl ?_
    refine sops_go rfl (st_pick (v := .d _) rfl rfl rfl rfl ?_)
    refine sops_nil ?_
    exact ⟨rfl, rfl, rfl, rfl, [_, _], rfl, rfl⟩
  refine sops_go rfl (st_move (v := .d _) rfl rfl rfl ?_)
  refine' sops_and (d := 56) (p := 59) [57, 58] 3 rfl rfl rfl (fun hb56 => ?a56) (fun hb56 => ?b56) ?_
  case a56 =>
    refine sops_yes rfl rfl rfl rfl (st_move (v := .d _) rfl rfl rfl ?_)
    refine sops_yes rfl rfl rfl rfl (st_bin rfl rfl rfl rfl rfl ?_)
    refine sops_go rfl (st_pick (v := .d _) rfl rfl rfl rfl ?_)
    refine sops_nil ?_
    exact ⟨rfl, rfl, rfl, rfl, [_, _], rfl, rfl⟩
  case b56 =>
    refine sops_no rfl rfl rfl rfl rfl ?_
    refine sops_no rfl rfl rfl rfl rfl ?_
    refine sops_go rfl (st_pick (v := .d _) rfl rfl rfl rfl ?_)
    refine sops_nil ?_
    exact ⟨rfl, rfl, rfl, rfl, [_, _], rfl, rfl⟩
  refine sops_go rfl (st_move (v := .d _) rfl rfl rfl ?_)
  refine' sops_and (d := 60) (p := 63) [61, 62] 3 rfl rfl rfl (fun hb60 => ?a60) (fun hb60 => ?b60) ?_
  case a60 =>
    refine sops_yes rfl rfl rfl rfl (st_move (v := .d _) rfl rfl rfl ?_)
    refine sops_yes rfl rfl rfl rfl (st_bin rfl rfl rfl rfl rfl ?_)
    refine sops_go rfl (st_pick (v := .d _) rfl rfl rfl rfl ?_)
    refine sops_nil ?_
    exact ⟨rfl, rfl, rfl, rfl, [_, _], rfl, rfl⟩
  case b60 =>
    refine sops_no rfl rfl rfl rfl rfl ?_
    refine sops_no rfl rfl rfl rfl rfl ?_
    refine sops_go rfl (st_pick (v := .d _) rfl rfl rfl rfl ?_)
    refine sops_nil ?_
    exact ⟨rfl, rfl, rfl, rfl, [_, _], rfl, rfl⟩
  refine sops_go rfl (st_move (v := .d _) rfl rfl rfl ?_)
  refine' sops_and (d := 64) (p := 67) [65, 66] 3 rfl rfl rfl (fun hb64 => ?a64) (fun hb64 => ?b64) ?_
  case a64 =>
    refine sops_yes rfl rfl rfl rfl (st_move (v := .d _) rfl rfl rfl ?_)
    refine sops_yes rfl rfl rfl rfl (st_bin rfl rfl rfl rfl rfl ?_)
    refine sops_go rfl (st_pick (v := .d _) rfl rfl rfl rfl ?_)
    refine sops_nil ?_
    exact ⟨rfl, rfl, rfl, rfl, [_, _], rfl, rfl⟩
  case b64 =>
    refine sops_no rfl rfl rfl rfl rfl ?_
    refine sops_no rfl rfl rfl rfl rfl ?_
    refine sops_go rfl (st_pick (v := .d _) rfl rfl rfl rfl ?_)
    refine sops_nil ?_
    exact ⟨rfl, rfl, rfl, rfl, [_, _], rfl, rfl⟩
  refine sops_go rfl (st_move (v := .d _) rfl rfl rfl ?_)
  refine' sops_and (d := 68) (p := 70) [69] 2 rfl rfl rfl (fun hb68 => ?a68) (fun hb68 => ?b68) ?_
  case a68 =>
    refine sops_yes rfl rfl rfl rfl (st_move (v := .d _) rfl rfl rfl ?_)
    refine sops_go rfl (st_pick (v := .d _) rfl rfl rfl rfl ?_)
    refine sops_nil ?_
    exact ⟨rfl, rfl, rfl, rfl, [_], rfl, rfl⟩
  case b68 =>
    refine sops_no rfl rfl rfl rfl rfl ?_
    refine sops_go rfl (st_pick (v := .d _) rfl rfl rfl rfl ?_)
    refine sops_nil ?_
    exact ⟨rfl, rfl, rfl, rfl, [_], rfl, rfl⟩
  refine sops_go rfl (st_move (v := .d _) rfl rfl rfl ?_)
  refine' sops_and (d := 71) (p := 74) [72, 73] 3 rfl rfl rfl (fun hb71 => ?a71) (fun hb71 => ?b71) ?_
  case a71 =>
    refine sops_yes rfl rfl rfl rfl (st_move (v := .d _) rfl rfl rfl ?_)
    refine sops_yes rfl rfl rfl rfl (st_not rfl rfl rfl ?_)
    refine sops_go rfl (st_pick (v := .d _) rfl rfl rfl rfl ?_)
    refine sops_nil ?_
    exact ⟨rfl, rfl, rfl, rfl, [_, _], rfl, rfl⟩
  case b71 =>
    refine sops_no rfl rfl rfl rfl rfl ?_
    refine sops_no rfl rfl rfl rfl rfl ?_
    refine sops_go rfl (st_pick (v := .d _) rfl rfl rfl rfl ?_)
    refine sops_nil ?_
    exact ⟨rfl, rfl, rfl, rfl, [_, _], rfl, rfl⟩
  refine sops_go rfl (st_move (v := .d _) rfl rfl rfl ?_)
  refine' sops_and (d := 75) (p := 77) [76] 2 rfl rfl rfl (fun hb75 => ?a75) (fun hb75 => ?b75) ?_
  case a75 =>
    refine sops_yes rfl rfl rfl rfl (st_move (v := .d _) rfl rfl rfl ?_)
    refine sops_go rfl (st_pick (v := .d _) rfl rfl rfl rfl ?_)
    refine sops_nil ?_
    exact ⟨rfl, rfl, rfl, rfl, [_], rfl, rfl⟩
  case b75 =>
    refine sops_no rfl rfl rfl rfl rfl ?_
    refine sops_go rfl (st_pick (v := .d _) rfl rfl rfl rfl ?_)
    refine sops_nil ?_
    exact ⟨rfl, rfl, rfl, rfl, [_], rfl, rfl⟩
  refine sops_go rfl (st_move (v := .d _) rfl rfl rfl ?_)
  refine' sops_and (d := 78) (p := 81) [79, 80] 3 rfl rfl rfl (fun hb78 => ?a78) (fun hb78 => ?b78) ?_
  case a78 =>
    refine sops_yes rfl rfl rfl rfl (st_move (v := .d _) rfl rfl rfl ?_)
    refine sops_yes rfl rfl rfl rfl (st_not rfl rfl rfl ?_)
    refine sops_go rfl (st_pick (v := .d _) rfl rfl rfl rfl ?_)
    refine sops_nil ?_
    exact ⟨rfl, rfl, rfl, rfl, [_, _], rfl, rfl⟩
  case b78 =>
    refine sops_no rfl rfl rfl rfl rfl ?_
    refine sops_no rfl rfl rfl rfl rfl ?_
    refine sops_go rfl (st_pick (v := .d _) rfl rfl rfl rfl ?_)
    refine sops_nil ?_
    exact ⟨rfl, rfl, rfl, rfl, [_, _], rfl, rfl⟩
  refine sops_go rfl (st_assign (v := .d _) rfl rfl rfl ?_)
  refine sops_nil ?_
  refine swp_seq ?_
  refine swp_region ?_
  refine sops_go rfl (st_move (v := .d _) rfl rfl rfl ?_)
  refine sops_go rfl (st_move (v := .d _) rfl rfl rfl ?_)
  refine' sops_and (d := 83) (p := 87) [84, 85, 86] 4 rfl rfl rfl (fun hb83 => ?a83) (fun hb83 => ?b83) ?_
  case a83 =>
    first | refine sops_yes rfl rfl rfl rfl (so_fieldAddr (v := .p _ _ _) rfl rfl rfl rfl rfl rfl rfl rfl rfl rfl ?_) | refine sops_yes rfl rfl rfl rfl (so_fieldAddr (v := .dp _ _) rfl rfl rfl rfl rfl rfl rfl rfl rfl rfl ?_) | refine sops_yes rfl rfl rfl rfl (so_fieldAddr (v := .pe _ _ _ _ _) rfl rfl rfl rfl rfl rfl rfl rfl rfl rfl ?_)
    refine sops_yes rfl rfl rfl rfl (so_load (v := .d _) rfl rfl rfl rfl rfl rfl rfl rfl ?_)
    refine sops_yes rfl rfl rfl rfl (st_bin rfl rfl rfl rfl rfl ?_)
    refine sops_go rfl (st_pick (v := .d _) rfl rfl rfl rfl ?_)
    refine sops_nil ?_
    exact ⟨rfl, rfl, rfl, rfl, [_, _, _], rfl, rfl⟩
  case b83 =>
    refine sops_no rfl rfl rfl rfl rfl ?_
    refine sops_no rfl rfl rfl rfl rfl ?_
    refine sops_no rfl rfl rfl rfl rfl ?_
    refine sops_go rfl (st_pick (v := .d _) rfl rfl rfl rfl ?_)
    refine sops_nil ?_
    exact ⟨rfl, rfl, rfl, rfl, [_, _, _], rfl, rfl⟩
  refine sops_go rfl (st_move (v := .d _) rfl rfl rfl ?_)
  refine' sops_and (d := 88) (p := 93) [89, 90, 91, 92] 5 rfl rfl rfl (fun hb88 => ?a88) (fun hb88 => ?b88) ?_
  case a88 =>
    first | refine sops_yes rfl rfl rfl rfl (so_fieldAddr (v := .p _ _ _) rfl rfl rfl rfl rfl rfl rfl rfl rfl rfl ?_) | refine sops_yes rfl rfl rfl rfl (so_fieldAddr (v := .dp _ _) rfl rfl rfl rfl rfl rfl rfl rfl rfl rfl ?_) | refine sops_yes rfl rfl rfl rfl (so_fieldAddr (v := .pe _ _ _ _ _) rfl rfl rfl rfl rfl rfl rfl rfl rfl rfl ?_)
    first | refine sops_yes rfl rfl rfl rfl (so_load (v := .d _) rfl rfl rfl rfl rfl rfl rfl rfl ?_) | refine sops_yes rfl rfl rfl rfl (so_load (v := .own _ _ _ _ _) rfl rfl rfl rfl rfl rfl rfl rfl ?_)
    refine sops_yes rfl rfl rfl rfl (so_lenSl rfl rfl rfl rfl rfl ?_)
    refine sops_yes rfl rfl rfl rfl (st_bin rfl rfl rfl rfl rfl ?_)
    refine sops_go rfl (st_pick (v := .d _) rfl rfl rfl rfl ?_)
    refine sops_nil ?_
    exact ⟨rfl, rfl, rfl, rfl, [_, _, _, _], rfl, rfl⟩
  case b88 =>
    refine sops_no rfl rfl rfl rfl rfl ?_
    refine sops_no rfl rfl rfl rfl rfl ?_
    refine sops_no rfl rfl rfl rfl rfl ?_
    refine sops_no rfl rfl rfl rfl rfl ?_
    refine sops_go rfl (st_pick (v := .d _) rfl rfl rfl rfl ?_)
    refine sops_nil ?_
    exact ⟨rfl, rfl, rfl, rfl, [_, _, _, _], rfl, rfl⟩
  refine sops_go rfl (st_move (v := .d _) rfl rfl rfl ?_)
  refine' sops_and (d := 94) (p := 100) [95, 96, 97, 98, 99] 6 rfl rfl rfl (fun hb94 => ?a94) (fun hb94 => ?b94) ?_
  case a94 =>
    first | refine sops_yes rfl rfl rfl rfl (so_fieldAddr (v := .p _ _ _) rfl rfl rfl rfl rfl rfl rfl rfl rfl rfl ?_) | refine sops_yes rfl rfl rfl rfl (so_fieldAddr (v := .dp _ _) rfl rfl rfl rfl rfl rfl rfl rfl rfl rfl ?_) | refine sops_yes rfl rfl rfl rfl (so_fieldAddr (v := .pe _ _ _ _ _) rfl rfl rfl rfl rfl rfl rfl rfl rfl rfl ?_)
    first | refine sops_yes rfl rfl rfl rfl (so_load (v := .d _) rfl rfl rfl rfl rfl rfl rfl rfl ?_) | refine sops_yes rfl rfl rfl rfl (so_load (v := .own _ _ _ _ _) rfl rfl rfl rfl rfl rfl rfl rfl ?_)
    refine sops_yes rfl rfl rfl rfl (so_indexSl rfl rfl rfl rfl rfl rfl rfl (strRows_all _) (by omega) (by simp [strRows]) rfl ?_)
    refine sops_yes rfl rfl rfl rfl (so_load (v := .d _) rfl rfl rfl rfl rfl rfl rfl rfl ?_)
    refine sops_yes rfl rfl rfl rfl (st_bin rfl rfl rfl rfl rfl ?_)
    refine sops_go rfl (st_pick (v := .d _) rfl rfl rfl rfl ?_)
    refine sops_nil ?_
    exact ⟨rfl, rfl, rfl, rfl, [_, _, _, _, _], rfl, rfl⟩
  case b94 =>
    refine sops_no rfl rfl rfl rfl rfl ?_
    refine sops_no rfl rfl rfl rfl rfl ?_
    refine sops_no rfl rfl rfl rfl rfl ?_
    refine sops_no rfl rfl rfl rfl rfl ?_
    refine sops_no rfl rfl rfl rfl rfl ?_
    refine sops_go rfl (st_pick (v := .d _) rfl rfl rfl rfl ?_)
    refine sops_nil ?_
    exact ⟨rfl, rfl, rfl, rfl, [_, _, _, _, _], rfl, rfl⟩
  refine sops_go rfl (st_move (v := .d _) rfl rfl rfl ?_)
  refine' sops_and (d := 101) (p := 105) [102, 103, 104] 4 rfl rfl rfl (fun hb101 => ?a101) (fun hb101 => ?b101) ?_
  case a101 =>
    first | refine sops_yes rfl rfl rfl rfl (so_build (v := .d (.agg [_, _, _])) rfl rfl rfl rfl rfl rfl rfl ?_) | refine sops_yes rfl rfl rfl rfl (so_build (v := .agg [_, _, _]) rfl rfl rfl rfl rfl rfl rfl ?_)
    refine sops_yes rfl rfl rfl rfl (st_call rfl rfl (c6) ⟨na_dagg ⟨na_d _, na_nil, na_nil, trivial⟩, trivial⟩ rfl ?_)
    refine sops_yes rfl rfl rfl rfl (st_bin rfl rfl rfl rfl rfl ?_)
    refine sops_go rfl (st_pick (v := .d _) rfl rfl rfl rfl ?_)
    refine sops_nil ?_
    exact ⟨rfl, rfl, rfl, rfl, [_, _, _], rfl, rfl⟩
  case b101 =>
    refine sops_no rfl rfl rfl rfl rfl ?_
    refine sops_no rfl rfl rfl rfl rfl ?_
    refine sops_no rfl rfl rfl rfl rfl ?_
    refine sops_go rfl (st_pick (v := .d _) rfl rfl rfl rfl ?_)
    refine sops_nil ?_
    exact ⟨rfl, rfl, rfl, rfl, [_, _, _], rfl, rfl⟩
  refine sops_go rfl (st_move (v := .d _) rfl rfl rfl ?_)
  refine' sops_and (d := 106) (p := 110) [107, 108, 109] 4 rfl rfl rfl (fun hb106 => ?a106) (fun hb106 => ?b106) ?_
  case a106 =>
    refine sops_yes rfl rfl rfl rfl (st_call rfl rfl (plain_pure _) ⟨na_d _, trivial⟩ rfl ?_)
    refine sops_yes rfl rfl rfl rfl (st_call rfl rfl (c7) ⟨na_d _, trivial⟩ rfl ?_)
    refine sops_yes rfl rfl rfl rfl (st_bin rfl rfl rfl rfl rfl ?_)
    refine sops_go rfl (st_pick (v := .d _) rfl rfl rfl rfl ?_)
    refine sops_nil ?_
    exact ⟨rfl, rfl, rfl, rfl, [_, _, _], rfl, rfl⟩
  case b106 =>
    refine sops_no rfl rfl rfl rfl rfl ?_
    refine sops_no rfl rfl rfl rfl rfl ?_
    refine sops_no rfl rfl rfl rfl rfl ?_
    refine sops_go rfl (st_pick (v := .d _) rfl rfl rfl rfl ?_)
    refine sops_nil ?_
    exact ⟨rfl, rfl, rfl, rfl, [_, _, _], rfl, rfl⟩
  refine sops_go rfl (st_assign (v := .d _) rfl rfl rfl ?_)
  refine sops_nil ?_
  refine swp_ret ?_
  exact fin_b rfl rfl (by simp [strRows])

theorem TypesParts_pure (a b : T) (v : V) (ha : a.fit) (hb : b.fit) (hv : v.fit) : Pure env 4 [.d a.d, .d b.d, .d v.d] (.d (.v (.bool true))) := by
  have c0a := bigType_s a
  have c0b := bigType_s b
  have c0v := big_s v
  have c1 := Sub_pure a b ha hb true true
  have c2 := Has_pure a v ha hv true true
  have c3 := Has_pure b v hb hv true true
  have hlaw : (a.Sub b).2 = 0 → (a.Has v).2 = 0 → (b.Has v).2 = 0 → (a.Sub b).1 = true → (a.Has v).1 = true → (b.Has v).1 = true := by
    intro e1 e2 e3
    obtain ⟨h1, h2, h3⟩ := T.Sub_ok e1
    obtain ⟨h4, h5, h6⟩ := T.Has_ok e2
    obtain ⟨h7, h8, h9⟩ := T.Has_ok e3
    rw [h3, h6, h9]
    exact fun s h => T.sub_has a b v (T.check_ok h1) (T.check_ok h2) (V.check_ok h5) s h
  generalize a.Sub b = r1 at *
  generalize a.Has v = r2 at *
  generalize b.Has v = r3 at *
  rw [T.df_d] at c0a c0b ⊢
  rw [T.df_d] at ⊢
  rw [V.df_d] at c0v ⊢
  obtain ⟨p1, e1⟩ := r1
  obtain ⟨p2, e2⟩ := r2
  obtain ⟨p3, e3⟩ := r3
  obtain ⟨ka, na, la⟩ := a
  obtain ⟨kb, nb, lb⟩ := b
  obtain ⟨vk, flag, neg, digits, exp, bits, text, vnames, vlist⟩ := v
  refine pure_of_body Tryd.func4 rfl rfl rfl fun B hB => ?_
  refine swp_seq ?_
  refine swp_region ?_
  refine sops_go rfl (so_box (cs := [_, _, _]) rfl rfl rfl ?_)
  refine sops_go rfl (so_box (cs := [_, _, _]) rfl rfl rfl ?_)
  refine sops_go rfl (so_box (cs := [_, _, _, _, _, _, _, _, _]) rfl rfl rfl ?_)
  refine sops_go rfl (st_assign (v := .d _) rfl rfl rfl ?_)
  refine sops_nil ?_
  refine swp_seq ?_
  refine swp_seq ?_
  refine swp_region ?_
  first | refine sops_go rfl (so_load (v := .d (.agg [_, _, _])) rfl rfl rfl rfl rfl rfl rfl rfl ?_) | refine sops_go rfl (so_load (v := .agg [_, _, _]) rfl rfl rfl rfl rfl rfl rfl rfl ?_)
  refine sops_go rfl (st_callS rfl rfl (c0a) ⟨na_d _, trivial⟩ rfl fun r hr => ?_)
  obtain ⟨b1, rfl⟩ := hr
  refine sops_go rfl (st_move (v := .d _) rfl rfl rfl ?_)
  refine sops_case 15 rfl (fun hb15 => ?_) (fun hb15 => ?_)
  · refine sops_no rfl rfl rfl rfl rfl ?_
    refine sops_no rfl rfl rfl rfl rfl ?_
    refine sops_go rfl (st_pick (v := .d _) rfl rfl rfl rfl ?_)
    refine sops_go rfl (st_move (v := .d _) rfl rfl rfl ?_)
    refine sops_no rfl rfl rfl rfl rfl ?_
    refine sops_no rfl rfl rfl rfl rfl ?_
    refine sops_go rfl (st_pick (v := .d _) rfl rfl rfl rfl ?_)
    refine sops_nil ?_
    refine swp_condT rfl ?_
    refine swp_seq ?_
    refine swp_region ?_
    refine sops_go rfl (st_assign (v := .d _) rfl rfl rfl ?_)
    refine sops_nil ?_
    refine swp_ret ?_
    with_reducible refine after_ret ?_
    exact fin_b rfl rfl rfl
  · first | refine sops_yes rfl rfl rfl rfl (so_load (v := .d (.agg [_, _, _])) rfl rfl rfl rfl rfl rfl rfl rfl ?_) | refine sops_yes rfl rfl rfl rfl (so_load (v := .agg [_, _, _]) rfl rfl rfl rfl rfl rfl rfl rfl ?_)
    refine sops_yes rfl rfl rfl rfl (st_callS rfl rfl (c0b) ⟨na_d _, trivial⟩ rfl fun r hr => ?_)
    obtain ⟨b2, rfl⟩ := hr
    refine sops_go rfl (st_pick (v := .d _) rfl rfl rfl rfl ?_)
    refine sops_go rfl (st_move (v := .d _) rfl rfl rfl ?_)
    refine sops_case 19 rfl (fun hb19 => ?_) (fun hb19 => ?_)
    · refine sops_no rfl rfl rfl rfl rfl ?_
      refine sops_no rfl rfl rfl rfl rfl ?_
      refine sops_go rfl (st_pick (v := .d _) rfl rfl rfl rfl ?_)
      refine sops_nil ?_
      refine swp_condT rfl ?_
      refine swp_seq ?_
      refine swp_region ?_
      refine sops_go rfl (st_assign (v := .d _) rfl rfl rfl ?_)
      refine sops_nil ?_
      refine swp_ret ?_
      with_reducible refine after_ret ?_
      exact fin_b rfl rfl rfl
    · first | refine sops_yes rfl rfl rfl rfl (so_load (v := .d (.agg [_, _, _, _, _, _, _, _, _])) rfl rfl rfl rfl rfl rfl rfl rfl ?_) | refine sops_yes rfl rfl rfl rfl (so_load (v := .agg [_, _, _, _, _, _, _, _, _]) rfl rfl rfl rfl rfl rfl rfl rfl ?_)
      refine sops_yes rfl rfl rfl rfl (st_callS rfl rfl (c0v) ⟨na_d _, trivial⟩ rfl fun r hr => ?_)
      obtain ⟨b3, rfl⟩ := hr
      refine sops_go rfl (st_pick (v := .d _) rfl rfl rfl rfl ?_)
      refine sops_nil ?_
      refine swp_cond _ rfl (fun hc22 => ?_) (fun hc22 => ?_)
      · refine swp_seq ?_
        refine swp_region ?_
        refine sops_go rfl (st_assign (v := .d _) rfl rfl rfl ?_)
        refine sops_nil ?_
        refine swp_ret ?_
        with_reducible refine after_ret ?_
        exact fin_b rfl rfl rfl
      · refine swp_skip ?_
        refine swp_seq ?_
        refine swp_region ?_
        first | refine sops_go rfl (so_load (v := .d (.agg [_, _, _])) rfl rfl rfl rfl rfl rfl rfl rfl ?_) | refine sops_go rfl (so_load (v := .agg [_, _, _]) rfl rfl rfl rfl rfl rfl rfl rfl ?_)
        first | refine sops_go rfl (so_load (v := .d (.agg [_, _, _])) rfl rfl rfl rfl rfl rfl rfl rfl ?_) | refine sops_go rfl (so_load (v := .agg [_, _, _]) rfl rfl rfl rfl rfl rfl rfl rfl ?_)
        refine sops_go rfl (st_call rfl rfl (c1) ⟨na_d _, na_d _, trivial⟩ rfl ?_)
        refine sops_go rfl (st_move (v := .tup _) rfl rfl rfl ?_)
        refine sops_go rfl (st_extract (c := .d _) rfl rfl rfl rfl ?_)
        refine sops_go rfl (st_extract (c := .d _) rfl rfl rfl rfl ?_)
        refine sops_go rfl (st_assign (v := .d _) rfl rfl rfl ?_)
        refine sops_go rfl (st_assign (v := .d _) rfl rfl rfl ?_)
        refine sops_nil ?_
        refine swp_seq ?_
        refine swp_region ?_
        first | refine sops_go rfl (so_load (v := .d (.agg [_, _, _])) rfl rfl rfl rfl rfl rfl rfl rfl ?_) | refine sops_go rfl (so_load (v := .agg [_, _, _]) rfl rfl rfl rfl rfl rfl rfl rfl ?_)
        first | refine sops_go rfl (so_load (v := .d (.agg [_, _, _, _, _, _, _, _, _])) rfl rfl rfl rfl rfl rfl rfl rfl ?_) | refine sops_go rfl (so_load (v := .agg [_, _, _, _, _, _, _, _, _]) rfl rfl rfl rfl rfl rfl rfl rfl ?_)
        refine sops_go rfl (st_call rfl rfl (c2) ⟨na_d _, na_d _, trivial⟩ rfl ?_)
        refine sops_go rfl (st_move (v := .tup _) rfl rfl rfl ?_)
        refine sops_go rfl (st_extract (c := .d _) rfl rfl rfl rfl ?_)
        refine sops_go rfl (st_extract (c := .d _) rfl rfl rfl rfl ?_)
        refine sops_go rfl (st_assign (v := .d _) rfl rfl rfl ?_)
        refine sops_go rfl (st_assign (v := .d _) rfl rfl rfl ?_)
        refine sops_nil ?_
        refine swp_seq ?_
        refine swp_region ?_
        first | refine sops_go rfl (so_load (v := .d (.agg [_, _, _])) rfl rfl rfl rfl rfl rfl rfl rfl ?_) | refine sops_go rfl (so_load (v := .agg [_, _, _]) rfl rfl rfl rfl rfl rfl rfl rfl ?_)
        first | refine sops_go rfl (so_load (v := .d (.agg [_, _, _, _, _, _, _, _, _])) rfl rfl rfl rfl rfl rfl rfl rfl ?_) | refine sops_go rfl (so_load (v := .agg [_, _, _, _, _, _, _, _, _]) rfl rfl rfl rfl rfl rfl rfl rfl ?_)
        refine sops_go rfl (st_call rfl rfl (c3) ⟨na_d _, na_d _, trivial⟩ rfl ?_)
        refine sops_go rfl (st_move (v := .tup _) rfl rfl rfl ?_)
        refine sops_go rfl (st_extract (c := .d _) rfl rfl rfl rfl ?_)
        refine sops_go rfl (st_extract (c := .d _) rfl rfl rfl rfl ?_)
        refine sops_go rfl (st_assign (v := .d _) rfl rfl rfl ?_)
        refine sops_go rfl (st_assign (v := .d _) rfl rfl rfl ?_)
        refine sops_nil ?_
        refine swp_seq ?_
        refine swp_seq ?_
        refine swp_region ?_
        refine sops_go rfl (st_move (v := .d _) rfl rfl rfl ?_)
        refine sops_go rfl (st_bin rfl rfl rfl rfl rfl ?_)
        refine sops_go rfl (st_move (v := .d _) rfl rfl rfl ?_)
        refine' sops_or (d := 43) (p := 46) [44, 45] 3 rfl rfl rfl (fun hb43 => ?a43) (fun hb43 => ?b43) ?_
        case a43 =>
          refine sops_yes rfl rfl rfl rfl (st_move (v := .d _) rfl rfl rfl ?_)
          refine sops_yes rfl rfl rfl rfl (st_bin rfl rfl rfl rfl rfl ?_)
          refine sops_go rfl (st_pick (v := .d _) rfl rfl rfl rfl ?_)
          refine sops_nil ?_
          exact ⟨rfl, rfl, rfl, rfl, [_, _], rfl, rfl⟩
        case b43 =>
          refine sops_no rfl rfl rfl rfl rfl ?_
          refine sops_no rfl rfl rfl rfl rfl ?_
          refine sops_go rfl (st_pick (v := .d _) rfl rfl rfl rfl ?_)
          refine sops_nil ?_
          exact ⟨rfl, rfl, rfl, rfl, [_, _], rfl, rfl⟩
        refine sops_go rfl (st_move (v := .d _) rfl rfl rfl ?_)
        refine' sops_or (d := 47) (p := 50) [48, 49] 3 rfl rfl rfl (fun hb47 => ?a47) (fun hb47 => ?b47) ?_
        case a47 =>
          refine sops_yes rfl rfl rfl rfl (st_move (v := .d _) rfl rfl rfl ?_)
          refine sops_yes rfl rfl rfl rfl (st_bin rfl rfl rfl rfl rfl ?_)
          refine sops_go rfl (st_pick (v := .d _) rfl rfl rfl rfl ?_)
          refine sops_nil ?_
          exact ⟨rfl, rfl, rfl, rfl, [_, _], rfl, rfl⟩
        case b47 =>
          refine sops_no rfl rfl rfl rfl rfl ?_
          refine sops_no rfl rfl rfl rfl rfl ?_
          refine sops_go rfl (st_pick (v := .d _) rfl rfl rfl rfl ?_)
          refine sops_nil ?_
          exact ⟨rfl, rfl, rfl, rfl, [_, _], rfl, rfl⟩
        refine sops_nil ?_
        refine swp_cond _ rfl (fun hc50 => ?_) (fun hc50 => ?_)
        · refine swp_seq ?_
          refine swp_region ?_
          refine sops_go rfl (st_call rfl rfl (awake_pure) trivial rfl ?_)
          refine sops_go rfl (st_assign (v := .d _) rfl rfl rfl ?_)
          refine sops_nil ?_
          refine swp_ret ?_
          with_reducible refine after_ret ?_
          exact fin_b rfl rfl rfl
        · have hlaw : p1 = true → p2 = true → p3 = true := by
            simp only [Bool.or_eq_false_iff, bne_eq_false_iff_eq] at hc50
            exact hlaw hc50.1.1 hc50.1.2 hc50.2
          refine swp_skip ?_
          refine swp_seq ?_
          refine swp_region ?_
          refine sops_go rfl (st_call rfl rfl (awake_pure) trivial rfl ?_)
          refine sops_go rfl (st_move (v := .d _) rfl rfl rfl ?_)
          refine' sops_and (d := 53) (p := 63) [54, 55, 56, 57, 58, 59, 60, 61, 62] 10 rfl rfl rfl (fun hb53 => ?a53) (fun hb53 => ?b53) ?_
          case a53 =>
            refine sops_yes rfl rfl rfl rfl (st_move (v := .d _) rfl rfl rfl ?_)
            refine sops_yes rfl rfl rfl rfl (st_not rfl rfl rfl ?_)
            refine sops_yes rfl rfl rfl rfl (st_move (v := .d _) rfl rfl rfl ?_)
            refine' sops_or (d := 56) (p := 59) [57, 58] 3 rfl rfl rfl (fun hb56 => ?a56) (fun hb56 => ?b56) ?_
            case a56 =>
              refine sops_yes rfl rfl rfl rfl (st_move (v := .d _) rfl rfl rfl ?_)
              refine sops_yes rfl rfl rfl rfl (st_not rfl rfl rfl ?_)
              refine sops_yes rfl rfl rfl rfl (st_pick (v := .d _) rfl rfl rfl rfl ?_)
              refine sops_nil ?_
              exact ⟨rfl, rfl, rfl, rfl, [_, _], rfl, rfl⟩
            case b56 =>
              refine sops_no rfl rfl rfl rfl rfl ?_
              refine sops_no rfl rfl rfl rfl rfl ?_
              refine sops_yes rfl rfl rfl rfl (st_pick (v := .d _) rfl rfl rfl rfl ?_)
              refine sops_nil ?_
              exact ⟨rfl, rfl, rfl, rfl, [_, _], rfl, rfl⟩
            refine sops_yes rfl rfl rfl rfl (st_move (v := .d _) rfl rfl rfl ?_)
            refine' sops_or (d := 60) (p := 62) [61] 2 rfl rfl rfl (fun hb60 => ?a60) (fun hb60 => ?b60) ?_
            case a60 =>
              refine sops_yes rfl rfl rfl rfl (st_move (v := .d _) rfl rfl rfl ?_)
              refine sops_yes rfl rfl rfl rfl (st_pick (v := .d _) rfl rfl rfl rfl ?_)
              refine sops_nil ?_
              exact ⟨rfl, rfl, rfl, rfl, [_], rfl, rfl⟩
            case b60 =>
              refine sops_no rfl rfl rfl rfl rfl ?_
              refine sops_yes rfl rfl rfl rfl (st_pick (v := .d _) rfl rfl rfl rfl ?_)
              refine sops_nil ?_
              exact ⟨rfl, rfl, rfl, rfl, [_], rfl, rfl⟩
            refine sops_go rfl (st_pick (v := .d _) rfl rfl rfl rfl ?_)
            refine sops_nil ?_
            exact ⟨rfl, rfl, rfl, rfl, [_, _, _, _, _, _, _, _, _], rfl, rfl⟩
          case b53 =>
            refine sops_no rfl rfl rfl rfl rfl ?_
            refine sops_no rfl rfl rfl rfl rfl ?_
            refine sops_no rfl rfl rfl rfl rfl ?_
            refine sops_un rfl rfl rfl rfl rfl ?_
            refine sops_un rfl rfl rfl rfl rfl ?_
            refine sops_no rfl rfl rfl rfl rfl ?_
            refine sops_no rfl rfl rfl rfl rfl ?_
            refine sops_un rfl rfl rfl rfl rfl ?_
            refine sops_no rfl rfl rfl rfl rfl ?_
            refine sops_go rfl (st_pick (v := .d _) rfl rfl rfl rfl ?_)
            refine sops_nil ?_
            exact ⟨rfl, rfl, rfl, rfl, [_, _, _, _, _, _, _, _, _], rfl, rfl⟩
          refine sops_go rfl (st_assign (v := .d _) rfl rfl rfl ?_)
          refine sops_nil ?_
          refine swp_ret ?_
          refine fin_b rfl rfl ?_
          cases p1 <;> cases p2 <;> cases p3 <;> simp_all
end Go.Proofs.YtdcpnpcmgfmenaaDoor
/-
  Plain law: being part goes on; both are part of their join. Conditions: none.
-/
set_option linter.unusedVariables false
set_option linter.unusedSimpArgs false
namespace Go.Proofs.YtdcpnpcmgfmenaaDoor
open Go Go.Proofs.YtdcpnpcmgfmenaaDoor.Lg

theorem T.sub_refl (a : T) : a.formed = true → a.sub a = true := by
  revert a
  apply T.ind
  intro ka na la ih ha
  have ia := T.inv ha
  rw [T.sub_w ia ia]
  by_cases h11 : ka = 11
  · exact .union h11 h11 fun i n x hn hx => ⟨i, x, hn, hx, ih x (List.mem_of_getElem? hx) (ia.all x (List.mem_of_getElem? hx))⟩
  · exact .same rfl h11 rfl rfl fun i x y hx hy => by
      rw [hx] at hy
      cases hy
      exact ih x (List.mem_of_getElem? hx) (ia.all x (List.mem_of_getElem? hx))

theorem T.sub_trans (a : T) : ∀ b c : T, a.formed = true → b.formed = true → c.formed = true → a.sub b = true → b.sub c = true → a.sub c = true := by
  revert a
  apply T.ind
  intro ka na la ih b c ha hb hc h1 h2
  obtain ⟨kb, nb, lb⟩ := b
  obtain ⟨kc, nc, lc⟩ := c
  have ia := T.inv ha
  have ib := T.inv hb
  have ic := T.inv hc
  rw [T.sub_w ia ib] at h1
  rw [T.sub_w ib ic] at h2
  rw [T.sub_w ia ic]
  cases h2 with
  | any h => exact .any h
  | num e1 e2 =>
    cases h1 with
    | any h => omega
    | num f1 f2 => omega
    | union f1 f2 _ => omega
    | same f1 _ _ _ _ => exact .num (by omega) e2
  | union e1 e2 e3 =>
    cases h1 with
    | any h => omega
    | num f1 f2 => omega
    | same f1 f2 _ _ _ => omega
    | union f1 f2 f3 =>
      refine .union f1 e2 fun i n x hn hx => ?_
      obtain ⟨k, y, g1, g2, g3⟩ := f3 i n x hn hx
      obtain ⟨k', z, g4, g5, g6⟩ := e3 k n y g1 g2
      exact ⟨k', z, g4, g5, ih x (List.mem_of_getElem? hx) y z (ia.all x (List.mem_of_getElem? hx)) (ib.all y (List.mem_of_getElem? g2)) (ic.all z (List.mem_of_getElem? g5)) g3 g6⟩
  | same e1 e2 e3 e4 e5 =>
    cases h1 with
    | any h => exact .any (by omega)
    | num f1 f2 => exact .num f1 (by omega)
    | union f1 f2 _ => omega
    | same f1 f2 f3 f4 f5 =>
      refine .same (by omega) f2 (f3.trans e3) (by omega) fun i x z hx hz => ?_
      have hi : i < lb.length := by have := (List.getElem?_eq_some_iff.1 hx).1; omega
      have hy : lb[i]? = some lb[i] := List.getElem?_eq_getElem hi
      exact ih x (List.mem_of_getElem? hx) _ z (ia.all x (List.mem_of_getElem? hx)) (ib.all _ (List.mem_of_getElem? hy)) (ic.all z (List.mem_of_getElem? hz)) (f5 i x _ hx hy) (e5 i _ z hy hz)

structure JW (ns : List ByteArray) (ys : List T) (nm : List ByteArray) (ls : List T) (nm' : List ByteArray) (ls' : List T) : Prop where
  formed : ∀ z ∈ ls', z.formed = true
  keep : ∀ (k : Nat) n z, nm[k]? = some n → ls[k]? = some z → ∃ z', nm'[k]? = some n ∧ ls'[k]? = some z' ∧ z.sub z' = true
  new : ∀ (j : Nat) n y, ns[j]? = some n → ys[j]? = some y → ∃ (k : Nat) (z : T), nm'[k]? = some n ∧ ls'[k]? = some z ∧ y.sub z = true

theorem joinL_w (pl : List (ByteArray × Nat)) : ∀ (ns : List ByteArray) (ys : List T) (nm : List ByteArray) (ls : List T) (nm' : List ByteArray) (ls' : List T), ns.length = ys.length → (∀ y ∈ ys, y.formed = true) → (∀ z ∈ ls, z.formed = true) →
    nm.length = ls.length → (∀ n k, pget pl n = some k → nm[k]? = some n) → T.joinL pl ns ys nm ls = some (nm', ls') → JW ns ys nm ls nm' ls'
  | [], ys, nm, ls, nm', ls', hl, hy, hz, hlen, hpl, h => by
    rw [T.joinL] at h
    · injection h with h
      injection h with h1 h2
      subst h1; subst h2
      exact ⟨hz, fun k n z hn hz' => ⟨z, hn, hz', T.sub_refl z (hz z (List.mem_of_getElem? hz'))⟩, fun j n y hn => by simp at hn⟩
    · simp
  | _ :: _, [], _, _, _, _, hl, _, _, _, _, _ => by simp at hl
  | n :: ns, y :: ys, nm, ls, nm', ls', hl, hy, hz, hlen, hpl, h => by
    rw [T.joinL] at h
    have hy0 := hy y (by simp)
    have hys : ∀ x ∈ ys, x.formed = true := fun x hx => hy x (by simp [hx])
    have hl' : ns.length = ys.length := by simpa using hl
    cases hp : pget pl n with
    | none =>
      simp only [hp] at h
      have ihw := joinL_w pl ns ys (nm ++ [n]) (ls ++ [y]) nm' ls' hl' hys (by intro z hz'; simp at hz'; rcases hz' with hz' | rfl; exact hz z hz'; exact hy0) (by simp [hlen])
        (fun m k hk => by
          have h1 := hpl m k hk
          have := (List.getElem?_eq_some_iff.1 h1).1
          rw [List.getElem?_append_left this]; exact h1) h
      refine ⟨ihw.formed, fun k m z hm hz' => ihw.keep k m z ?_ ?_, fun j m x hm hx => ?_⟩
      · rw [List.getElem?_append_left (List.getElem?_eq_some_iff.1 hm).1]; exact hm
      · rw [List.getElem?_append_left (List.getElem?_eq_some_iff.1 hz').1]; exact hz'
      · cases j with
        | zero =>
          simp at hm hx
          subst hm; subst hx
          obtain ⟨z', g1, g2, g3⟩ := ihw.keep nm.length n y (by simp) (by simp [hlen])
          exact ⟨_, z', g1, g2, g3⟩
        | succ j => exact ihw.new j m x (by simpa using hm) (by simpa using hx)
    | some k =>
      simp only [hp] at h
      have hk := hpl n k hp
      have hkl : k < ls.length := by have := (List.getElem?_eq_some_iff.1 hk).1; omega
      have hlk : ls[k]? = some ls[k] := List.getElem?_eq_getElem hkl
      have hg : ls.getD k .every = ls[k] := by simp [List.getD, hlk]
      rw [hg] at h
      have hzk := hz _ (List.getElem_mem hkl)
      split at h
      · rename_i hs
        have ihw := joinL_w pl ns ys nm ls nm' ls' hl' hys hz hlen hpl h
        refine ⟨ihw.formed, ihw.keep, fun j m x hm hx => ?_⟩
        cases j with
        | zero =>
          simp at hm hx
          subst hm; subst hx
          obtain ⟨z', g1, g2, g3⟩ := ihw.keep k n _ hk hlk
          exact ⟨k, z', g1, g2, T.sub_trans y _ z' hy0 hzk (ihw.formed z' (List.mem_of_getElem? g2)) hs g3⟩
        | succ j => exact ihw.new j m x (by simpa using hm) (by simpa using hx)
      · split at h
        · rename_i hs hs2
          have ihw := joinL_w pl ns ys nm (ls.set k y) nm' ls' hl' hys (by intro z hz'; rcases List.mem_or_eq_of_mem_set hz' with hz' | rfl; exact hz z hz'; exact hy0) (by simpa using hlen) hpl h
          refine ⟨ihw.formed, fun j m z hm hz' => ?_, fun j m x hm hx => ?_⟩
          · by_cases e : j = k
            · subst e
              rw [hlk] at hz'
              injection hz' with hz'
              subst hz'
              obtain ⟨z', g1, g2, g3⟩ := ihw.keep j m y hm (by simp [hkl])
              exact ⟨z', g1, g2, T.sub_trans _ y z' hzk hy0 (ihw.formed z' (List.mem_of_getElem? g2)) hs2 g3⟩
            · exact ihw.keep j m z hm (by rw [List.getElem?_set_ne (Ne.symm e)]; exact hz')
          · cases j with
            | zero =>
              simp at hm hx
              subst hm; subst hx
              obtain ⟨z', g1, g2, g3⟩ := ihw.keep k n y hk (by simp [hkl])
              exact ⟨k, z', g1, g2, g3⟩
            | succ j => exact ihw.new j m x (by simpa using hm) (by simpa using hx)
        · cases h

theorem T.every_formed : T.every.formed = true := by unfold T.every; rw [T.formed]; rfl
theorem T.every_check : T.every.check = 0 := by kernel_rfl
theorem T.sub_every (a : T) : a.sub .every = true := by obtain ⟨k, n, l⟩ := a; unfold T.every; rw [T.sub]; rfl

/-- Both are part of their join, and it is a type. -/
theorem T.join_ok (a b : T) (ha : a.check = 0) (hb : b.check = 0) : (a.join b).check = 0 ∧ a.sub (a.join b) = true ∧ b.sub (a.join b) = true := by
  have fa := T.check_ok ha
  have fb := T.check_ok hb
  unfold T.join
  split
  · rename_i h; exact ⟨hb, h, T.sub_refl b fb⟩
  · split
    · rename_i h; exact ⟨ha, T.sub_refl a fa, h⟩
    · split
      · exact ⟨T.every_check, T.sub_every a, T.sub_every b⟩
      · rename_i hk
        obtain ⟨ka, na, la⟩ := a
        obtain ⟨kb, nb, lb⟩ := b
        have hk' := Bool.or_eq_false_iff.1 (Bool.not_eq_true _ ▸ hk)
        have hka : ka = 11 := by simpa [T.kind] using hk'.1
        have hkb : kb = 11 := by simpa [T.kind] using hk'.2
        have ia := T.inv fa
        have ib := T.inv fb
        simp only [T.names, T.list]
        cases hj : T.joinL (placesOf na) nb lb na la with
        | none => exact ⟨T.every_check, T.sub_every _, T.sub_every _⟩
        | some p =>
          obtain ⟨nm, ls⟩ := p
          simp only [T.joinFin]
          split
          · exact ⟨T.every_check, T.sub_every _, T.sub_every _⟩
          · rename_i hc
            have hc : (T.mk 11 nm ls).check = 0 := by simpa using hc
            have it := T.inv (T.check_ok hc)
            have w := joinL_w (placesOf na) nb lb na la nm ls (ib.same (.inr hkb)) ib.all ia.all (ia.same (.inr hka)) (fun n k h => (place_iff (ia.some (.inr hka))).1 h) hj
            refine ⟨hc, (T.sub_w ia it).2 (.union hka rfl fun i n x hn hx => ?_), (T.sub_w ib it).2 (.union hkb rfl fun i n x hn hx => w.new i n x hn hx)⟩
            obtain ⟨z, g1, g2, g3⟩ := w.keep i n x hn hx
            exact ⟨i, z, g1, g2, g3⟩
end Go.Proofs.YtdcpnpcmgfmenaaDoor
/-
  Walks: the laws TypesThree and TypesAny. Conditions: none.
-/
set_option linter.unusedVariables false
set_option maxRecDepth 100000
namespace Go.Proofs.YtdcpnpcmgfmenaaDoor
open Go Go.Proofs.YtdcpnpcmgfmenaaDoor.Lg

theorem joinL_fit (pl : List (ByteArray × Nat)) : ∀ (ns : List ByteArray) (ys : List T) (nm : List ByteArray) (ls : List T) (nm' : List ByteArray) (ls' : List T), (∀ n ∈ ns, fits n) → (∀ y ∈ ys, y.fit) → (∀ n ∈ nm, fits n) → (∀ z ∈ ls, z.fit) →
    T.joinL pl ns ys nm ls = some (nm', ls') → (∀ n ∈ nm', fits n) ∧ ∀ z ∈ ls', z.fit
  | [], ys, nm, ls, nm', ls', h1, h2, h3, h4, h => by
    rw [T.joinL] at h
    · injection h with h; injection h with e1 e2; subst e1; subst e2; exact ⟨h3, h4⟩
    · simp
  | n :: ns, [], nm, ls, nm', ls', h1, h2, h3, h4, h => by
    rw [T.joinL] at h
    · injection h with h; injection h with e1 e2; subst e1; subst e2; exact ⟨h3, h4⟩
    · simp
  | n :: ns, y :: ys, nm, ls, nm', ls', h1, h2, h3, h4, h => by
    rw [T.joinL] at h
    have h1' : ∀ x ∈ ns, fits x := fun x hx => h1 x (by simp [hx])
    have h2' : ∀ x ∈ ys, x.fit := fun x hx => h2 x (by simp [hx])
    cases hp : pget pl n with
    | none =>
      simp only [hp] at h
      exact joinL_fit pl ns ys _ _ nm' ls' h1' h2' (by intro x hx; simp at hx; rcases hx with hx | rfl; exact h3 x hx; exact h1 x (by simp)) (by intro x hx; simp at hx; rcases hx with hx | rfl; exact h4 x hx; exact h2 x (by simp)) h
    | some k =>
      simp only [hp] at h
      split at h
      · exact joinL_fit pl ns ys _ _ nm' ls' h1' h2' h3 h4 h
      · split at h
        · exact joinL_fit pl ns ys _ _ nm' ls' h1' h2' h3 (by intro x hx; rcases List.mem_or_eq_of_mem_set hx with hx | rfl; exact h4 x hx; exact h2 x (by simp)) h
        · cases h
theorem T.every_fit : T.every.fit := tf_plain 1
theorem T.Join_fit {a b : T} (ha : a.fit) (hb : b.fit) : (a.Join b).1.fit := by
  unfold T.Join
  split
  · exact tf_plain 0
  · show (a.join b).fit
    unfold T.join
    split
    · exact hb
    · split
      · exact ha
      · split
        · exact T.every_fit
        · obtain ⟨ka, na, la⟩ := a
          obtain ⟨kb, nb, lb⟩ := b
          simp only [T.names, T.list]
          cases hj : T.joinL (placesOf na) nb lb na la with
          | none => exact T.every_fit
          | some p =>
            obtain ⟨nm, ls⟩ := p
            obtain ⟨h1, h2⟩ := joinL_fit _ nb lb na la nm ls hb.1 ((T.fitL_iff lb).1 hb.2) ha.1 ((T.fitL_iff la).1 ha.2) hj
            simp only [T.joinFin]
            split
            · exact T.every_fit
            · exact ⟨h1, (T.fitL_iff ls).2 h2⟩
theorem T.Sub_eq {a b : T} (ha : a.check = 0) (hb : b.check = 0) : a.Sub b = (a.sub b, 0) := by
  have h : a.both b = 0 := by unfold T.both; rw [if_neg (by rw [ha]; simp)]; exact hb
  unfold T.Sub; rw [if_neg (by rw [h]; simp)]
theorem T.Has_eq {a : T} {v : V} (ha : a.check = 0) (hv : v.check = 0) : a.Has v = (a.has v, 0) := by
  unfold T.Has; rw [if_neg (by rw [ha]; simp), if_neg (by rw [hv]; simp)]

theorem TypesThree_pure (a b c : T) (ha : a.fit) (hb : b.fit) (hc : c.fit) : Pure env 5 [.d a.d, .d b.d, .d c.d] (.d (.v (.bool true))) := by
  have c0a := bigType_s a
  have c0b := bigType_s b
  have c0c := bigType_s c
  have c1 := Sub_pure a b ha hb true true
  have c2 := Sub_pure b c hb hc true true
  have c3 := Sub_pure a c ha hc true true
  have c4 := Sub_pure a a ha ha true true
  have c5 := Join_pure a b ha hb
  have c6 := Sub_pure a (a.Join b).1 ha (T.Join_fit ha hb) true true
  have c7 := Sub_pure b (a.Join b).1 hb (T.Join_fit ha hb) true true
  have hlaw : (a.Sub b).2 = 0 → (b.Sub c).2 = 0 → (a.Sub c).2 = 0 → (a.Sub a).2 = 0 → (a.Sub a).1 = true ∧ ((a.Sub b).1 = true → (b.Sub c).1 = true → (a.Sub c).1 = true) ∧ (a.Join b).2 = 0 ∧ a.Sub (a.Join b).1 = (true, 0) ∧ b.Sub (a.Join b).1 = (true, 0) := by
    intro e1 e2 e3 e4
    obtain ⟨h1, h2, h3⟩ := T.Sub_ok e1
    obtain ⟨h4, h5, h6⟩ := T.Sub_ok e2
    obtain ⟨h7, h8, h9⟩ := T.Sub_ok e3
    obtain ⟨h10, h11, h12⟩ := T.Sub_ok e4
    have hj : a.Join b = (a.join b, 0) := by
      have h : a.both b = 0 := by unfold T.both; rw [if_neg (by rw [h1]; simp)]; exact h2
      unfold T.Join; rw [if_neg (by rw [h]; simp)]
    obtain ⟨g1, g2, g3⟩ := T.join_ok a b h1 h2
    rw [hj, h12, h3, h6, h9, T.Sub_eq h1 g1, T.Sub_eq h2 g1, g2, g3]
    exact ⟨T.sub_refl a (T.check_ok h1), T.sub_trans a b c (T.check_ok h1) (T.check_ok h2) (T.check_ok h5), rfl, rfl, rfl⟩
  generalize a.Sub b = r1 at *
  generalize b.Sub c = r2 at *
  generalize a.Sub c = r3 at *
  generalize a.Sub a = r4 at *
  generalize a.Join b = r5 at *
  obtain ⟨j, i5⟩ := r5
  simp only at c5 c6 c7 hlaw
  generalize a.Sub j = r6 at *
  generalize b.Sub j = r7 at *
  rw [T.df_d] at c0a c0b c0c ⊢
  rw [T.df_d, T.df_d]
  rw [T.df_d] at c5
  obtain ⟨p1, e1⟩ := r1
  obtain ⟨p2, e2⟩ := r2
  obtain ⟨p3, e3⟩ := r3
  obtain ⟨p4, e4⟩ := r4
  obtain ⟨p6, e6⟩ := r6
  obtain ⟨p7, e7⟩ := r7
  obtain ⟨ka, na, la⟩ := a
  obtain ⟨kb, nb, lb⟩ := b
  obtain ⟨kc, nc, lc⟩ := c
  obtain ⟨kj, nj, lj⟩ := j
  refine pure_of_body Tryd.func5 rfl rfl rfl fun B hB => ?_
  refine swp_seq ?_
  refine swp_region ?_
  refine sops_go rfl (so_box (cs := [_, _, _]) rfl rfl rfl ?_)
  refine sops_go rfl (so_box (cs := [_, _, _]) rfl rfl rfl ?_)
  refine sops_go rfl (so_box (cs := [_, _, _]) rfl rfl rfl ?_)
  refine sops_go rfl (st_assign (v := .d _) rfl rfl rfl ?_)
  refine sops_nil ?_
  refine swp_seq ?_
  refine swp_seq ?_
  refine swp_region ?_
  first | refine sops_go rfl (so_load (v := .d (.agg [_, _, _])) rfl rfl rfl rfl rfl rfl rfl rfl ?_) | refine sops_go rfl (so_load (v := .agg [_, _, _]) rfl rfl rfl rfl rfl rfl rfl rfl ?_)
  refine sops_go rfl (st_callS rfl rfl (c0a) ⟨na_d _, trivial⟩ rfl fun r hr => ?_)
  obtain ⟨b1, rfl⟩ := hr
  refine sops_go rfl (st_move (v := .d _) rfl rfl rfl ?_)
  refine sops_case 23 rfl (fun hb23 => ?_) (fun hb23 => ?_)
  · refine sops_no rfl rfl rfl rfl rfl ?_
    refine sops_no rfl rfl rfl rfl rfl ?_
    refine sops_go rfl (st_pick (v := .d _) rfl rfl rfl rfl ?_)
    refine sops_go rfl (st_move (v := .d _) rfl rfl rfl ?_)
    refine sops_no rfl rfl rfl rfl rfl ?_
    refine sops_no rfl rfl rfl rfl rfl ?_
    refine sops_go rfl (st_pick (v := .d _) rfl rfl rfl rfl ?_)
    refine sops_nil ?_
    refine swp_condT rfl ?_
    refine swp_seq ?_
    refine swp_region ?_
    refine sops_go rfl (st_assign (v := .d _) rfl rfl rfl ?_)
    refine sops_nil ?_
    refine swp_ret ?_
    with_reducible refine after_ret ?_
    exact fin_b rfl rfl rfl
  · first | refine sops_yes rfl rfl rfl rfl (so_load (v := .d (.agg [_, _, _])) rfl rfl rfl rfl rfl rfl rfl rfl ?_) | refine sops_yes rfl rfl rfl rfl (so_load (v := .agg [_, _, _]) rfl rfl rfl rfl rfl rfl rfl rfl ?_)
    refine sops_yes rfl rfl rfl rfl (st_callS rfl rfl (c0b) ⟨na_d _, trivial⟩ rfl fun r hr => ?_)
    obtain ⟨b2, rfl⟩ := hr
    refine sops_go rfl (st_pick (v := .d _) rfl rfl rfl rfl ?_)
    refine sops_go rfl (st_move (v := .d _) rfl rfl rfl ?_)
    refine sops_case 27 rfl (fun hb27 => ?_) (fun hb27 => ?_)
    · refine sops_no rfl rfl rfl rfl rfl ?_
      refine sops_no rfl rfl rfl rfl rfl ?_
      refine sops_go rfl (st_pick (v := .d _) rfl rfl rfl rfl ?_)
      refine sops_nil ?_
      refine swp_condT rfl ?_
      refine swp_seq ?_
      refine swp_region ?_
      refine sops_go rfl (st_assign (v := .d _) rfl rfl rfl ?_)
      refine sops_nil ?_
      refine swp_ret ?_
      with_reducible refine after_ret ?_
      exact fin_b rfl rfl rfl
    · first | refine sops_yes rfl rfl rfl rfl (so_load (v := .d (.agg [_, _, _])) rfl rfl rfl rfl rfl rfl rfl rfl ?_) | refine sops_yes rfl rfl rfl rfl (so_load (v := .agg [_, _, _]) rfl rfl rfl rfl rfl rfl rfl rfl ?_)
      refine sops_yes rfl rfl rfl rfl (st_callS rfl rfl (c0c) ⟨na_d _, trivial⟩ rfl fun r hr => ?_)
      obtain ⟨b3, rfl⟩ := hr
      refine sops_go rfl (st_pick (v := .d _) rfl rfl rfl rfl ?_)
      refine sops_nil ?_
      refine swp_cond _ rfl (fun hc30 => ?_) (fun hc30 => ?_)
      · refine swp_seq ?_
        refine swp_region ?_
        refine sops_go rfl (st_assign (v := .d _) rfl rfl rfl ?_)
        refine sops_nil ?_
        refine swp_ret ?_
        with_reducible refine after_ret ?_
        exact fin_b rfl rfl rfl
      · refine swp_skip ?_
        refine swp_seq ?_
        refine swp_region ?_
        first | refine sops_go rfl (so_load (v := .d (.agg [_, _, _])) rfl rfl rfl rfl rfl rfl rfl rfl ?_) | refine sops_go rfl (so_load (v := .agg [_, _, _]) rfl rfl rfl rfl rfl rfl rfl rfl ?_)
        first | refine sops_go rfl (so_load (v := .d (.agg [_, _, _])) rfl rfl rfl rfl rfl rfl rfl rfl ?_) | refine sops_go rfl (so_load (v := .agg [_, _, _]) rfl rfl rfl rfl rfl rfl rfl rfl ?_)
        refine sops_go rfl (st_call rfl rfl (c1) ⟨na_d _, na_d _, trivial⟩ rfl ?_)
        refine sops_go rfl (st_move (v := .tup _) rfl rfl rfl ?_)
        refine sops_go rfl (st_extract (c := .d _) rfl rfl rfl rfl ?_)
        refine sops_go rfl (st_extract (c := .d _) rfl rfl rfl rfl ?_)
        refine sops_go rfl (st_assign (v := .d _) rfl rfl rfl ?_)
        refine sops_go rfl (st_assign (v := .d _) rfl rfl rfl ?_)
        refine sops_nil ?_
        refine swp_seq ?_
        refine swp_region ?_
        first | refine sops_go rfl (so_load (v := .d (.agg [_, _, _])) rfl rfl rfl rfl rfl rfl rfl rfl ?_) | refine sops_go rfl (so_load (v := .agg [_, _, _]) rfl rfl rfl rfl rfl rfl rfl rfl ?_)
        first | refine sops_go rfl (so_load (v := .d (.agg [_, _, _])) rfl rfl rfl rfl rfl rfl rfl rfl ?_) | refine sops_go rfl (so_load (v := .agg [_, _, _]) rfl rfl rfl rfl rfl rfl rfl rfl ?_)
        refine sops_go rfl (st_call rfl rfl (c2) ⟨na_d _, na_d _, trivial⟩ rfl ?_)
        refine sops_go rfl (st_move (v := .tup _) rfl rfl rfl ?_)
        refine sops_go rfl (st_extract (c := .d _) rfl rfl rfl rfl ?_)
        refine sops_go rfl (st_extract (c := .d _) rfl rfl rfl rfl ?_)
        refine sops_go rfl (st_assign (v := .d _) rfl rfl rfl ?_)
        refine sops_go rfl (st_assign (v := .d _) rfl rfl rfl ?_)
        refine sops_nil ?_
        refine swp_seq ?_
        refine swp_region ?_
        first | refine sops_go rfl (so_load (v := .d (.agg [_, _, _])) rfl rfl rfl rfl rfl rfl rfl rfl ?_) | refine sops_go rfl (so_load (v := .agg [_, _, _]) rfl rfl rfl rfl rfl rfl rfl rfl ?_)
        first | refine sops_go rfl (so_load (v := .d (.agg [_, _, _])) rfl rfl rfl rfl rfl rfl rfl rfl ?_) | refine sops_go rfl (so_load (v := .agg [_, _, _]) rfl rfl rfl rfl rfl rfl rfl rfl ?_)
        refine sops_go rfl (st_call rfl rfl (c3) ⟨na_d _, na_d _, trivial⟩ rfl ?_)
        refine sops_go rfl (st_move (v := .tup _) rfl rfl rfl ?_)
        refine sops_go rfl (st_extract (c := .d _) rfl rfl rfl rfl ?_)
        refine sops_go rfl (st_extract (c := .d _) rfl rfl rfl rfl ?_)
        refine sops_go rfl (st_assign (v := .d _) rfl rfl rfl ?_)
        refine sops_go rfl (st_assign (v := .d _) rfl rfl rfl ?_)
        refine sops_nil ?_
        refine swp_seq ?_
        refine swp_region ?_
        first | refine sops_go rfl (so_load (v := .d (.agg [_, _, _])) rfl rfl rfl rfl rfl rfl rfl rfl ?_) | refine sops_go rfl (so_load (v := .agg [_, _, _]) rfl rfl rfl rfl rfl rfl rfl rfl ?_)
        first | refine sops_go rfl (so_load (v := .d (.agg [_, _, _])) rfl rfl rfl rfl rfl rfl rfl rfl ?_) | refine sops_go rfl (so_load (v := .agg [_, _, _]) rfl rfl rfl rfl rfl rfl rfl rfl ?_)
        refine sops_go rfl (st_call rfl rfl (c4) ⟨na_d _, na_d _, trivial⟩ rfl ?_)
        refine sops_go rfl (st_move (v := .tup _) rfl rfl rfl ?_)
        refine sops_go rfl (st_extract (c := .d _) rfl rfl rfl rfl ?_)
        refine sops_go rfl (st_extract (c := .d _) rfl rfl rfl rfl ?_)
        refine sops_go rfl (st_assign (v := .d _) rfl rfl rfl ?_)
        refine sops_go rfl (st_assign (v := .d _) rfl rfl rfl ?_)
        refine sops_nil ?_
        refine swp_seq ?_
        refine swp_seq ?_
        refine swp_region ?_
        refine sops_go rfl (st_move (v := .d _) rfl rfl rfl ?_)
        refine sops_go rfl (st_bin rfl rfl rfl rfl rfl ?_)
        refine sops_go rfl (st_move (v := .d _) rfl rfl rfl ?_)
        refine' sops_or (d := 57) (p := 60) [58, 59] 3 rfl rfl rfl (fun hb57 => ?a57) (fun hb57 => ?b57) ?_
        case a57 =>
          refine sops_yes rfl rfl rfl rfl (st_move (v := .d _) rfl rfl rfl ?_)
          refine sops_yes rfl rfl rfl rfl (st_bin rfl rfl rfl rfl rfl ?_)
          refine sops_go rfl (st_pick (v := .d _) rfl rfl rfl rfl ?_)
          refine sops_nil ?_
          exact ⟨rfl, rfl, rfl, rfl, [_, _], rfl, rfl⟩
        case b57 =>
          refine sops_no rfl rfl rfl rfl rfl ?_
          refine sops_no rfl rfl rfl rfl rfl ?_
          refine sops_go rfl (st_pick (v := .d _) rfl rfl rfl rfl ?_)
          refine sops_nil ?_
          exact ⟨rfl, rfl, rfl, rfl, [_, _], rfl, rfl⟩
        refine sops_go rfl (st_move (v := .d _) rfl rfl rfl ?_)
        refine' sops_or (d := 61) (p := 64) [62, 63] 3 rfl rfl rfl (fun hb61 => ?a61) (fun hb61 => ?b61) ?_
        case a61 =>
          refine sops_yes rfl rfl rfl rfl (st_move (v := .d _) rfl rfl rfl ?_)
          refine sops_yes rfl rfl rfl rfl (st_bin rfl rfl rfl rfl rfl ?_)
          refine sops_go rfl (st_pick (v := .d _) rfl rfl rfl rfl ?_)
          refine sops_nil ?_
          exact ⟨rfl, rfl, rfl, rfl, [_, _], rfl, rfl⟩
        case b61 =>
          refine sops_no rfl rfl rfl rfl rfl ?_
          refine sops_no rfl rfl rfl rfl rfl ?_
          refine sops_go rfl (st_pick (v := .d _) rfl rfl rfl rfl ?_)
          refine sops_nil ?_
          exact ⟨rfl, rfl, rfl, rfl, [_, _], rfl, rfl⟩
        refine sops_go rfl (st_move (v := .d _) rfl rfl rfl ?_)
        refine' sops_or (d := 65) (p := 68) [66, 67] 3 rfl rfl rfl (fun hb65 => ?a65) (fun hb65 => ?b65) ?_
        case a65 =>
          refine sops_yes rfl rfl rfl rfl (st_move (v := .d _) rfl rfl rfl ?_)
          refine sops_yes rfl rfl rfl rfl (st_bin rfl rfl rfl rfl rfl ?_)
          refine sops_go rfl (st_pick (v := .d _) rfl rfl rfl rfl ?_)
          refine sops_nil ?_
          exact ⟨rfl, rfl, rfl, rfl, [_, _], rfl, rfl⟩
        case b65 =>
          refine sops_no rfl rfl rfl rfl rfl ?_
          refine sops_no rfl rfl rfl rfl rfl ?_
          refine sops_go rfl (st_pick (v := .d _) rfl rfl rfl rfl ?_)
          refine sops_nil ?_
          exact ⟨rfl, rfl, rfl, rfl, [_, _], rfl, rfl⟩
        refine sops_nil ?_
        refine swp_cond _ rfl (fun hc68 => ?_) (fun hc68 => ?_)
        · refine swp_seq ?_
          refine swp_region ?_
          refine sops_go rfl (st_call rfl rfl (awake_pure) trivial rfl ?_)
          refine sops_go rfl (st_assign (v := .d _) rfl rfl rfl ?_)
          refine sops_nil ?_
          refine swp_ret ?_
          with_reducible refine after_ret ?_
          exact fin_b rfl rfl rfl
        · have hlaw : p4 = true ∧ (p1 = true → p2 = true → p3 = true) ∧ i5 = 0 ∧ (p6, e6) = (true, 0) ∧ (p7, e7) = (true, 0) := by
            simp only [Bool.or_eq_false_iff, bne_eq_false_iff_eq] at hc68
            exact hlaw hc68.1.1.1 hc68.1.1.2 hc68.1.2 hc68.2
          simp only [Prod.mk.injEq] at hlaw
          obtain ⟨rfl, hlaw, rfl, ⟨rfl, rfl⟩, ⟨rfl, rfl⟩⟩ := hlaw
          refine swp_skip ?_
          refine swp_seq ?_
          refine swp_region ?_
          first | refine sops_go rfl (so_load (v := .d (.agg [_, _, _])) rfl rfl rfl rfl rfl rfl rfl rfl ?_) | refine sops_go rfl (so_load (v := .agg [_, _, _]) rfl rfl rfl rfl rfl rfl rfl rfl ?_)
          first | refine sops_go rfl (so_load (v := .d (.agg [_, _, _])) rfl rfl rfl rfl rfl rfl rfl rfl ?_) | refine sops_go rfl (so_load (v := .agg [_, _, _]) rfl rfl rfl rfl rfl rfl rfl rfl ?_)
          refine sops_go rfl (st_call rfl rfl (c5) ⟨na_d _, na_d _, trivial⟩ rfl ?_)
          refine sops_go rfl (st_move (v := .tup _) rfl rfl rfl ?_)
          first | refine sops_go rfl (st_extract (c := .d _) rfl rfl rfl rfl ?_) | refine sops_go rfl (st_extract (c := .agg _) rfl rfl rfl rfl ?_)
          refine sops_go rfl (st_extract (c := .d _) rfl rfl rfl rfl ?_)
          refine sops_go rfl (so_alloc (cs := [_, _, _]) rfl rfl rfl rfl ?_)
          refine sops_go rfl (so_store rfl rfl rfl rfl rfl rfl rfl rfl rfl (zs := [_, _, _]) rfl ?_)
          refine sops_go rfl (st_assign (v := .d _) rfl rfl rfl ?_)
          refine sops_nil ?_
          refine swp_seq ?_
          refine swp_region ?_
          first | refine sops_go rfl (so_load (v := .d (.agg [_, _, _])) rfl rfl rfl rfl rfl rfl rfl rfl ?_) | refine sops_go rfl (so_load (v := .agg [_, _, _]) rfl rfl rfl rfl rfl rfl rfl rfl ?_)
          first | refine sops_go rfl (so_load (v := .d (.agg [_, _, _])) rfl rfl rfl rfl rfl rfl rfl rfl ?_) | refine sops_go rfl (so_load (v := .agg [_, _, _]) rfl rfl rfl rfl rfl rfl rfl rfl ?_)
          refine sops_go rfl (st_call rfl rfl (c6) ⟨na_d _, na_d _, trivial⟩ rfl ?_)
          refine sops_go rfl (st_move (v := .tup _) rfl rfl rfl ?_)
          refine sops_go rfl (st_extract (c := .d _) rfl rfl rfl rfl ?_)
          refine sops_go rfl (st_extract (c := .d _) rfl rfl rfl rfl ?_)
          refine sops_go rfl (st_assign (v := .d _) rfl rfl rfl ?_)
          refine sops_go rfl (st_assign (v := .d _) rfl rfl rfl ?_)
          refine sops_nil ?_
          refine swp_seq ?_
          refine swp_region ?_
          first | refine sops_go rfl (so_load (v := .d (.agg [_, _, _])) rfl rfl rfl rfl rfl rfl rfl rfl ?_) | refine sops_go rfl (so_load (v := .agg [_, _, _]) rfl rfl rfl rfl rfl rfl rfl rfl ?_)
          first | refine sops_go rfl (so_load (v := .d (.agg [_, _, _])) rfl rfl rfl rfl rfl rfl rfl rfl ?_) | refine sops_go rfl (so_load (v := .agg [_, _, _]) rfl rfl rfl rfl rfl rfl rfl rfl ?_)
          refine sops_go rfl (st_call rfl rfl (c7) ⟨na_d _, na_d _, trivial⟩ rfl ?_)
          refine sops_go rfl (st_move (v := .tup _) rfl rfl rfl ?_)
          refine sops_go rfl (st_extract (c := .d _) rfl rfl rfl rfl ?_)
          refine sops_go rfl (st_extract (c := .d _) rfl rfl rfl rfl ?_)
          refine sops_go rfl (st_assign (v := .d _) rfl rfl rfl ?_)
          refine sops_go rfl (st_assign (v := .d _) rfl rfl rfl ?_)
          refine sops_nil ?_
          refine swp_seq ?_
          refine swp_region ?_
          refine sops_go rfl (st_call rfl rfl (awake_pure) trivial rfl ?_)
          refine sops_go rfl (st_move (v := .d _) rfl rfl rfl ?_)
          refine' sops_and (d := 89) (p := 91) [90] 2 rfl rfl rfl (fun hb89 => ?a89) (fun hb89 => ?b89) ?_
          case a89 =>
            refine sops_yes rfl rfl rfl rfl (st_move (v := .d _) rfl rfl rfl ?_)
            refine sops_go rfl (st_pick (v := .d _) rfl rfl rfl rfl ?_)
            refine sops_nil ?_
            exact ⟨rfl, rfl, rfl, rfl, [_], rfl, rfl⟩
          case b89 =>
            refine sops_no rfl rfl rfl rfl rfl ?_
            refine sops_go rfl (st_pick (v := .d _) rfl rfl rfl rfl ?_)
            refine sops_nil ?_
            exact ⟨rfl, rfl, rfl, rfl, [_], rfl, rfl⟩
          refine sops_go rfl (st_move (v := .d _) rfl rfl rfl ?_)
          refine' sops_and (d := 92) (p := 102) [93, 94, 95, 96, 97, 98, 99, 100, 101] 10 rfl rfl rfl (fun hb92 => ?a92) (fun hb92 => ?b92) ?_
          case a92 =>
            refine sops_yes rfl rfl rfl rfl (st_move (v := .d _) rfl rfl rfl ?_)
            refine sops_yes rfl rfl rfl rfl (st_not rfl rfl rfl ?_)
            refine sops_yes rfl rfl rfl rfl (st_move (v := .d _) rfl rfl rfl ?_)
            refine' sops_or (d := 95) (p := 98) [96, 97] 3 rfl rfl rfl (fun hb95 => ?a95) (fun hb95 => ?b95) ?_
            case a95 =>
              refine sops_yes rfl rfl rfl rfl (st_move (v := .d _) rfl rfl rfl ?_)
              refine sops_yes rfl rfl rfl rfl (st_not rfl rfl rfl ?_)
              refine sops_yes rfl rfl rfl rfl (st_pick (v := .d _) rfl rfl rfl rfl ?_)
              refine sops_nil ?_
              exact ⟨rfl, rfl, rfl, rfl, [_, _], rfl, rfl⟩
            case b95 =>
              refine sops_no rfl rfl rfl rfl rfl ?_
              refine sops_no rfl rfl rfl rfl rfl ?_
              refine sops_yes rfl rfl rfl rfl (st_pick (v := .d _) rfl rfl rfl rfl ?_)
              refine sops_nil ?_
              exact ⟨rfl, rfl, rfl, rfl, [_, _], rfl, rfl⟩
            refine sops_yes rfl rfl rfl rfl (st_move (v := .d _) rfl rfl rfl ?_)
            refine' sops_or (d := 99) (p := 101) [100] 2 rfl rfl rfl (fun hb99 => ?a99) (fun hb99 => ?b99) ?_
            case a99 =>
              refine sops_yes rfl rfl rfl rfl (st_move (v := .d _) rfl rfl rfl ?_)
              refine sops_yes rfl rfl rfl rfl (st_pick (v := .d _) rfl rfl rfl rfl ?_)
              refine sops_nil ?_
              exact ⟨rfl, rfl, rfl, rfl, [_], rfl, rfl⟩
            case b99 =>
              refine sops_no rfl rfl rfl rfl rfl ?_
              refine sops_yes rfl rfl rfl rfl (st_pick (v := .d _) rfl rfl rfl rfl ?_)
              refine sops_nil ?_
              exact ⟨rfl, rfl, rfl, rfl, [_], rfl, rfl⟩
            refine sops_go rfl (st_pick (v := .d _) rfl rfl rfl rfl ?_)
            refine sops_nil ?_
            exact ⟨rfl, rfl, rfl, rfl, [_, _, _, _, _, _, _, _, _], rfl, rfl⟩
          case b92 =>
            refine sops_no rfl rfl rfl rfl rfl ?_
            refine sops_no rfl rfl rfl rfl rfl ?_
            refine sops_no rfl rfl rfl rfl rfl ?_
            refine sops_un rfl rfl rfl rfl rfl ?_
            refine sops_un rfl rfl rfl rfl rfl ?_
            refine sops_no rfl rfl rfl rfl rfl ?_
            refine sops_no rfl rfl rfl rfl rfl ?_
            refine sops_un rfl rfl rfl rfl rfl ?_
            refine sops_no rfl rfl rfl rfl rfl ?_
            refine sops_go rfl (st_pick (v := .d _) rfl rfl rfl rfl ?_)
            refine sops_nil ?_
            exact ⟨rfl, rfl, rfl, rfl, [_, _, _, _, _, _, _, _, _], rfl, rfl⟩
          refine sops_go rfl (st_move (v := .d _) rfl rfl rfl ?_)
          refine' sops_and (d := 103) (p := 106) [104, 105] 3 rfl rfl rfl (fun hb103 => ?a103) (fun hb103 => ?b103) ?_
          case a103 =>
            refine sops_yes rfl rfl rfl rfl (st_move (v := .d _) rfl rfl rfl ?_)
            refine sops_yes rfl rfl rfl rfl (st_bin rfl rfl rfl rfl rfl ?_)
            refine sops_go rfl (st_pick (v := .d _) rfl rfl rfl rfl ?_)
            refine sops_nil ?_
            exact ⟨rfl, rfl, rfl, rfl, [_, _], rfl, rfl⟩
          case b103 =>
            refine sops_no rfl rfl rfl rfl rfl ?_
            refine sops_no rfl rfl rfl rfl rfl ?_
            refine sops_go rfl (st_pick (v := .d _) rfl rfl rfl rfl ?_)
            refine sops_nil ?_
            exact ⟨rfl, rfl, rfl, rfl, [_, _], rfl, rfl⟩
          refine sops_go rfl (st_move (v := .d _) rfl rfl rfl ?_)
          refine' sops_and (d := 107) (p := 110) [108, 109] 3 rfl rfl rfl (fun hb107 => ?a107) (fun hb107 => ?b107) ?_
          case a107 =>
            refine sops_yes rfl rfl rfl rfl (st_move (v := .d _) rfl rfl rfl ?_)
            refine sops_yes rfl rfl rfl rfl (st_bin rfl rfl rfl rfl rfl ?_)
            refine sops_go rfl (st_pick (v := .d _) rfl rfl rfl rfl ?_)
            refine sops_nil ?_
            exact ⟨rfl, rfl, rfl, rfl, [_, _], rfl, rfl⟩
          case b107 =>
            refine sops_no rfl rfl rfl rfl rfl ?_
            refine sops_no rfl rfl rfl rfl rfl ?_
            refine sops_go rfl (st_pick (v := .d _) rfl rfl rfl rfl ?_)
            refine sops_nil ?_
            exact ⟨rfl, rfl, rfl, rfl, [_, _], rfl, rfl⟩
          refine sops_go rfl (st_move (v := .d _) rfl rfl rfl ?_)
          refine' sops_and (d := 111) (p := 114) [112, 113] 3 rfl rfl rfl (fun hb111 => ?a111) (fun hb111 => ?b111) ?_
          case a111 =>
            refine sops_yes rfl rfl rfl rfl (st_move (v := .d _) rfl rfl rfl ?_)
            refine sops_yes rfl rfl rfl rfl (st_bin rfl rfl rfl rfl rfl ?_)
            refine sops_go rfl (st_pick (v := .d _) rfl rfl rfl rfl ?_)
            refine sops_nil ?_
            exact ⟨rfl, rfl, rfl, rfl, [_, _], rfl, rfl⟩
          case b111 =>
            refine sops_no rfl rfl rfl rfl rfl ?_
            refine sops_no rfl rfl rfl rfl rfl ?_
            refine sops_go rfl (st_pick (v := .d _) rfl rfl rfl rfl ?_)
            refine sops_nil ?_
            exact ⟨rfl, rfl, rfl, rfl, [_, _], rfl, rfl⟩
          refine sops_go rfl (st_move (v := .d _) rfl rfl rfl ?_)
          refine' sops_and (d := 115) (p := 117) [116] 2 rfl rfl rfl (fun hb115 => ?a115) (fun hb115 => ?b115) ?_
          case a115 =>
            refine sops_yes rfl rfl rfl rfl (st_move (v := .d _) rfl rfl rfl ?_)
            refine sops_go rfl (st_pick (v := .d _) rfl rfl rfl rfl ?_)
            refine sops_nil ?_
            exact ⟨rfl, rfl, rfl, rfl, [_], rfl, rfl⟩
          case b115 =>
            refine sops_no rfl rfl rfl rfl rfl ?_
            refine sops_go rfl (st_pick (v := .d _) rfl rfl rfl rfl ?_)
            refine sops_nil ?_
            exact ⟨rfl, rfl, rfl, rfl, [_], rfl, rfl⟩
          refine sops_go rfl (st_move (v := .d _) rfl rfl rfl ?_)
          refine' sops_and (d := 118) (p := 120) [119] 2 rfl rfl rfl (fun hb118 => ?a118) (fun hb118 => ?b118) ?_
          case a118 =>
            refine sops_yes rfl rfl rfl rfl (st_move (v := .d _) rfl rfl rfl ?_)
            refine sops_go rfl (st_pick (v := .d _) rfl rfl rfl rfl ?_)
            refine sops_nil ?_
            exact ⟨rfl, rfl, rfl, rfl, [_], rfl, rfl⟩
          case b118 =>
            refine sops_no rfl rfl rfl rfl rfl ?_
            refine sops_go rfl (st_pick (v := .d _) rfl rfl rfl rfl ?_)
            refine sops_nil ?_
            exact ⟨rfl, rfl, rfl, rfl, [_], rfl, rfl⟩
          refine sops_go rfl (st_assign (v := .d _) rfl rfl rfl ?_)
          refine sops_nil ?_
          refine swp_ret ?_
          refine fin_b rfl rfl ?_
          cases p1 <;> cases p2 <;> cases p3 <;> simp_all

def vListOf (v : V) : V := .mk 7 false false noText 0 0 noText [] [v]
theorem T.list_check {t : T} {v : V} (ht : t.check = 0) (hv : v.check = 0) : ((T.mk 9 [] [t]).Has (vListOf v)).2 = 2 ∨ (T.mk 9 [] [t]).Has (vListOf v) = (t.has v, 0) := by
  have f1 : (T.mk 9 [] [t]).formed = true := by
    rw [T.formed]; simp [T.formedL, T.check_ok ht]
  have f2 : (vListOf v).formed = true := by
    unfold vListOf; rw [V.formed]; simp [V.formedL, V.check_ok hv, V.bad]
  have e : (T.mk 9 [] [t]).has (vListOf v) = t.has v := by
    unfold vListOf; rw [T.has]; simp [V.kind, V.list, T.hasAt]
  have c1 : (T.mk 9 [] [t]).check = 0 ∨ (T.mk 9 [] [t]).check = 2 := by
    unfold T.check; rw [if_pos f1]; split <;> simp
  have c2 : (vListOf v).check = 0 ∨ (vListOf v).check = 2 := by
    unfold V.check; rw [if_pos f2]; split <;> simp
  unfold T.Has
  rcases c1 with c1 | c1 <;> rcases c2 with c2 | c2
  · right; rw [if_neg (by rw [c1]; simp), if_neg (by rw [c2]; simp), e]
  · left; rw [if_neg (by rw [c1]; simp), if_pos (by rw [c2]; rfl)]; exact c2
  · left; rw [if_pos (by rw [c1]; rfl)]; exact c1
  · left; rw [if_pos (by rw [c1]; rfl)]; exact c1
theorem T.every_has (v : V) : (T.every.Has v).1 = ((T.every.Has v).2 == 0) := by
  unfold T.Has
  rw [if_neg (by rw [T.every_check]; simp)]
  split
  · rename_i h; have : v.check ≠ 0 := by simpa using h
    simp [this]
  · have : T.every.has v = true := by unfold T.every; rw [T.has]; rfl
    simp [this]
theorem T.every_sub (t : T) : T.every.sub t = (t.kind == 1) := by
  obtain ⟨k, n, l⟩ := t
  unfold T.every
  rw [T.sub]
  by_cases h : k = 1
  · subst h; rfl
  · have e1 : (k == 1) = false := by simpa using h
    simp [T.kind, e1]
    intro e; exact absurd e.symm h

theorem TypesAny_pure (t : T) (v : V) (ht : t.fit) (hv : v.fit) : Pure env 6 [.d t.d, .d v.d] (.d (.v (.bool true))) := by
  have c0t := bigType_s t
  have c0v := big_s v
  have c1 := Has_pure (T.mk 1 [] []) v (tf_plain 1) hv true true
  have c2 := Sub_pure t (T.mk 1 [] []) ht (tf_plain 1) true true
  have c3 := Sub_pure (T.mk 1 [] []) t (tf_plain 1) ht true true
  have c4 := Has_pure t v ht hv true true
  have c5 := Has_pure (T.mk 9 [] [t]) (vListOf v) ⟨by simp, ht, trivial⟩ ⟨fits_of (by decide), fits_of (by decide), by simp, hv, trivial⟩ false false
  have hev : ((T.mk 1 [] []).Has v).1 = (((T.mk 1 [] []).Has v).2 == 0) := T.every_has v
  have hlaw : ((T.mk 1 [] []).Has v).2 = 0 → (t.Sub (T.mk 1 [] [])).2 = 0 → ((T.mk 1 [] []).Sub t).2 = 0 → (t.Has v).2 = 0 →
      (t.Sub (T.mk 1 [] [])).1 = true ∧ ((T.mk 1 [] []).Sub t).1 = (t.kind == 1) ∧ (((T.mk 9 [] [t]).Has (vListOf v)).2 = 2 ∨ (T.mk 9 [] [t]).Has (vListOf v) = ((t.Has v).1, 0)) := by
    intro e1 e2 e3 e4
    obtain ⟨h1, h2, h3⟩ := T.Sub_ok e2
    obtain ⟨h4, h5, h6⟩ := T.Sub_ok e3
    obtain ⟨h7, h8, h9⟩ := T.Has_ok e4
    rw [h3, h6, h9]
    exact ⟨T.sub_every t, T.every_sub t, T.list_check h7 h8⟩
  generalize (T.mk 1 [] []).Has v = r1 at *
  generalize t.Sub (T.mk 1 [] []) = r2 at *
  generalize (T.mk 1 [] []).Sub t = r3 at *
  generalize t.Has v = r4 at *
  generalize hr5 : (T.mk 9 [] [t]).Has (vListOf v) = r5 at *
  clear hr5
  rw [T.df_d] at c0t ⊢
  rw [V.df_d] at c0v ⊢
  obtain ⟨p1, e1⟩ := r1
  obtain ⟨p2, e2⟩ := r2
  obtain ⟨p3, e3⟩ := r3
  obtain ⟨p4, e4⟩ := r4
  obtain ⟨p5, e5⟩ := r5
  obtain ⟨ka, na, la⟩ := t
  obtain ⟨vk, flag, neg, digits, exp, bits, text, vnames, vlist⟩ := v
  refine pure_of_body Tryd.func6 rfl rfl rfl fun B hB => ?_
  refine swp_seq ?_
  refine swp_region ?_
  refine sops_go rfl (so_box (cs := [_, _, _]) rfl rfl rfl ?_)
  refine sops_go rfl (so_box (cs := [_, _, _, _, _, _, _, _, _]) rfl rfl rfl ?_)
  refine sops_go rfl (st_assign (v := .d _) rfl rfl rfl ?_)
  refine sops_nil ?_
  refine swp_seq ?_
  refine swp_seq ?_
  refine swp_region ?_
  first | refine sops_go rfl (so_load (v := .d (.agg [_, _, _])) rfl rfl rfl rfl rfl rfl rfl rfl ?_) | refine sops_go rfl (so_load (v := .agg [_, _, _]) rfl rfl rfl rfl rfl rfl rfl rfl ?_)
  refine sops_go rfl (st_callS rfl rfl (c0t) ⟨na_d _, trivial⟩ rfl fun r hr => ?_)
  obtain ⟨b1, rfl⟩ := hr
  refine sops_go rfl (st_move (v := .d _) rfl rfl rfl ?_)
  refine sops_case 18 rfl (fun hb18 => ?_) (fun hb18 => ?_)
  · refine sops_no rfl rfl rfl rfl rfl ?_
    refine sops_no rfl rfl rfl rfl rfl ?_
    refine sops_go rfl (st_pick (v := .d _) rfl rfl rfl rfl ?_)
    refine sops_nil ?_
    refine swp_condT rfl ?_
    refine swp_seq ?_
    refine swp_region ?_
    refine sops_go rfl (st_assign (v := .d _) rfl rfl rfl ?_)
    refine sops_nil ?_
    refine swp_ret ?_
    with_reducible refine after_ret ?_
    exact fin_b rfl rfl rfl
  · first | refine sops_yes rfl rfl rfl rfl (so_load (v := .d (.agg [_, _, _, _, _, _, _, _, _])) rfl rfl rfl rfl rfl rfl rfl rfl ?_) | refine sops_yes rfl rfl rfl rfl (so_load (v := .agg [_, _, _, _, _, _, _, _, _]) rfl rfl rfl rfl rfl rfl rfl rfl ?_)
    refine sops_yes rfl rfl rfl rfl (st_callS rfl rfl (c0v) ⟨na_d _, trivial⟩ rfl fun r hr => ?_)
    obtain ⟨b2, rfl⟩ := hr
    refine sops_go rfl (st_pick (v := .d _) rfl rfl rfl rfl ?_)
    refine sops_nil ?_
    refine swp_cond _ rfl (fun hc21 => ?_) (fun hc21 => ?_)
    · refine swp_seq ?_
      refine swp_region ?_
      refine sops_go rfl (st_assign (v := .d _) rfl rfl rfl ?_)
      refine sops_nil ?_
      refine swp_ret ?_
      with_reducible refine after_ret ?_
      exact fin_b rfl rfl rfl
    · refine swp_skip ?_
      refine swp_seq ?_
      refine swp_region ?_
      refine sops_go rfl (st_call rfl rfl (plain_pure _) ⟨na_d _, trivial⟩ rfl ?_)
      refine sops_go rfl (so_alloc (cs := [_, _, _]) rfl rfl rfl rfl ?_)
      refine sops_go rfl (so_store rfl rfl rfl rfl rfl rfl rfl rfl rfl (zs := [_, _, _]) rfl ?_)
      refine sops_nil ?_
      refine swp_seq ?_
      refine swp_region ?_
      first | refine sops_go rfl (so_load (v := .d (.agg [_, _, _])) rfl rfl rfl rfl rfl rfl rfl rfl ?_) | refine sops_go rfl (so_load (v := .agg [_, _, _]) rfl rfl rfl rfl rfl rfl rfl rfl ?_)
      first | refine sops_go rfl (so_load (v := .d (.agg [_, _, _, _, _, _, _, _, _])) rfl rfl rfl rfl rfl rfl rfl rfl ?_) | refine sops_go rfl (so_load (v := .agg [_, _, _, _, _, _, _, _, _]) rfl rfl rfl rfl rfl rfl rfl rfl ?_)
      refine sops_go rfl (st_call rfl rfl (c1) ⟨na_d _, na_d _, trivial⟩ rfl ?_)
      refine sops_go rfl (st_move (v := .tup _) rfl rfl rfl ?_)
      refine sops_go rfl (st_extract (c := .d _) rfl rfl rfl rfl ?_)
      refine sops_go rfl (st_extract (c := .d _) rfl rfl rfl rfl ?_)
      refine sops_go rfl (st_assign (v := .d _) rfl rfl rfl ?_)
      refine sops_go rfl (st_assign (v := .d _) rfl rfl rfl ?_)
      refine sops_nil ?_
      refine swp_seq ?_
      refine swp_region ?_
      first | refine sops_go rfl (so_load (v := .d (.agg [_, _, _])) rfl rfl rfl rfl rfl rfl rfl rfl ?_) | refine sops_go rfl (so_load (v := .agg [_, _, _]) rfl rfl rfl rfl rfl rfl rfl rfl ?_)
      first | refine sops_go rfl (so_load (v := .d (.agg [_, _, _])) rfl rfl rfl rfl rfl rfl rfl rfl ?_) | refine sops_go rfl (so_load (v := .agg [_, _, _]) rfl rfl rfl rfl rfl rfl rfl rfl ?_)
      refine sops_go rfl (st_call rfl rfl (c2) ⟨na_d _, na_d _, trivial⟩ rfl ?_)
      refine sops_go rfl (st_move (v := .tup _) rfl rfl rfl ?_)
      refine sops_go rfl (st_extract (c := .d _) rfl rfl rfl rfl ?_)
      refine sops_go rfl (st_extract (c := .d _) rfl rfl rfl rfl ?_)
      refine sops_go rfl (st_assign (v := .d _) rfl rfl rfl ?_)
      refine sops_go rfl (st_assign (v := .d _) rfl rfl rfl ?_)
      refine sops_nil ?_
      refine swp_seq ?_
      refine swp_region ?_
      first | refine sops_go rfl (so_load (v := .d (.agg [_, _, _])) rfl rfl rfl rfl rfl rfl rfl rfl ?_) | refine sops_go rfl (so_load (v := .agg [_, _, _]) rfl rfl rfl rfl rfl rfl rfl rfl ?_)
      first | refine sops_go rfl (so_load (v := .d (.agg [_, _, _])) rfl rfl rfl rfl rfl rfl rfl rfl ?_) | refine sops_go rfl (so_load (v := .agg [_, _, _]) rfl rfl rfl rfl rfl rfl rfl rfl ?_)
      refine sops_go rfl (st_call rfl rfl (c3) ⟨na_d _, na_d _, trivial⟩ rfl ?_)
      refine sops_go rfl (st_move (v := .tup _) rfl rfl rfl ?_)
      refine sops_go rfl (st_extract (c := .d _) rfl rfl rfl rfl ?_)
      refine sops_go rfl (st_extract (c := .d _) rfl rfl rfl rfl ?_)
      refine sops_go rfl (st_assign (v := .d _) rfl rfl rfl ?_)
      refine sops_go rfl (st_assign (v := .d _) rfl rfl rfl ?_)
      refine sops_nil ?_
      refine swp_seq ?_
      refine swp_region ?_
      first | refine sops_go rfl (so_load (v := .d (.agg [_, _, _])) rfl rfl rfl rfl rfl rfl rfl rfl ?_) | refine sops_go rfl (so_load (v := .agg [_, _, _]) rfl rfl rfl rfl rfl rfl rfl rfl ?_)
      first | refine sops_go rfl (so_load (v := .d (.agg [_, _, _, _, _, _, _, _, _])) rfl rfl rfl rfl rfl rfl rfl rfl ?_) | refine sops_go rfl (so_load (v := .agg [_, _, _, _, _, _, _, _, _]) rfl rfl rfl rfl rfl rfl rfl rfl ?_)
      refine sops_go rfl (st_call rfl rfl (c4) ⟨na_d _, na_d _, trivial⟩ rfl ?_)
      refine sops_go rfl (st_move (v := .tup _) rfl rfl rfl ?_)
      refine sops_go rfl (st_extract (c := .d _) rfl rfl rfl rfl ?_)
      refine sops_go rfl (st_extract (c := .d _) rfl rfl rfl rfl ?_)
      refine sops_go rfl (st_assign (v := .d _) rfl rfl rfl ?_)
      refine sops_go rfl (st_assign (v := .d _) rfl rfl rfl ?_)
      refine sops_nil ?_
      refine swp_seq ?_
      refine swp_region ?_
      first | refine sops_go rfl (so_load (v := .d (.agg [_, _, _])) rfl rfl rfl rfl rfl rfl rfl rfl ?_) | refine sops_go rfl (so_load (v := .agg [_, _, _]) rfl rfl rfl rfl rfl rfl rfl rfl ?_)
      refine sops_go rfl (so_buildSlice (rows := [[_, _, _]]) rfl rfl rfl rfl rfl rfl rfl rfl rfl ?_)
      first | refine sops_go rfl (so_build (v := .d (.agg [_, _, _])) rfl rfl rfl rfl rfl rfl rfl ?_) | refine sops_go rfl (so_build (v := .agg [_, _, _]) rfl rfl rfl rfl rfl rfl rfl ?_)
      first | refine sops_go rfl (so_load (v := .d (.agg [_, _, _, _, _, _, _, _, _])) rfl rfl rfl rfl rfl rfl rfl rfl ?_) | refine sops_go rfl (so_load (v := .agg [_, _, _, _, _, _, _, _, _]) rfl rfl rfl rfl rfl rfl rfl rfl ?_)
      refine sops_go rfl (so_buildSlice (rows := [[_, _, _, _, _, _, _, _, _]]) rfl rfl rfl rfl rfl rfl rfl rfl rfl ?_)
      first | refine sops_go rfl (so_build (v := .d (.agg [_, _, _, _, _, _, _, _, _])) rfl rfl rfl rfl rfl rfl rfl ?_) | refine sops_go rfl (so_build (v := .agg [_, _, _, _, _, _, _, _, _]) rfl rfl rfl rfl rfl rfl rfl ?_)
      refine sops_go rfl (st_call rfl rfl (c5) ⟨na_agg ⟨na_d _, na_nilF false, na_row (rows := T.rows [.mk ka na la]) rfl rfl, trivial⟩, na_agg ⟨na_d _, na_d _, na_d _, na_d _, na_d _, na_d _, na_d _, na_nilF false, na_row (rows := V.rows [.mk vk flag neg digits exp bits text vnames vlist]) rfl rfl, trivial⟩, trivial⟩ rfl ?_)
      refine sops_go rfl (st_move (v := .tup _) rfl rfl rfl ?_)
      refine sops_go rfl (st_extract (c := .d _) rfl rfl rfl rfl ?_)
      refine sops_go rfl (st_extract (c := .d _) rfl rfl rfl rfl ?_)
      refine sops_go rfl (st_assign (v := .d _) rfl rfl rfl ?_)
      refine sops_go rfl (st_assign (v := .d _) rfl rfl rfl ?_)
      refine sops_nil ?_
      refine swp_seq ?_
      refine swp_seq ?_
      refine swp_region ?_
      refine sops_go rfl (st_move (v := .d _) rfl rfl rfl ?_)
      refine sops_go rfl (st_bin rfl rfl rfl rfl rfl ?_)
      refine sops_go rfl (st_move (v := .d _) rfl rfl rfl ?_)
      refine' sops_or (d := 59) (p := 62) [60, 61] 3 rfl rfl rfl (fun hb59 => ?a59) (fun hb59 => ?b59) ?_
      case a59 =>
        refine sops_yes rfl rfl rfl rfl (st_move (v := .d _) rfl rfl rfl ?_)
        refine sops_yes rfl rfl rfl rfl (st_bin rfl rfl rfl rfl rfl ?_)
        refine sops_go rfl (st_pick (v := .d _) rfl rfl rfl rfl ?_)
        refine sops_nil ?_
        exact ⟨rfl, rfl, rfl, rfl, [_, _], rfl, rfl⟩
      case b59 =>
        refine sops_no rfl rfl rfl rfl rfl ?_
        refine sops_no rfl rfl rfl rfl rfl ?_
        refine sops_go rfl (st_pick (v := .d _) rfl rfl rfl rfl ?_)
        refine sops_nil ?_
        exact ⟨rfl, rfl, rfl, rfl, [_, _], rfl, rfl⟩
      refine sops_go rfl (st_move (v := .d _) rfl rfl rfl ?_)
      refine' sops_or (d := 63) (p := 66) [64, 65] 3 rfl rfl rfl (fun hb63 => ?a63) (fun hb63 => ?b63) ?_
      case a63 =>
        refine sops_yes rfl rfl rfl rfl (st_move (v := .d _) rfl rfl rfl ?_)
        refine sops_yes rfl rfl rfl rfl (st_bin rfl rfl rfl rfl rfl ?_)
        refine sops_go rfl (st_pick (v := .d _) rfl rfl rfl rfl ?_)
        refine sops_nil ?_
        exact ⟨rfl, rfl, rfl, rfl, [_, _], rfl, rfl⟩
      case b63 =>
        refine sops_no rfl rfl rfl rfl rfl ?_
        refine sops_no rfl rfl rfl rfl rfl ?_
        refine sops_go rfl (st_pick (v := .d _) rfl rfl rfl rfl ?_)
        refine sops_nil ?_
        exact ⟨rfl, rfl, rfl, rfl, [_, _], rfl, rfl⟩
      refine sops_go rfl (st_move (v := .d _) rfl rfl rfl ?_)
      refine' sops_or (d := 67) (p := 70) [68, 69] 3 rfl rfl rfl (fun hb67 => ?a67) (fun hb67 => ?b67) ?_
      case a67 =>
        refine sops_yes rfl rfl rfl rfl (st_move (v := .d _) rfl rfl rfl ?_)
        refine sops_yes rfl rfl rfl rfl (st_bin rfl rfl rfl rfl rfl ?_)
        refine sops_go rfl (st_pick (v := .d _) rfl rfl rfl rfl ?_)
        refine sops_nil ?_
        exact ⟨rfl, rfl, rfl, rfl, [_, _], rfl, rfl⟩
      case b67 =>
        refine sops_no rfl rfl rfl rfl rfl ?_
        refine sops_no rfl rfl rfl rfl rfl ?_
        refine sops_go rfl (st_pick (v := .d _) rfl rfl rfl rfl ?_)
        refine sops_nil ?_
        exact ⟨rfl, rfl, rfl, rfl, [_, _], rfl, rfl⟩
      refine sops_nil ?_
      refine swp_cond _ rfl (fun hc70 => ?_) (fun hc70 => ?_)
      · refine swp_seq ?_
        refine swp_region ?_
        refine sops_go rfl (st_call rfl rfl (awake_pure) trivial rfl ?_)
        refine sops_go rfl (st_move (v := .d _) rfl rfl rfl ?_)
        refine' sops_and (d := 72) (p := 77) [73, 74, 75, 76] 5 rfl rfl rfl (fun hb72 => ?a72) (fun hb72 => ?b72) ?_
        case a72 =>
          refine sops_yes rfl rfl rfl rfl (st_move (v := .d _) rfl rfl rfl ?_)
          refine sops_yes rfl rfl rfl rfl (st_move (v := .d _) rfl rfl rfl ?_)
          refine sops_yes rfl rfl rfl rfl (st_bin rfl rfl rfl rfl rfl ?_)
          refine sops_yes rfl rfl rfl rfl (so_eqB rfl rfl rfl rfl rfl rfl rfl ?_)
          refine sops_go rfl (st_pick (v := .d _) rfl rfl rfl rfl ?_)
          refine sops_nil ?_
          exact ⟨rfl, rfl, rfl, rfl, [_, _, _, _], rfl, rfl⟩
        case b72 =>
          refine sops_no rfl rfl rfl rfl rfl ?_
          refine sops_no rfl rfl rfl rfl rfl ?_
          refine sops_no rfl rfl rfl rfl rfl ?_
          refine sops_no rfl rfl rfl rfl rfl ?_
          refine sops_go rfl (st_pick (v := .d _) rfl rfl rfl rfl ?_)
          refine sops_nil ?_
          exact ⟨rfl, rfl, rfl, rfl, [_, _, _, _], rfl, rfl⟩
        refine sops_go rfl (st_assign (v := .d _) rfl rfl rfl ?_)
        refine sops_nil ?_
        refine swp_ret ?_
        with_reducible refine after_ret ?_
        refine fin_b rfl rfl ?_
        simp only at hev
        rw [hev]; simp
      · have hlaw : p2 = true ∧ p3 = (ka == 1) ∧ (e5 = 2 ∨ (p5, e5) = (p4, 0)) := by
          simp only [Bool.or_eq_false_iff, bne_eq_false_iff_eq] at hc70
          exact hlaw hc70.1.1.1 hc70.1.1.2 hc70.1.2 hc70.2
        have hp1 : p1 = true := by
          simp only [Bool.or_eq_false_iff, bne_eq_false_iff_eq] at hc70
          have h0 : e1 = 0 := hc70.1.1.1
          have hev : p1 = (e1 == 0) := hev
          rw [hev, h0]; rfl
        obtain ⟨rfl, rfl, hlaw2⟩ := hlaw
        subst hp1
        refine swp_skip ?_
        refine swp_seq ?_
        refine swp_region ?_
        refine sops_go rfl (st_call rfl rfl (awake_pure) trivial rfl ?_)
        refine sops_go rfl (st_move (v := .d _) rfl rfl rfl ?_)
        refine' sops_and (d := 79) (p := 81) [80] 2 rfl rfl rfl (fun hb79 => ?a79) (fun hb79 => ?b79) ?_
        case a79 =>
          refine sops_yes rfl rfl rfl rfl (st_move (v := .d _) rfl rfl rfl ?_)
          refine sops_go rfl (st_pick (v := .d _) rfl rfl rfl rfl ?_)
          refine sops_nil ?_
          exact ⟨rfl, rfl, rfl, rfl, [_], rfl, rfl⟩
        case b79 =>
          refine sops_no rfl rfl rfl rfl rfl ?_
          refine sops_go rfl (st_pick (v := .d _) rfl rfl rfl rfl ?_)
          refine sops_nil ?_
          exact ⟨rfl, rfl, rfl, rfl, [_], rfl, rfl⟩
        refine sops_go rfl (st_move (v := .d _) rfl rfl rfl ?_)
        refine' sops_and (d := 82) (p := 84) [83] 2 rfl rfl rfl (fun hb82 => ?a82) (fun hb82 => ?b82) ?_
        case a82 =>
          refine sops_yes rfl rfl rfl rfl (st_move (v := .d _) rfl rfl rfl ?_)
          refine sops_go rfl (st_pick (v := .d _) rfl rfl rfl rfl ?_)
          refine sops_nil ?_
          exact ⟨rfl, rfl, rfl, rfl, [_], rfl, rfl⟩
        case b82 =>
          refine sops_no rfl rfl rfl rfl rfl ?_
          refine sops_go rfl (st_pick (v := .d _) rfl rfl rfl rfl ?_)
          refine sops_nil ?_
          exact ⟨rfl, rfl, rfl, rfl, [_], rfl, rfl⟩
        refine sops_go rfl (st_move (v := .d _) rfl rfl rfl ?_)
        refine' sops_and (d := 85) (p := 91) [86, 87, 88, 89, 90] 6 rfl rfl rfl (fun hb85 => ?a85) (fun hb85 => ?b85) ?_
        case a85 =>
          refine sops_yes rfl rfl rfl rfl (st_move (v := .d _) rfl rfl rfl ?_)
          first | refine sops_yes rfl rfl rfl rfl (so_fieldAddr (v := .p _ _ _) rfl rfl rfl rfl rfl rfl rfl rfl rfl rfl ?_) | refine sops_yes rfl rfl rfl rfl (so_fieldAddr (v := .dp _ _) rfl rfl rfl rfl rfl rfl rfl rfl rfl rfl ?_) | refine sops_yes rfl rfl rfl rfl (so_fieldAddr (v := .pe _ _ _ _ _) rfl rfl rfl rfl rfl rfl rfl rfl rfl rfl ?_)
          refine sops_yes rfl rfl rfl rfl (so_load (v := .d _) rfl rfl rfl rfl rfl rfl rfl rfl ?_)
          refine sops_yes rfl rfl rfl rfl (st_bin rfl rfl rfl rfl rfl ?_)
          refine sops_yes rfl rfl rfl rfl (so_eqB rfl rfl rfl rfl rfl rfl rfl ?_)
          refine sops_go rfl (st_pick (v := .d _) rfl rfl rfl rfl ?_)
          refine sops_nil ?_
          exact ⟨rfl, rfl, rfl, rfl, [_, _, _, _, _], rfl, rfl⟩
        case b85 =>
          refine sops_no rfl rfl rfl rfl rfl ?_
          refine sops_no rfl rfl rfl rfl rfl ?_
          refine sops_no rfl rfl rfl rfl rfl ?_
          refine sops_no rfl rfl rfl rfl rfl ?_
          refine sops_no rfl rfl rfl rfl rfl ?_
          refine sops_go rfl (st_pick (v := .d _) rfl rfl rfl rfl ?_)
          refine sops_nil ?_
          exact ⟨rfl, rfl, rfl, rfl, [_, _, _, _, _], rfl, rfl⟩
        refine sops_go rfl (st_move (v := .d _) rfl rfl rfl ?_)
        refine' sops_and (d := 92) (p := 104) [93, 94, 95, 96, 97, 98, 99, 100, 101, 102, 103] 12 rfl rfl rfl (fun hb92 => ?a92) (fun hb92 => ?b92) ?_
        case a92 =>
          refine sops_yes rfl rfl rfl rfl (st_move (v := .d _) rfl rfl rfl ?_)
          refine sops_yes rfl rfl rfl rfl (st_bin rfl rfl rfl rfl rfl ?_)
          refine sops_yes rfl rfl rfl rfl (st_move (v := .d _) rfl rfl rfl ?_)
          refine' sops_or (d := 95) (p := 103) [96, 97, 98, 99, 100, 101, 102] 8 rfl rfl rfl (fun hb95 => ?a95) (fun hb95 => ?b95) ?_
          case a95 =>
            refine sops_yes rfl rfl rfl rfl (st_move (v := .d _) rfl rfl rfl ?_)
            refine sops_yes rfl rfl rfl rfl (st_bin rfl rfl rfl rfl rfl ?_)
            refine sops_yes rfl rfl rfl rfl (st_move (v := .d _) rfl rfl rfl ?_)
            refine' sops_and (d := 98) (p := 102) [99, 100, 101] 4 rfl rfl rfl (fun hb98 => ?a98) (fun hb98 => ?b98) ?_
            case a98 =>
              refine sops_yes rfl rfl rfl rfl (st_move (v := .d _) rfl rfl rfl ?_)
              refine sops_yes rfl rfl rfl rfl (st_move (v := .d _) rfl rfl rfl ?_)
              refine sops_yes rfl rfl rfl rfl (so_eqB rfl rfl rfl rfl rfl rfl rfl ?_)
              refine sops_yes rfl rfl rfl rfl (st_pick (v := .d _) rfl rfl rfl rfl ?_)
              refine sops_nil ?_
              exact ⟨rfl, rfl, rfl, rfl, [_, _, _], rfl, rfl⟩
            case b98 =>
              refine sops_no rfl rfl rfl rfl rfl ?_
              refine sops_no rfl rfl rfl rfl rfl ?_
              refine sops_no rfl rfl rfl rfl rfl ?_
              refine sops_yes rfl rfl rfl rfl (st_pick (v := .d _) rfl rfl rfl rfl ?_)
              refine sops_nil ?_
              exact ⟨rfl, rfl, rfl, rfl, [_, _, _], rfl, rfl⟩
            refine sops_yes rfl rfl rfl rfl (st_pick (v := .d _) rfl rfl rfl rfl ?_)
            refine sops_nil ?_
            exact ⟨rfl, rfl, rfl, rfl, [_, _, _, _, _, _, _], rfl, rfl⟩
          case b95 =>
            refine sops_no rfl rfl rfl rfl rfl ?_
            refine sops_no rfl rfl rfl rfl rfl ?_
            refine sops_no rfl rfl rfl rfl rfl ?_
            refine sops_un rfl rfl rfl rfl rfl ?_
            refine sops_un rfl rfl rfl rfl rfl ?_
            refine sops_un rfl rfl rfl rfl rfl ?_
            refine sops_no rfl rfl rfl rfl rfl ?_
            refine sops_yes rfl rfl rfl rfl (st_pick (v := .d _) rfl rfl rfl rfl ?_)
            refine sops_nil ?_
            exact ⟨rfl, rfl, rfl, rfl, [_, _, _, _, _, _, _], rfl, rfl⟩
          refine sops_go rfl (st_pick (v := .d _) rfl rfl rfl rfl ?_)
          refine sops_nil ?_
          exact ⟨rfl, rfl, rfl, rfl, [_, _, _, _, _, _, _, _, _, _, _], rfl, rfl⟩
        case b92 =>
          refine sops_no rfl rfl rfl rfl rfl ?_
          refine sops_no rfl rfl rfl rfl rfl ?_
          refine sops_no rfl rfl rfl rfl rfl ?_
          refine sops_un rfl rfl rfl rfl rfl ?_
          refine sops_un rfl rfl rfl rfl rfl ?_
          refine sops_un rfl rfl rfl rfl rfl ?_
          refine sops_un rfl rfl rfl rfl rfl ?_
          refine sops_un rfl rfl rfl rfl rfl ?_
          refine sops_un rfl rfl rfl rfl rfl ?_
          refine sops_un rfl rfl rfl rfl rfl ?_
          refine sops_no rfl rfl rfl rfl rfl ?_
          refine sops_go rfl (st_pick (v := .d _) rfl rfl rfl rfl ?_)
          refine sops_nil ?_
          exact ⟨rfl, rfl, rfl, rfl, [_, _, _, _, _, _, _, _, _, _, _], rfl, rfl⟩
        refine sops_go rfl (st_assign (v := .d _) rfl rfl rfl ?_)
        refine sops_nil ?_
        refine swp_ret ?_
        refine fin_b rfl rfl ?_
        rcases hlaw2 with h | h
        · simp [h]
        · simp only [Prod.mk.injEq] at h
          obtain ⟨rfl, rfl⟩ := h
          simp
end Go.Proofs.YtdcpnpcmgfmenaaDoor
/-
  What comes in, read as trees. Conditions: none.
-/
set_option linter.unusedVariables false
set_option linter.unusedSimpArgs false
set_option maxRecDepth 100000
namespace Go.Proofs.YtdcpnpcmgfmenaaDoor
open Go Go.Proofs.YtdcpnpcmgfmenaaDoor.Lg Go.ChangeShapes Go.WideShapes Go.RowKit

def Lt (W : World) : Nat → Prop := fun b => b < W.heap.size
def DRs (W : World) (ds : List D) (cs : List Value) : Prop := cs.length = ds.length ∧ ∀ (i : Nat) c v, ds[i]? = some c → cs[i]? = some v → DR W (Lt W) (Lt W) c v

theorem choose_list {α : Type} {p : Nat → α → Prop} : ∀ n : Nat, (∀ i, i < n → ∃ y, p i y) → ∃ l : List α, l.length = n ∧ ∀ (i : Nat) (h : i < l.length), p i l[i]
  | 0, _ => ⟨[], rfl, fun i h => absurd h (by simp)⟩
  | n + 1, h => by
    obtain ⟨l, h1, h2⟩ := choose_list n fun i hi => h i (by omega)
    obtain ⟨y, hy⟩ := h n (by omega)
    refine ⟨l ++ [y], by simp [h1], fun i hi => ?_⟩
    by_cases e : i < l.length
    · rw [List.getElem_append_left e]; exact h2 i e
    · have : i = l.length := by simp at hi; omega
      subst this
      simp [h1]; exact hy

section
variable {H : Type} {enc : TypeId × Value → H} {W : World} {base : Nat} {sp : Nat → Bool} {held : Bool}

theorem drs_one {d : D} {v : Value} (h : DR W (Lt W) (Lt W) d v) : DRs W [d] [v] := ⟨rfl, fun i c v' h1 h2 => by
  cases i with
  | zero => simp at h1 h2; subst h1; subst h2; exact h
  | succ i => simp at h1⟩

theorem read_slice {α : Type} {cells : α → List D} {Q : α → Prop} {t e sz : Nat} (ht : Tryd.prog.underlying t = some (.slice e)) (hsz : Tryd.prog.cellsOf e = sz) (h0 : 0 < sz) (hc : ∀ y, (cells y).length = sz) {n : Nat} {cs : List Value} {x : DataW H × List MemPlace}
    (h : DataW.trod enc Tryd.prog W base sp held n t cs = some x) (rd : ∀ m, m < n → ∀ cs x, DataW.trod enc Tryd.prog W base sp held m e cs = some x → ∃ y : α, Q y ∧ DRs W (cells y) cs) :
    ∃ l : List α, (∀ y ∈ l, Q y) ∧ DRs W [.sl true (l.map cells)] cs := by
  rcases DataW.trod_slice ht h with ⟨rfl, _⟩ | ⟨a, len, cap, elems, rest, m, rfl, rfl, _, hb, hl, hm, hlen, hel, _, _⟩
  · exact ⟨[], by simp, drs_one (.nil _ _ _)⟩
  rw [hsz] at hel
  obtain ⟨l, hll, hl'⟩ := choose_list (p := fun i y => Q y ∧ ∃ cs', W.cells? base (a.add (i * sz)) sz = some cs' ∧ DRs W (cells y) cs') len fun i hi => by
    have := hel i hi
    rw [List.getElem?_eq_getElem (by omega)] at this
    obtain ⟨cs', h1, h2⟩ := Option.bind_eq_some_iff.1 this
    obtain ⟨y, hy, hd⟩ := rd m (by omega) cs' _ h2
    exact ⟨y, hy, cs', h1, hd⟩
  refine ⟨l, fun y hy => ?_, ?_⟩
  · obtain ⟨i, hi, rfl⟩ := List.mem_iff_getElem.1 hy
    exact (hl' i hi).1
  · by_cases hz : len = 0
    · subst hz
      have : l = [] := List.eq_nil_of_length_eq_zero hll
      subst this
      exact drs_one (.nil _ _ _)
    · have hspot : ∃ b off, a = ⟨b, off, none⟩ := by
        obtain ⟨_, cs', h1, h2⟩ := hl' 0 (by omega)
        obtain ⟨_, h3, h4⟩ := World.cells?_some h1
        have h5 := h4 0 h0
        rw [List.getElem?_eq_getElem (by omega)] at h5
        have e0 : (a.add (0 * sz)).add 0 = a := by simp [Addr.add]
        rw [e0] at h5
        obtain ⟨b, off, s⟩ := a
        cases s with
        | none => exact ⟨b, off, rfl⟩
        | some s => simp [World.cell?] at h5; split at h5 <;> simp at h5
      obtain ⟨b, off, rfl⟩ := hspot
      have hcell : ∀ (q : Nat) (hq : q < l.length) (r : Nat), r < sz → ∃ v, W.cell? ⟨b, off + (q * sz + r), none⟩ = some v ∧ ∀ c, (cells l[q])[r]? = some c → DR W (Lt W) (Lt W) c v := by
        intro q hq r hr
        obtain ⟨_, cs', h1, h2, h3⟩ := hl' q hq
        obtain ⟨_, h4, h5⟩ := World.cells?_some h1
        have h6 := h5 r hr
        have e0 : ((⟨b, off, none⟩ : Addr).add (q * sz)).add r = ⟨b, off + (q * sz + r), none⟩ := by rw [add_mk, add_mk, Nat.add_assoc]
        rw [e0, List.getElem?_eq_getElem (by omega)] at h6
        exact ⟨_, h6, fun c hc => h3 r c _ hc (List.getElem?_eq_getElem (by omega))⟩
      have hlt : b < W.heap.size := by
        obtain ⟨v, h1, _⟩ := hcell 0 (by omega) 0 h0
        unfold World.cell? at h1
        split at h1
        · rename_i hh; exact (Array.getElem?_eq_some_iff.1 hh).1
        · cases h1
      have hrow : ∀ r ∈ l.map cells, r.length = sz := by
        intro r hr; obtain ⟨y, _, rfl⟩ := List.mem_map.1 hr; exact hc y
      have inv : ∀ (i : Nat) c, (l.map cells).flatten[i]? = some c → ∃ v, W.cell? ⟨b, off + i, none⟩ = some v ∧ DR W (Lt W) (Lt W) c v := by
        intro i c hi
        have hlen' := flat_length hrow
        have hi' : i < (l.map cells).length * sz := by rw [← hlen']; exact (List.getElem?_eq_some_iff.1 hi).1
        have hq : i / sz < l.length := by
          have := Nat.div_lt_of_lt_mul (m := i) (n := sz) (k := (l.map cells).length) (by rw [Nat.mul_comm]; exact hi')
          simpa using this
        have hr : i % sz < sz := Nat.mod_lt _ h0
        have e : i / sz * sz + i % sz = i := by rw [Nat.mul_comm]; exact Nat.div_add_mod i sz
        have hf := flat_at (es := l.map cells) hrow (i := i / sz) (row := cells l[i / sz]) (by simp [hq]) hr
        rw [e] at hf
        obtain ⟨v, h1, h2⟩ := hcell _ hq _ hr
        rw [e] at h1
        exact ⟨v, h1, h2 c (by rw [← hf]; exact hi)⟩
      have hsl := DR.sl (w := W) (I := Lt W) (J := Lt W) true (l.map cells) b off cap (fun i => (W.cell? ⟨b, off + i, none⟩).getD undef) (fun _ => hlt) hlt (by simp; omega) (fun i c hi => by
        obtain ⟨v, h1, _⟩ := inv i c hi
        simp only [h1, Option.getD_some]) (fun i c hi => by
        obtain ⟨v, h1, h2⟩ := inv i c hi
        simp only [h1, Option.getD_some]; exact h2)
      have el : (l.map cells).length = len := by simp [hll]
      rw [el] at hsl
      exact drs_one hsl

theorem read_str {t : Nat} (ht : Tryd.prog.underlying t = some .string) {n : Nat} {cs : List Value} {x : DataW H × List MemPlace} (h : DataW.trod enc Tryd.prog W base sp held n t cs = some x) : ∃ s : ByteArray, fits s ∧ DRs W [.v (.string s)] cs := by
  obtain ⟨s, rfl, _, hs⟩ := DataW.trod_string ht h
  exact ⟨s, by simpa [fits, maxLen] using hs, drs_one (.v _)⟩
theorem read_int {t : Nat} {k : IntKind} (ht : Tryd.prog.underlying t = some (.int k)) {n : Nat} {cs : List Value} {x : DataW H × List MemPlace} (h : DataW.trod enc Tryd.prog W base sp held n t cs = some x) : ∃ z : Int, DRs W [.v (.int k z)] cs := by
  obtain ⟨z, rfl, _, _⟩ := DataW.trod_int ht h
  exact ⟨z, drs_one (.v _)⟩
theorem read_bool {t : Nat} (ht : Tryd.prog.underlying t = some .bool) {n : Nat} {cs : List Value} {x : DataW H × List MemPlace} (h : DataW.trod enc Tryd.prog W base sp held n t cs = some x) : ∃ z : Bool, DRs W [.v (.bool z)] cs := by
  obtain ⟨z, rfl, _⟩ := DataW.trod_bool ht h
  exact ⟨z, drs_one (.v _)⟩

/-- A part of the cells at a place. -/
theorem drs_cons {d : D} {ds : List D} {cs : List Value} (h1 : DRs W [d] (cs.take 1)) (h2 : DRs W ds (cs.drop 1)) (hl : cs.length = ds.length + 1) : DRs W (d :: ds) cs := by
  refine ⟨by simp [hl], fun i c v hc hv => ?_⟩
  cases i with
  | zero => exact h1.2 0 c v (by simpa using hc) (by simpa using hv)
  | succ i => exact h2.2 i c v (by simpa using hc) (by simpa [Nat.add_comm] using hv)

theorem read_strs {t : Nat} (ht : Tryd.prog.underlying t = some (.slice 9)) {n : Nat} {cs : List Value} {x : DataW H × List MemPlace} (h : DataW.trod enc Tryd.prog W base sp held n t cs = some x) : ∃ l : List ByteArray, (∀ s ∈ l, fits s) ∧ DRs W [.sl true (strRows l)] cs :=
  read_slice (cells := fun s => [.v (.string s)]) (Q := fits) ht (by kernel_rfl) (by decide) (fun _ => rfl) h fun m _ cs x hx => read_str Tryd.underlying9 hx
theorem read_T : ∀ (n : Nat) (cs : List Value) (x : DataW H × List MemPlace), DataW.trod enc Tryd.prog W base sp held n 26 cs = some x → ∃ t : T, t.fit ∧ DRs W t.cells cs := by
  intro n
  induction n using Nat.strongRecOn with
  | _ n ih =>
    intro cs x h
    obtain ⟨xs, m, rfl, _, hl, hxl, hf⟩ := DataW.trod_struct Tryd.underlying26 h
    have c : Tryd.prog.cellsOf 26 = 3 := by kernel_rfl
    rw [c] at hl
    have g : ∀ i, i < 3 → ∃ y, xs[i]? = some y := fun i hi => ⟨xs[i]'(by rw [hxl]; exact hi), List.getElem?_eq_getElem _⟩
    obtain ⟨y0, e0⟩ := g 0 (by omega)
    obtain ⟨y1, e1⟩ := g 1 (by omega)
    obtain ⟨y2, e2⟩ := g 2 (by omega)
    have f0 := hf 0 _ rfl
    have f1 := hf 1 _ rfl
    have f2 := hf 2 _ rfl
    rw [e0] at f0
    rw [e1] at f1
    rw [e2] at f2
    obtain ⟨z, hz⟩ := read_int Tryd.underlying22 f0
    obtain ⟨names, hn1, hn2⟩ := read_strs Tryd.underlying23 f1
    obtain ⟨list, hl1, hl2⟩ := read_slice (cells := T.cells) (Q := T.fit) Tryd.underlying24 c (by decide) T.cells_length f2 fun m' hm' cs x hx => ih m' (by omega) cs x hx
    refine ⟨.mk z names list, ⟨hn1, (T.fitL_iff list).2 hl1⟩, ?_⟩
    rw [← T.rows_eq] at hl2
    match cs, hl with
    | [c0, c1, c2], _ => exact drs_cons hz (drs_cons hn2 (drs_cons hl2 ⟨rfl, fun i c v hc => by simp at hc⟩ rfl) rfl) rfl
theorem read_V : ∀ (n : Nat) (cs : List Value) (x : DataW H × List MemPlace), DataW.trod enc Tryd.prog W base sp held n 41 cs = some x → ∃ t : V, t.fit ∧ DRs W t.cells cs := by
  intro n
  induction n using Nat.strongRecOn with
  | _ n ih =>
    intro cs x h
    obtain ⟨xs, m, rfl, _, hl, hxl, hf⟩ := DataW.trod_struct Tryd.underlying41 h
    have c : Tryd.prog.cellsOf 41 = 9 := by kernel_rfl
    rw [c] at hl
    have g : ∀ i, i < 7 → ∃ y, xs[i]? = some y := fun i hi => ⟨xs[i]'(by rw [hxl]; exact hi), List.getElem?_eq_getElem _⟩
    obtain ⟨y0, e0⟩ := g 0 (by omega)
    obtain ⟨y1, e1⟩ := g 1 (by omega)
    obtain ⟨y2, e2⟩ := g 2 (by omega)
    obtain ⟨y3, e3⟩ := g 3 (by omega)
    obtain ⟨y4, e4⟩ := g 4 (by omega)
    obtain ⟨y5, e5⟩ := g 5 (by omega)
    obtain ⟨y6, e6⟩ := g 6 (by omega)
    have f0 := hf 0 _ rfl
    have f1 := hf 1 _ rfl
    have f2 := hf 2 _ rfl
    have f3 := hf 3 _ rfl
    have f4 := hf 4 _ rfl
    have f5 := hf 5 _ rfl
    have f6 := hf 6 _ rfl
    rw [e0] at f0
    rw [e1] at f1
    rw [e2] at f2
    rw [e3] at f3
    rw [e4] at f4
    rw [e5] at f5
    rw [e6] at f6
    obtain ⟨kind, h0⟩ := read_int Tryd.underlying35 f0
    obtain ⟨flag, h1⟩ := read_bool Tryd.underlying4 f1
    obtain ⟨ys, m', rfl, _, hl', hxl', hf'⟩ := DataW.trod_struct Tryd.underlying37 f2
    have g' : ∀ i, i < 3 → ∃ y, ys[i]? = some y := fun i hi => ⟨ys[i]'(by rw [hxl']; exact hi), List.getElem?_eq_getElem _⟩
    obtain ⟨y0', e0'⟩ := g' 0 (by omega)
    obtain ⟨y1', e1'⟩ := g' 1 (by omega)
    obtain ⟨y2', e2'⟩ := g' 2 (by omega)
    have f0' := hf' 0 _ rfl
    have f1' := hf' 1 _ rfl
    have f2' := hf' 2 _ rfl
    rw [e0'] at f0'
    rw [e1'] at f1'
    rw [e2'] at f2'
    obtain ⟨neg, h0'⟩ := read_bool Tryd.underlying4 f0'
    obtain ⟨digits, hd, h1'⟩ := read_str Tryd.underlying9 f1'
    obtain ⟨exp, h2'⟩ := read_int Tryd.underlying3 f2'
    obtain ⟨bits, h3⟩ := read_int Tryd.underlying38 f3
    obtain ⟨text, ht, h4⟩ := read_str Tryd.underlying9 f4
    obtain ⟨names, hn1, h5⟩ := read_strs Tryd.underlying23 f5
    obtain ⟨list, hl1, h6⟩ := read_slice (cells := V.cells) (Q := V.fit) Tryd.underlying39 c (by decide) V.cells_length f6 fun m'' hm' cs x hx => ih m'' (by omega) cs x hx
    refine ⟨.mk kind flag neg digits exp bits text names list, ⟨hd, ht, hn1, (V.fitL_iff list).2 hl1⟩, ?_⟩
    rw [← V.rows_eq] at h6
    match cs, hl with
    | [c0, c1, c2, c3, c4, c5, c6, c7, c8], _ =>
      exact drs_cons h0 (drs_cons h1 (drs_cons h0' (drs_cons h1' (drs_cons h2' (drs_cons h3 (drs_cons h4 (drs_cons h5 (drs_cons h6 ⟨rfl, fun i c v hc => by simp at hc⟩ rfl) rfl) rfl) rfl) rfl) rfl) rfl) rfl) rfl
end
end Go.Proofs.YtdcpnpcmgfmenaaDoor
/-
  What the row's condition gives: the tables. Conditions: none.
-/
set_option linter.unusedVariables false
set_option maxRecDepth 100000
namespace Go.Proofs.YtdcpnpcmgfmenaaDoor
open Go Go.Proofs.YtdcpnpcmgfmenaaDoor.Lg Go.ChangeShapes Go.WideShapes Go.RowKit

def laidL : List (String × DataW Unit) := [("unicode/utf8.acceptRanges", Rows.laid_unicode_utf8_acceptRanges), ("calamus/types.kinds", Rows.laid_calamus_types_kinds), ("unicode/utf8.first", Rows.laid_unicode_utf8_first)]
theorem u8t : U8Types Tryd.prog Tryd.laysValid_ren := U8Types.of196 Tryd.laysValid
theorem u8x : U8Extra Tryd.prog Tryd.laysValid_ren := { n3 := by kernel_rfl, y3 := by kernel_rfl, n4 := by kernel_rfl, y4 := by kernel_rfl, c5 := by kernel_rfl, c119 := by kernel_rfl, c138 := by kernel_rfl }
theorem first_eq : Rows.laid_unicode_utf8_first = Lib.firstData := by kernel_rfl
theorem accept_eq : (Rows.laid_unicode_utf8_acceptRanges : DataW Unit) = Lib.acceptData := by kernel_rfl
theorem tabs_of_laid {W : World} (h : laidMetH Tryd.prog laidL W) : Lib.Utf8Tabs gFirst gAccept W := by
  rw [MakeChecks.laidMetH_plain _ _ _ (by kernel_rfl)] at h
  have h3 := Lib.laidMet.reads h (n := "unicode/utf8.first") (d := Rows.laid_unicode_utf8_first) (by simp [laidL])
  have h4 := Lib.laidMet.reads h (n := "unicode/utf8.acceptRanges") (d := Rows.laid_unicode_utf8_acceptRanges) (by simp [laidL])
  rw [first_eq] at h3
  rw [accept_eq] at h4
  exact utf8Tabs_of_readsT u8t u8x h3 h4
theorem kinds_of_laid {W : World} (h : laidMetH Tryd.prog laidL W) : ∀ (j : Nat) c, gl0[j]? = some c → ∃ v, c = .v v ∧ W.cell? ⟨0, j, none⟩ = some v := by
  rw [MakeChecks.laidMetH_plain _ _ _ (by kernel_rfl)] at h
  obtain ⟨g, t, cs, fuel, p, hg, ht, hv, hd⟩ := Lib.laidMet.reads h (n := "calamus/types.kinds") (d := Rows.laid_calamus_types_kinds) (by simp [laidL])
  obtain rfl := Option.some.inj ((show Tryd.prog.globalNamed "calamus/types.kinds" = some 0 by kernel_rfl).symm.trans hg)
  obtain rfl := Option.some.inj ((show (Tryd.prog.globals[0]?).map (·.type) = some 69 by kernel_rfl).symm.trans ht)
  have hcs := Lib.cells_of_tab (zs := [0, 0, 1, 2, 3, 3, 4, 5, 6]) (k := .i64) Tryd.underlying69 Tryd.underlying35 (by kernel_rfl) (by kernel_rfl) hd
  intro j c hj
  rw [World.var?_cell hg hv j, ← Array.getElem?_toList, hcs]
  match j, hj with
  | 0, hj | 1, hj | 2, hj | 3, hj | 4, hj | 5, hj | 6, hj | 7, hj | 8, hj => cases hj; exact ⟨_, rfl, rfl⟩
  | j + 9, hj => simp [gl0] at hj

/-- How a call of the law finds the world. -/
def g0 (W : World) : G := { ρ := fun _ => 0, κ := fun _ => 0, cap := fun _ => 0, vt := fun _ => false, I := Lt W, J := Lt W }
theorem cell_lt {W : World} {b o : Nat} {v : Value} (h : W.cell? ⟨b, o, none⟩ = some v) : b < W.heap.size := by
  unfold World.cell? at h
  split at h
  · rename_i hh; exact (Array.getElem?_eq_some_iff.1 hh).1
  · cases h
theorem gl_cells {W : World} {i : Nat} {cs : List D} (h0 : 0 < cs.length) (h : ∀ (j : Nat) c, cs[j]? = some c → ∃ v, c = .v v ∧ W.cell? ⟨i, j, none⟩ = some v) :
    Lt W i ∧ ∃ f : Nat → Value, (∀ (j : Nat) c, cs[j]? = some c → W.cell? ⟨i, j, none⟩ = some (f j)) ∧ ∀ (j : Nat) c, cs[j]? = some c → DR W (Lt W) (Lt W) c (f j) := by
  refine ⟨?_, fun j => (W.cell? ⟨i, j, none⟩).getD undef, fun j c hc => ?_, fun j c hc => ?_⟩
  · obtain ⟨v, _, hv⟩ := h 0 _ (List.getElem?_eq_getElem h0)
    exact cell_lt hv
  · obtain ⟨v, _, hv⟩ := h j c hc
    simp only [hv, Option.getD_some]
  · obtain ⟨v, rfl, hv⟩ := h j c hc
    simp only [hv, Option.getD_some]
    exact .v _
theorem start_hr {W : World} (h : laidMetH Tryd.prog laidL W) : HRel env W (g0 W) 0 (fun _ => .dead) := by
  refine ⟨fun _ h => by omega, fun _ _ => rfl, fun _ _ h => by omega, fun _ h => h, fun _ h => h, fun b _ ⟨l, hl, _⟩ => by omega, fun i cs hcs => ?_⟩
  have hT := tabs_of_laid h
  have hcs : glT i = some cs := hcs
  unfold glT at hcs
  split at hcs
  · injection hcs with hcs; subst hcs
    exact gl_cells (by decide) (kinds_of_laid h)
  · injection hcs with hcs; subst hcs
    refine gl_cells (by simp [gl1]) fun j c hj => ?_
    simp only [gl1, List.getElem?_map, Option.map_eq_some_iff] at hj
    obtain ⟨a, ha, rfl⟩ := hj
    obtain ⟨hlt, hra⟩ := List.getElem?_eq_some_iff.1 ha
    simp at hlt hra
    subst hra
    exact ⟨_, rfl, hT.1 j hlt⟩
  · injection hcs with hcs; subst hcs
    refine gl_cells (by decide) fun j c hj => ?_
    have hj32 : j < 32 := by have := (List.getElem?_eq_some_iff.1 hj).1; simpa [gl2] using this
    have key : ∀ i, i < 16 → gl2[2 * i]? = some (.v (.int .u8 (Lib.accLo i))) ∧ gl2[2 * i + 1]? = some (.v (.int .u8 (Lib.accHi i))) := by
      intro i hi
      match i, hi with
      | 0, _ | 1, _ | 2, _ | 3, _ | 4, _ | 5, _ | 6, _ | 7, _ | 8, _ | 9, _ | 10, _ | 11, _ | 12, _ | 13, _ | 14, _ | 15, _ => exact ⟨rfl, rfl⟩
      | i + 16, h => omega
    have ht := hT.2 (j / 2) (by omega)
    have hk := key (j / 2) (by omega)
    rcases Nat.mod_two_eq_zero_or_one j with e | e
    · have : j = 2 * (j / 2) := by omega
      rw [this] at hj ⊢
      rw [hk.1] at hj
      cases hj
      exact ⟨_, rfl, ht.1⟩
    · have : j = 2 * (j / 2) + 1 := by omega
      rw [this] at hj ⊢
      rw [hk.2] at hj
      cases hj
      exact ⟨_, rfl, ht.2⟩
  · cases hcs

theorem own0 : ownKnob Tryd.prog.godebug = none := by kernel_rfl
theorem laidOut0 : laidOutB Tryd.prog = true := by kernel_rfl
theorem vr_of {W : World} {ds : List D} {xs : Array Value} (h : DRs W ds xs.toList) : VR W (g0 W) 0 (.d (.agg ds)) (.agg xs) :=
  .d _ _ (.agg _ _ (by simpa using h.1) fun i c x hc hx => h.2 i c x hc (by simpa using hx))
end Go.Proofs.YtdcpnpcmgfmenaaDoor
/-
  The law TypesThree of the given program: for every input that the row speaks of the call returns true, and each argument reads afterwards as it read before. Conditions: the row's own (the listed variables read as the program's text lays them).
-/
set_option linter.unusedVariables false
set_option maxRecDepth 100000
namespace Go.Proofs.YtdcpnpcmgfmenaaDoor
open Go Go.Proofs.YtdcpnpcmgfmenaaDoor.Lg Go.ChangeShapes Go.WideShapes Go.ChangeAt Go.RowKit

theorem typesThree_lifted (os : Os) (started : os.Started) (H : Type) (enc : TypeId × Value → H) :
    ReturnsInHanded {} Tryd.checked os 5 .any (fun w args => (Rows.typesThreeSpec.pre enc Tryd.prog Tryd.f5 [] false w args ∧ laidMetH Tryd.prog laidL w) ∧ sizedMet enc Tryd.prog Tryd.f5 (OpenSpec.ofChange Rows.typesThreeSpec) false w args)
      (Rows.typesThreeSpec.post enc Tryd.prog Tryd.f5 false true false false) := by
  refine returnsInHanded_of_change_and (C := Tryd.checked) (X := fun w _ => laidMetH Tryd.prog laidL w) (fun _ _ _ hh h => h.of_heap hh) own0 started (by kernel_rfl) Tryd.func5
    (ChangeSpec.witness_shaped (enc := enc) (C := Tryd.checked) (os := os) (X := fun w _ => laidMetH Tryd.prog laidL w) false (World.laidAll Tryd.prog os laidL) #[.agg #[.int .i64 0, .slice none 0 0, .slice none 0 0], .agg #[.int .i64 0, .slice none 0 0, .slice none 0 0], .agg #[.int .i64 0, .slice none 0 0, .slice none 0 0]] 8 (World.laidAll_os _ _ _)
      (World.shaped_of_ZipB (by kernel_rfl) (by kernel_rfl)) (by kernel_rfl) (by kernel_rfl) (by kernel_rfl)
      (by rw [MakeChecks.laidMetH_plain _ _ _ (by kernel_rfl)]; exact laidMet_laidAll _ (by kernel_rfl) (by kernel_rfl))) ?_
  intro W base args ds gs before hval0 hW hc hsz0 hL _
  have hval : ∀ (j : Nat) t v, Tryd.f5.params[j]? = some t → args[j]? = some v → Value.okWide Tryd.prog W .any base t v := hval0
  have hW' := hW
  obtain ⟨p, q, hA0, hV, rfl, hfz, hnd⟩ := hW
  have hA : DataW.TrodAll enc Tryd.prog W 0 (fun _ => true) true Tryd.f5.params.toList args.toList ds p := hA0
  rw [Tryd.params5] at hA hval
  obtain ⟨v0, vs0, d0, ds0, p0, q0, hargs, rfl, rfl, h0, r0⟩ := trodAll_cons hA
  obtain ⟨v1, vs1, d1, ds1, p1, q1, rfl, rfl, rfl, h1, r1⟩ := trodAll_cons r0
  obtain ⟨v2, vs2, d2, ds2, p2, q2, rfl, rfl, rfl, h2, r2⟩ := trodAll_cons r1
  obtain ⟨rfl, rfl, rfl⟩ := trodAll_nil r2
  obtain rfl : args = #[v0, v1, v2] := by cases args; simp_all
  obtain ⟨rfl, rfl⟩ := trodVars_none hV
  have lt0 : ∀ x ∈ p0, x.block < W.heap.size := by obtain ⟨m, hm⟩ := h0; exact DataW.trod_lt m _ _ _ hm
  have k0 := h0
  obtain ⟨x0, rfl, _⟩ := okWide_struct Tryd.underlying26 (hval 0 26 v0 rfl rfl)
  obtain ⟨t0, f0, c0⟩ := read_T _ _ _ (Classical.choose_spec h0)
  have c0 := vr_of c0
  have lt1 : ∀ x ∈ p1, x.block < W.heap.size := by obtain ⟨m, hm⟩ := h1; exact DataW.trod_lt m _ _ _ hm
  have k1 := h1
  obtain ⟨x1, rfl, _⟩ := okWide_struct Tryd.underlying26 (hval 1 26 v1 rfl rfl)
  obtain ⟨t1, f1, c1⟩ := read_T _ _ _ (Classical.choose_spec h1)
  have c1 := vr_of c1
  have lt2 : ∀ x ∈ p2, x.block < W.heap.size := by obtain ⟨m, hm⟩ := h2; exact DataW.trod_lt m _ _ _ hm
  have k2 := h2
  obtain ⟨x2, rfl, _⟩ := okWide_struct Tryd.underlying26 (hval 2 26 v2 rfl rfl)
  obtain ⟨t2, f2, c2⟩ := read_T _ _ _ (Classical.choose_spec h2)
  have c2 := vr_of c2
  clear hA0 hval0 hsz0
  refine ((TypesThree_pure t0 t1 t2 f0 f1 f2).2 W (g0 W) #[.agg x0, .agg x1, .agg x2] (start_hr hL) rfl (fun i c x hc hx => ?_)).mono ?_
  · match i, hc, hx with
    | 0, hc, hx => cases hc; cases hx; exact c0
    | 1, hc, hx => cases hc; cases hx; exact c1
    | 2, hc, hx => cases hc; cases hx; exact c2
    | i + 3, hc, hx => simp at hc
  rintro e W' ⟨v, rfl, hv, bel⟩
  obtain rfl := vr_val hv
  exact ⟨_, rfl, _, _, _, [], _, [], hW', trodAll_mk1 (shut_bool Tryd.underlying4 _), (trodAll_cons_mk (Below.trod laidOut0 (by kernel_rfl) (of_decide_eq_true (by kernel_rfl)) k0 bel lt0) (trodAll_cons_mk (Below.trod laidOut0 (by kernel_rfl) (of_decide_eq_true (by kernel_rfl)) k1 bel lt1) (trodAll_cons_mk (Below.trod laidOut0 (by kernel_rfl) (of_decide_eq_true (by kernel_rfl)) k2 bel lt2) trodAll_mk0))), rfl, bel.frame _, fun h => by cases h⟩

theorem typesThree_row : Rows.TypesThreeSaid :=
  OpenClaim.holds_of_wide 5 Tryd.f5 rfl rfl rfl rfl rfl rfl rfl ⟨rfl, rfl, rfl, rfl, rfl⟩ rfl rfl rfl rfl rfl (by kernel_rfl) Tryd.func5 (by kernel_rfl)
    (of_decide_eq_true (by kernel_rfl)) (by unfold Func.isWrapper; first | (rw [if_pos (by decide +kernel)]; kernel_rfl) | (rw [if_neg (by decide +kernel)]; exact ⟨rfl, rfl⟩))
    (fun os started H enc _ => typesThree_lifted os started H enc)
theorem typesThree_holds : Rows.TypesThreeCardSaid :=
  Claim7.holds_tied_plain_at .later [] [.data, .data, .pinned] true Rows.typesThreeCard.stood.harness false typesThree_row (fun _ h => by cases h) (by kernel_rfl) (fun _ h => by cases h) typesThree_row_tie rfl ⟨rfl, rfl⟩ (by kernel_rfl) rfl
    (fun f fn hf hfn => by
      obtain rfl : f = 5 := Option.some.inj ((show Tryd.prog.funcNamed "calamus/calamuslaw11.TypesThree" = some 5 by kernel_rfl).symm.trans hf) |>.symm
      obtain rfl : fn = Tryd.f5 := (Option.some.inj (Tryd.func5.symm.trans hfn)).symm
      exact ⟨by kernel_rfl, fun j t ht => by
        rw [Tryd.params5] at ht
        have hm : t ∈ [26] := by have := Array.mem_of_getElem? ht; simp at this ⊢; omega
        have hall : ([26].all fun u => !Tryd.prog.wantsStandIn u) = true := by kernel_rfl
        exact (show Tryd.prog.wantsStandIn t = false by simpa using List.all_eq_true.1 hall t hm)⟩)
    (by kernel_rfl)
#print axioms typesThree_holds
end Go.Proofs.YtdcpnpcmgfmenaaDoor
