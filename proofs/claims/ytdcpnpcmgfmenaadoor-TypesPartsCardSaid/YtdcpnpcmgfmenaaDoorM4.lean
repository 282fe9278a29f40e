/-
  The law TypesParts of the given program: for every input that the row speaks of the call returns true, and each argument reads afterwards as it read before. Conditions: the row's own (the listed variables read as the program's text lays them).
-/
import Derived.Test.YtdcpnpcmgfmenaaDoorM3
import Derived.Deep.Slices
import Derived.LaidMore
import Derived.OpenShut
import Derived.Test.YtdcpnpcmgfmenaaDoorRows
import Derived.ProofKit
import Derived.Lay
import Derived.Below
import Derived.SizedLaws
import Derived.SevenTiedAt
import Derived.Stop.Joined
import Derived.Test.YtdcpnpcmgfmenaaDoorTie
import Derived.Test.YtdcpnpcmgfmenaaDoorCards
/-
  Walks: how big types are, as far as the guards ask. Conditions: none.
-/
set_option linter.unusedVariables false
set_option maxRecDepth 100000
namespace Go.Proofs.YtdcpnpcmgfmenaaDoor
open Go Go.Proofs.YtdcpnpcmgfmenaaDoor.Lg

theorem parts_s (t : T) : ∀ n m w : Int, PureS env 17 [.d t.d, .d (.v (.int .i64 n)), .d (.v (.int .i64 m)), .d (.v (.int .i64 w))] isInt := by
  revert t
  apply T.ind
  intro kind names list ih n m w
  refine pureS_of_body Tryd.func17 rfl rfl rfl fun B hB => ?_
  refine swp_seq ?_
  refine swp_region ?_
  refine sops_go rfl (so_box (cs := [_, _, _]) rfl rfl rfl ?_)
  refine sops_go rfl (st_assign (v := .d _) rfl rfl rfl ?_)
  refine sops_nil ?_
  refine swp_seq ?_
  refine swp_seq ?_
  refine swp_region ?_
  refine sops_go rfl (st_move (v := .d _) rfl rfl rfl ?_)
  refine sops_go rfl (st_bin rfl rfl rfl rfl rfl ?_)
  refine sops_nil ?_
  -- cond
  refine swp_cond _ rfl (fun hc => ?_) (fun hc => ?_)
  · refine swp_seq ?_
    refine swp_region ?_
    refine sops_go rfl (st_move (v := .d _) rfl rfl rfl ?_)
    refine sops_go rfl (st_bin rfl rfl rfl rfl rfl ?_)
    refine sops_go rfl (st_assign (v := .d _) rfl rfl rfl ?_)
    refine sops_nil ?_
    refine swp_ret ?_
    with_reducible refine after_ret ?_
    -- ret
    exact ⟨.inl rfl, _, ⟨_, rfl⟩, .inl ⟨8, rfl, ra_d (keeps_v _)⟩⟩
  · refine swp_skip ?_
    refine swp_seq ?_
    refine swp_region ?_
    refine sops_go rfl (st_move (v := .d _) rfl rfl rfl ?_)
    refine sops_go rfl (st_bin rfl rfl rfl rfl rfl ?_)
    first | refine sops_go rfl (so_fieldAddr (v := .p _ _ _) rfl rfl rfl rfl rfl rfl rfl rfl rfl rfl ?_) | refine sops_go rfl (so_fieldAddr (v := .dp _ _) rfl rfl rfl rfl rfl rfl rfl rfl rfl rfl ?_) | refine sops_go rfl (so_fieldAddr (v := .pe _ _ _ _ _) rfl rfl rfl rfl rfl rfl rfl rfl rfl rfl ?_)
    first | refine sops_go rfl (so_load (v := .d _) rfl rfl rfl rfl rfl rfl rfl rfl ?_) | refine sops_go rfl (so_load (v := .own _ _ _ _ _) rfl rfl rfl rfl rfl rfl rfl rfl ?_)
    refine sops_go rfl (so_lenSl rfl rfl rfl rfl rfl ?_)
    refine sops_go rfl (st_bin rfl rfl rfl rfl rfl ?_)
    refine sops_go rfl (st_assign (v := .d _) rfl rfl rfl ?_)
    refine sops_nil ?_
    -- stop
    refine swp_len (l := 0) (i := 1) rfl rfl rfl fun hn => ?_
    refine swp_len (l := 0) (i := 2) rfl rfl rfl fun hlen => ?_
    rw [strRows_len] at hn
    rw [T.rows_len] at hlen
    let F0 : Int → St := fun n => { t := upd (upd (upd (upd (fun _ => .any) 4 (.p 0 0 0)) 3 (.d (.v (.int .i64 w)))) 2 (.d (.v (.int .i64 m)))) 1 (.d (.v (.int .i64 n))), n := 64, h := upd (fun _ => .dead) 0 (.cells [.any, .d (.sl true (strRows names)), .d (.sl true (T.rows list))]), nx := 1 }
    refine swp_seqF (F := F0) (P := fun _ => True) ?_ ?_
    · refine swp_seq ?_
      refine swp_region ?_
      refine sops_go rfl (st_assign (v := .d _) rfl rfl rfl ?_)
      refine sops_nil ?_
      refine swp_block ?_
      -- loop
      let F1 : Nat × Int → St := fun p => { F0 p.2 with t := upd (F0 p.2).t 9 (.d (.v (.int .i64 p.1))) }
      refine swp_loopF (F := F1) (fun p => p.1 ≤ names.length) (fun p => names.length - p.1) (0, IntKind.i64.wrap (IntKind.i64.wrap (n + 1) + ((strRows names).length : Int))) (Nat.zero_le _) ?_ ?_
      · refine wk_of rfl (Nat.le_of_ble_eq_true rfl) (by rw [hB]; exact Nat.zero_le _) (tle_upd (le_eq rfl rfl) (tle_upd (le_eq rfl rfl) (tle_upd (le_eq rfl rfl) (tle_upd (le_eq rfl rfl) (tle_upd (le_eq rfl rfl) (tle_any _)))))) (hle_upd (.cells _ _ ⟨le_any _, le_eq rfl rfl, le_eq rfl rfl, trivial⟩) (hle_dead _)) (dead_upd (Nat.le_of_ble_eq_true rfl) (dead_none))
      rintro ⟨k, n1⟩ hk
      simp only at hk
      refine swp_seq ?_
      refine swp_seq ?_
      refine swp_region ?_
      refine sops_go rfl (st_move (v := .d _) rfl rfl rfl ?_)
      first | refine sops_go rfl (so_fieldAddr (v := .p _ _ _) rfl rfl rfl rfl rfl rfl rfl rfl rfl rfl ?_) | refine sops_go rfl (so_fieldAddr (v := .dp _ _) rfl rfl rfl rfl rfl rfl rfl rfl rfl rfl ?_) | refine sops_go rfl (so_fieldAddr (v := .pe _ _ _ _ _) rfl rfl rfl rfl rfl rfl rfl rfl rfl rfl ?_)
      first | refine sops_go rfl (so_load (v := .d _) rfl rfl rfl rfl rfl rfl rfl rfl ?_) | refine sops_go rfl (so_load (v := .own _ _ _ _ _) rfl rfl rfl rfl rfl rfl rfl rfl ?_)
      refine sops_go rfl (so_lenSl rfl rfl rfl rfl rfl ?_)
      refine sops_go rfl (st_bin rfl rfl rfl rfl rfl ?_)
      refine sops_go rfl (st_move (v := .d _) rfl rfl rfl ?_)
      -- guard (some (5, true))
      refine sops_case 26 rfl (fun hb26 => ?_) (fun hb26 => ?_)
      · have hlt : k < names.length := by have := of_decide_eq_true hb26; rw [strRows_len] at this; omega
        first | refine sops_yes rfl rfl rfl rfl (st_move (v := .d _) rfl rfl rfl ?_) | refine sops_no rfl rfl rfl rfl rfl ?_
        first | refine sops_yes rfl rfl rfl rfl (st_move (v := .d _) rfl rfl rfl ?_) | refine sops_no rfl rfl rfl rfl rfl ?_
        first | refine sops_yes rfl rfl rfl rfl (st_bin rfl rfl rfl rfl rfl ?_) | refine sops_no rfl rfl rfl rfl rfl ?_
        refine sops_go rfl (st_pick (v := .d _) rfl rfl rfl rfl ?_)
        refine sops_nil ?_
        -- cond
        refine swp_cond _ rfl (fun hc => ?_) (fun hc => ?_)
        · refine swp_skip ?_
          refine swp_seq ?_
          refine swp_block ?_
          refine swp_region ?_
          refine sops_go rfl (st_move (v := .d _) rfl rfl rfl ?_)
          first | refine sops_go rfl (so_fieldAddr (v := .p _ _ _) rfl rfl rfl rfl rfl rfl rfl rfl rfl rfl ?_) | refine sops_go rfl (so_fieldAddr (v := .dp _ _) rfl rfl rfl rfl rfl rfl rfl rfl rfl rfl ?_) | refine sops_go rfl (so_fieldAddr (v := .pe _ _ _ _ _) rfl rfl rfl rfl rfl rfl rfl rfl rfl rfl ?_)
          first | refine sops_go rfl (so_load (v := .d _) rfl rfl rfl rfl rfl rfl rfl rfl ?_) | refine sops_go rfl (so_load (v := .own _ _ _ _ _) rfl rfl rfl rfl rfl rfl rfl rfl ?_)
          refine sops_go rfl (st_move (v := .d _) rfl rfl rfl ?_)
          -- hand: indexAddr 23 t35 t36
          refine sops_go rfl (so_indexSl rfl rfl rfl rfl rfl rfl rfl (strRows_all _) (by omega) (by rw [strRows_len]; omega) (strRows_get _ _ hlt) ?_)
          refine sops_go rfl (so_load (v := .d _) rfl rfl rfl rfl rfl rfl rfl rfl ?_)
          refine sops_go rfl (so_lenStr rfl rfl rfl rfl rfl ?_)
          refine sops_go rfl (st_bin rfl rfl rfl rfl rfl ?_)
          refine sops_go rfl (st_assign (v := .d _) rfl rfl rfl ?_)
          refine sops_nil ?_
          refine swp_region ?_
          refine sops_go rfl (st_move (v := .d _) rfl rfl rfl ?_)
          refine sops_go rfl (st_bin rfl rfl rfl rfl rfl ?_)
          refine sops_go rfl (st_assign (v := .d _) rfl rfl rfl ?_)
          refine sops_nil ?_
          -- loopend
          refine ⟨(k + 1, IntKind.i64.wrap (n1 + ((names[k]).size : Int))), hlt, by simp only; omega, ?_⟩
          refine wk_of rfl (Nat.le_of_ble_eq_true rfl) (by rw [hB]; exact Nat.zero_le _) (tle_upd (le_eq (next_i64 hlt hn) rfl) (tle_upd (le_eq rfl rfl) (tle_upd (le_eq rfl rfl) (tle_upd (le_eq rfl rfl) (tle_upd (le_eq rfl rfl) (tle_any _)))))) (hle_upd (.cells _ _ ⟨le_any _, le_eq rfl rfl, le_eq rfl rfl, trivial⟩) (hle_dead _)) (dead_upd (Nat.le_of_ble_eq_true rfl) (dead_none))
        · refine swp_exit ?_
          with_reducible refine after_exit ?_
          with_reducible refine after_exit ?_
          refine inblk_hit ?_
          -- cut
          refine ⟨n1, trivial, ?_⟩
          refine wk_of rfl (Nat.le_of_ble_eq_true rfl) (by rw [hB]; exact Nat.zero_le _) (tle_upd (le_eq rfl rfl) (tle_upd (le_eq rfl rfl) (tle_upd (le_eq rfl rfl) (tle_upd (le_eq rfl rfl) (tle_any _))))) (hle_upd (.cells _ _ ⟨le_any _, le_eq rfl rfl, le_eq rfl rfl, trivial⟩) (hle_dead _)) (dead_upd (Nat.le_of_ble_eq_true rfl) (dead_none))
      · first | refine sops_yes rfl rfl rfl rfl (st_move (v := .d _) rfl rfl rfl ?_) | refine sops_no rfl rfl rfl rfl rfl ?_
        first | refine sops_yes rfl rfl rfl rfl (st_move (v := .d _) rfl rfl rfl ?_) | refine sops_no rfl rfl rfl rfl rfl ?_
        first | refine sops_yes rfl rfl rfl rfl (st_bin rfl rfl rfl rfl rfl ?_) | refine sops_no rfl rfl rfl rfl rfl ?_
        refine sops_go rfl (st_pick (v := .d _) rfl rfl rfl rfl ?_)
        refine sops_nil ?_
        -- cond
        refine swp_condF rfl ?_
        refine swp_exit ?_
        with_reducible refine after_exit ?_
        with_reducible refine after_exit ?_
        refine inblk_hit ?_
        -- cut
        refine ⟨n1, trivial, ?_⟩
        refine wk_of rfl (Nat.le_of_ble_eq_true rfl) (by rw [hB]; exact Nat.zero_le _) (tle_upd (le_eq rfl rfl) (tle_upd (le_eq rfl rfl) (tle_upd (le_eq rfl rfl) (tle_upd (le_eq rfl rfl) (tle_any _))))) (hle_upd (.cells _ _ ⟨le_any _, le_eq rfl rfl, le_eq rfl rfl, trivial⟩) (hle_dead _)) (dead_upd (Nat.le_of_ble_eq_true rfl) (dead_none))
    rintro n1 -
    refine swp_seq ?_
    refine swp_seq ?_
    refine swp_region ?_
    refine sops_go rfl (st_assign (v := .d _) rfl rfl rfl ?_)
    refine sops_nil ?_
    refine swp_block ?_
    -- loop
    let F2 : Nat × Int → St := fun p => { F0 p.2 with t := upd (F0 p.2).t 10 (.d (.v (.int .i64 p.1))) }
    refine swp_loopF (F := F2) (fun p => p.1 ≤ list.length) (fun p => list.length - p.1) (0, n1) (Nat.zero_le _) ?_ ?_
    · refine wk_of rfl (Nat.le_of_ble_eq_true rfl) (by rw [hB]; exact Nat.zero_le _) (tle_upd (le_eq rfl rfl) (tle_upd (le_eq rfl rfl) (tle_upd (le_eq rfl rfl) (tle_upd (le_eq rfl rfl) (tle_upd (le_eq rfl rfl) (tle_any _)))))) (hle_upd (.cells _ _ ⟨le_any _, le_eq rfl rfl, le_eq rfl rfl, trivial⟩) (hle_dead _)) (dead_upd (Nat.le_of_ble_eq_true rfl) (dead_none))
    rintro ⟨k, n2⟩ hk
    simp only at hk
    refine swp_seq ?_
    refine swp_seq ?_
    refine swp_region ?_
    refine sops_go rfl (st_move (v := .d _) rfl rfl rfl ?_)
    first | refine sops_go rfl (so_fieldAddr (v := .p _ _ _) rfl rfl rfl rfl rfl rfl rfl rfl rfl rfl ?_) | refine sops_go rfl (so_fieldAddr (v := .dp _ _) rfl rfl rfl rfl rfl rfl rfl rfl rfl rfl ?_) | refine sops_go rfl (so_fieldAddr (v := .pe _ _ _ _ _) rfl rfl rfl rfl rfl rfl rfl rfl rfl rfl ?_)
    first | refine sops_go rfl (so_load (v := .d _) rfl rfl rfl rfl rfl rfl rfl rfl ?_) | refine sops_go rfl (so_load (v := .own _ _ _ _ _) rfl rfl rfl rfl rfl rfl rfl rfl ?_)
    refine sops_go rfl (so_lenSl rfl rfl rfl rfl rfl ?_)
    refine sops_go rfl (st_bin rfl rfl rfl rfl rfl ?_)
    refine sops_go rfl (st_move (v := .d _) rfl rfl rfl ?_)
    -- guard (some (5, true))
    refine sops_case 46 rfl (fun hb46 => ?_) (fun hb46 => ?_)
    · have hlt : k < list.length := by have := of_decide_eq_true hb46; rw [T.rows_len] at this; omega
      first | refine sops_yes rfl rfl rfl rfl (st_move (v := .d _) rfl rfl rfl ?_) | refine sops_no rfl rfl rfl rfl rfl ?_
      first | refine sops_yes rfl rfl rfl rfl (st_move (v := .d _) rfl rfl rfl ?_) | refine sops_no rfl rfl rfl rfl rfl ?_
      first | refine sops_yes rfl rfl rfl rfl (st_bin rfl rfl rfl rfl rfl ?_) | refine sops_no rfl rfl rfl rfl rfl ?_
      refine sops_go rfl (st_pick (v := .d _) rfl rfl rfl rfl ?_)
      refine sops_nil ?_
      -- cond
      refine swp_cond _ rfl (fun hc => ?_) (fun hc => ?_)
      · refine swp_skip ?_
        refine swp_seq ?_
        refine swp_block ?_
        refine swp_region ?_
        first | refine sops_go rfl (so_fieldAddr (v := .p _ _ _) rfl rfl rfl rfl rfl rfl rfl rfl rfl rfl ?_) | refine sops_go rfl (so_fieldAddr (v := .dp _ _) rfl rfl rfl rfl rfl rfl rfl rfl rfl rfl ?_) | refine sops_go rfl (so_fieldAddr (v := .pe _ _ _ _ _) rfl rfl rfl rfl rfl rfl rfl rfl rfl rfl ?_)
        first | refine sops_go rfl (so_load (v := .d _) rfl rfl rfl rfl rfl rfl rfl rfl ?_) | refine sops_go rfl (so_load (v := .own _ _ _ _ _) rfl rfl rfl rfl rfl rfl rfl rfl ?_)
        refine sops_go rfl (st_move (v := .d _) rfl rfl rfl ?_)
        -- hand: indexAddr 24 t54 t55
        refine sops_go rfl (so_indexSl rfl rfl rfl rfl rfl rfl rfl (T.rows_all _) (by omega) (by rw [T.rows_len]; omega) (T.rows_get _ _ hlt) ?_)
        have ihk := ih _ (List.getElem_mem hlt)
        generalize list[k] = x at ihk ⊢
        obtain ⟨a1, a2, a3⟩ := x
        first | refine sops_go rfl (so_load (v := .d (.agg [_, _, _])) rfl rfl rfl rfl rfl rfl rfl rfl ?_) | refine sops_go rfl (so_load (v := .agg [_, _, _]) rfl rfl rfl rfl rfl rfl rfl rfl ?_)
        refine sops_go rfl (st_move (v := .d _) rfl rfl rfl ?_)
        refine sops_go rfl (st_move (v := .d _) rfl rfl rfl ?_)
        refine sops_go rfl (st_move (v := .d _) rfl rfl rfl ?_)
        refine sops_go rfl (st_bin rfl rfl rfl rfl rfl ?_)
        -- hand: CALL f17(t57, t58, t59, t61)
        refine sops_go rfl (st_callS rfl rfl (ihk _ _ _) ⟨na_d _, na_d _, na_d _, na_d _, trivial⟩ rfl fun r hr => ?_)
        obtain ⟨v, rfl⟩ := hr
        refine sops_go rfl (st_assign (v := .d _) rfl rfl rfl ?_)
        refine sops_nil ?_
        refine swp_region ?_
        refine sops_go rfl (st_move (v := .d _) rfl rfl rfl ?_)
        refine sops_go rfl (st_bin rfl rfl rfl rfl rfl ?_)
        refine sops_go rfl (st_assign (v := .d _) rfl rfl rfl ?_)
        refine sops_nil ?_
        -- loopend
        refine ⟨(k + 1, v), hlt, by simp only; omega, ?_⟩
        refine wk_of rfl (Nat.le_of_ble_eq_true rfl) (by rw [hB]; exact Nat.zero_le _) (tle_upd (le_eq (next_i64 hlt hlen) rfl) (tle_upd (le_eq rfl rfl) (tle_upd (le_eq rfl rfl) (tle_upd (le_eq rfl rfl) (tle_upd (le_eq rfl rfl) (tle_any _)))))) (hle_upd (.cells _ _ ⟨le_any _, le_eq rfl rfl, le_eq rfl rfl, trivial⟩) (hle_dead _)) (dead_upd (Nat.le_of_ble_eq_true rfl) (dead_none))
      · refine swp_exit ?_
        with_reducible refine after_exit ?_
        with_reducible refine after_exit ?_
        refine inblk_hit ?_
        refine swp_seq ?_
        refine swp_region ?_
        refine sops_go rfl (st_move (v := .d _) rfl rfl rfl ?_)
        refine sops_go rfl (st_assign (v := .d _) rfl rfl rfl ?_)
        refine sops_nil ?_
        refine swp_ret ?_
        -- ret
        exact ⟨.inl rfl, _, ⟨_, rfl⟩, .inl ⟨8, rfl, ra_d (keeps_v _)⟩⟩
    · first | refine sops_yes rfl rfl rfl rfl (st_move (v := .d _) rfl rfl rfl ?_) | refine sops_no rfl rfl rfl rfl rfl ?_
      first | refine sops_yes rfl rfl rfl rfl (st_move (v := .d _) rfl rfl rfl ?_) | refine sops_no rfl rfl rfl rfl rfl ?_
      first | refine sops_yes rfl rfl rfl rfl (st_bin rfl rfl rfl rfl rfl ?_) | refine sops_no rfl rfl rfl rfl rfl ?_
      refine sops_go rfl (st_pick (v := .d _) rfl rfl rfl rfl ?_)
      refine sops_nil ?_
      -- cond
      refine swp_condF rfl ?_
      refine swp_exit ?_
      with_reducible refine after_exit ?_
      with_reducible refine after_exit ?_
      refine inblk_hit ?_
      refine swp_seq ?_
      refine swp_region ?_
      refine sops_go rfl (st_move (v := .d _) rfl rfl rfl ?_)
      refine sops_go rfl (st_assign (v := .d _) rfl rfl rfl ?_)
      refine sops_nil ?_
      refine swp_ret ?_
      -- ret
      exact ⟨.inl rfl, _, ⟨_, rfl⟩, .inl ⟨8, rfl, ra_d (keeps_v _)⟩⟩

theorem bigType_s (t : T) : PureS env 7 [.d t.d] isBool := by
  obtain ⟨kind, names, list⟩ := t
  refine pureS_of_body Tryd.func7 rfl rfl rfl fun B hB => ?_
  refine swp_seq ?_
  refine swp_region ?_
  refine sops_go rfl (so_box (cs := [_, _, _]) rfl rfl rfl ?_)
  refine sops_go rfl (st_assign (v := .d _) rfl rfl rfl ?_)
  refine sops_nil ?_
  refine swp_seq ?_
  refine swp_region ?_
  first | refine sops_go rfl (so_load (v := .d (.agg [_, _, _])) rfl rfl rfl rfl rfl rfl rfl rfl ?_) | refine sops_go rfl (so_load (v := .agg [_, _, _]) rfl rfl rfl rfl rfl rfl rfl rfl ?_)
  -- hand: CALL f17(t3, 0:i64, 32768:i64, 0:i64)
  refine sops_go rfl (st_callS rfl rfl (parts_s (.mk kind names list) _ _ _) ⟨na_d _, na_d _, na_d _, na_d _, trivial⟩ rfl fun r hr => ?_)
  obtain ⟨v, rfl⟩ := hr
  refine sops_go rfl (st_bin rfl rfl rfl rfl rfl ?_)
  refine sops_go rfl (st_move (v := .d _) rfl rfl rfl ?_)
  -- guard (some (3, false))
  refine sops_case 6 rfl (fun hb6 => ?_) (fun hb6 => ?_)
  · first | refine sops_yes rfl rfl rfl rfl (so_load (v := .d (.agg [_, _, _])) rfl rfl rfl rfl rfl rfl rfl rfl ?_) | refine sops_yes rfl rfl rfl rfl (so_load (v := .agg [_, _, _]) rfl rfl rfl rfl rfl rfl rfl rfl ?_) | refine sops_no rfl rfl rfl rfl rfl ?_
    -- hand: CALL f18(t7)
    first | refine sops_yes rfl rfl rfl rfl (st_call rfl rfl (wide_pure (.mk kind names list)) ⟨na_d _, trivial⟩ rfl ?_) | refine sops_no rfl rfl rfl rfl rfl ?_
    refine sops_go rfl (st_pick (v := .d _) rfl rfl rfl rfl ?_)
    refine sops_go rfl (st_assign (v := .d _) rfl rfl rfl ?_)
    refine sops_nil ?_
    refine swp_ret ?_
    -- ret
    exact ⟨.inl rfl, _, ⟨_, rfl⟩, .inl ⟨2, rfl, ra_d (keeps_v _)⟩⟩
  · first | refine sops_yes rfl rfl rfl rfl (so_load (v := .d (.agg [_, _, _])) rfl rfl rfl rfl rfl rfl rfl rfl ?_) | refine sops_yes rfl rfl rfl rfl (so_load (v := .agg [_, _, _]) rfl rfl rfl rfl rfl rfl rfl rfl ?_) | refine sops_no rfl rfl rfl rfl rfl ?_
    -- hand: CALL f18(t7)
    first | refine sops_yes rfl rfl rfl rfl (st_call rfl rfl (wide_pure (.mk kind names list)) ⟨na_d _, trivial⟩ rfl ?_) | refine sops_no rfl rfl rfl rfl rfl ?_
    refine sops_go rfl (st_pick (v := .d _) rfl rfl rfl rfl ?_)
    refine sops_go rfl (st_assign (v := .d _) rfl rfl rfl ?_)
    refine sops_nil ?_
    refine swp_ret ?_
    -- ret
    exact ⟨.inl rfl, _, ⟨_, rfl⟩, .inl ⟨2, rfl, ra_d (keeps_v _)⟩⟩
end Go.Proofs.YtdcpnpcmgfmenaaDoor
/-
  Walks: how big values are, as far as the guards ask. Conditions: none.
-/
set_option linter.unusedVariables false
set_option maxRecDepth 100000
namespace Go.Proofs.YtdcpnpcmgfmenaaDoor
open Go Go.Proofs.YtdcpnpcmgfmenaaDoor.Lg

mutual
def V.many : V → Bool
  | .mk _ _ _ _ _ _ _ names list => decide (2000 < names.length) || V.manys list
def V.manys : List V → Bool
  | [] => false
  | x :: r => x.many || V.manys r
end
theorem V.manys_any : ∀ l : List V, V.manys l = l.any V.many
  | [] => rfl
  | x :: r => by rw [V.manys, V.manys_any r]; rfl
theorem keeps_strs' (l : List ByteArray) : Keeps (.sl true (strRows l)) := keeps_strs l

theorem many_pure (t : V) : Pure env 29 [.d t.d] (.d (.v (.bool t.many))) := by
  revert t
  apply V.ind
  intro kind flag neg digits exp bits text names list ih
  refine pure_of_body Tryd.func29 rfl rfl rfl fun B hB => ?_
  refine swp_seq ?_
  refine swp_region ?_
  refine sops_go rfl (so_box (cs := [_, _, _, _, _, _, _, _, _]) rfl rfl rfl ?_)
  refine sops_go rfl (st_assign (v := .d _) rfl rfl rfl ?_)
  refine sops_nil ?_
  refine swp_seq ?_
  refine swp_seq ?_
  refine swp_region ?_
  first | refine sops_go rfl (so_fieldAddr (v := .p _ _ _) rfl rfl rfl rfl rfl rfl rfl rfl rfl rfl ?_) | refine sops_go rfl (so_fieldAddr (v := .dp _ _) rfl rfl rfl rfl rfl rfl rfl rfl rfl rfl ?_) | refine sops_go rfl (so_fieldAddr (v := .pe _ _ _ _ _) rfl rfl rfl rfl rfl rfl rfl rfl rfl rfl ?_)
  first | refine sops_go rfl (so_load (v := .d _) rfl rfl rfl rfl rfl rfl rfl rfl ?_) | refine sops_go rfl (so_load (v := .own _ _ _ _ _) rfl rfl rfl rfl rfl rfl rfl rfl ?_)
  refine sops_go rfl (so_lenSl rfl rfl rfl rfl rfl ?_)
  refine sops_go rfl (st_bin rfl rfl rfl rfl rfl ?_)
  refine sops_nil ?_
  -- cond
  refine swp_cond _ rfl (fun hc => ?_) (fun hc => ?_)
  · refine swp_seq ?_
    refine swp_region ?_
    refine sops_go rfl (st_assign (v := .d _) rfl rfl rfl ?_)
    refine sops_nil ?_
    refine swp_ret ?_
    with_reducible refine after_ret ?_
    -- ret
    refine ⟨.inl rfl, .inl ⟨2, rfl, ?_⟩⟩
    have e : (V.mk kind flag neg digits exp bits text names list).many = true := by
      have := of_decide_eq_true hc
      rw [strRows_len] at this
      simp [V.many]; omega
    rw [e]; exact ra_d (keeps_v _)
  · refine swp_skip ?_
    refine swp_seq ?_
    refine swp_seq ?_
    refine swp_region ?_
    refine sops_go rfl (st_assign (v := .d _) rfl rfl rfl ?_)
    refine sops_nil ?_
    refine swp_block ?_
    -- loop
    have hn : (names.length : Int) ≤ 2000 := by
      have := of_decide_eq_false hc
      rw [strRows_len] at this; omega
    have hw : (V.mk kind flag neg digits exp bits text names list).many = list.any V.many := by
      have : ¬ 2000 < names.length := by omega
      simp [V.many, V.manys_any, this]
    refine swp_len (l := 0) (i := 8) rfl rfl rfl fun hlen => ?_
    rw [V.rows_len] at hlen
    refine swp_loopF (F := fun k : Nat => { t := upd (upd (fun _ => .any) 1 (.p 0 0 0)) 3 (.d (.v (.int .i64 k))), n := 21, h := upd (fun _ => .dead) 0 (.cells [.any, .any, .any, .any, .any, .any, .any, .any, .d (.sl true (V.rows list))]), nx := 1 })
      (fun k => k ≤ list.length ∧ (list.take k).any V.many = false) (fun k => list.length - k) 0 ⟨Nat.zero_le _, rfl⟩ ?_ ?_
    · refine wk_of rfl (Nat.le_of_ble_eq_true rfl) (by rw [hB]; exact Nat.zero_le _) (tle_upd (le_eq rfl rfl) (tle_upd (le_eq rfl rfl) (tle_any _))) (hle_upd (.cells _ _ ⟨le_any _, le_any _, le_any _, le_any _, le_any _, le_any _, le_any _, le_any _, le_eq rfl rfl, trivial⟩) (hle_dead _)) (dead_upd (Nat.le_of_ble_eq_true rfl) (dead_none))
    rintro k ⟨hk, ha⟩
    refine swp_seq ?_
    refine swp_seq ?_
    refine swp_region ?_
    refine sops_go rfl (st_move (v := .d _) rfl rfl rfl ?_)
    first | refine sops_go rfl (so_fieldAddr (v := .p _ _ _) rfl rfl rfl rfl rfl rfl rfl rfl rfl rfl ?_) | refine sops_go rfl (so_fieldAddr (v := .dp _ _) rfl rfl rfl rfl rfl rfl rfl rfl rfl rfl ?_) | refine sops_go rfl (so_fieldAddr (v := .pe _ _ _ _ _) rfl rfl rfl rfl rfl rfl rfl rfl rfl rfl ?_)
    first | refine sops_go rfl (so_load (v := .d _) rfl rfl rfl rfl rfl rfl rfl rfl ?_) | refine sops_go rfl (so_load (v := .own _ _ _ _ _) rfl rfl rfl rfl rfl rfl rfl rfl ?_)
    refine sops_go rfl (so_lenSl rfl rfl rfl rfl rfl ?_)
    refine sops_go rfl (st_bin rfl rfl rfl rfl rfl ?_)
    refine sops_nil ?_
    -- cond
    refine swp_cond _ rfl (fun hc => ?_) (fun hc => ?_)
    · have hlt : k < list.length := by have := of_decide_eq_true hc; rw [V.rows_len] at this; omega
      refine swp_skip ?_
      refine swp_seq ?_
      refine swp_block ?_
      refine swp_seq ?_
      refine swp_region ?_
      first | refine sops_go rfl (so_fieldAddr (v := .p _ _ _) rfl rfl rfl rfl rfl rfl rfl rfl rfl rfl ?_) | refine sops_go rfl (so_fieldAddr (v := .dp _ _) rfl rfl rfl rfl rfl rfl rfl rfl rfl rfl ?_) | refine sops_go rfl (so_fieldAddr (v := .pe _ _ _ _ _) rfl rfl rfl rfl rfl rfl rfl rfl rfl rfl ?_)
      first | refine sops_go rfl (so_load (v := .d _) rfl rfl rfl rfl rfl rfl rfl rfl ?_) | refine sops_go rfl (so_load (v := .own _ _ _ _ _) rfl rfl rfl rfl rfl rfl rfl rfl ?_)
      refine sops_go rfl (st_move (v := .d _) rfl rfl rfl ?_)
      -- hand: indexAddr 39 t16 t17
      refine sops_go rfl (so_indexSl rfl rfl rfl rfl rfl rfl rfl (V.rows_all _) (by omega) (by rw [V.rows_len]; omega) (V.rows_get _ _ hlt) ?_)
      have ihk := ih _ (List.getElem_mem hlt)
      have hat := any_take V.many list k hlt
      have hget := any_get V.many list k hlt
      generalize list[k] = x at ihk hat hget ⊢
      obtain ⟨a1, a2, a3, a4, a5, a6, a7, a8, a9⟩ := x
      first | refine sops_go rfl (so_load (v := .d (.agg [_, _, _, _, _, _, _, _, _])) rfl rfl rfl rfl rfl rfl rfl rfl ?_) | refine sops_go rfl (so_load (v := .agg [_, _, _, _, _, _, _, _, _]) rfl rfl rfl rfl rfl rfl rfl rfl ?_)
      -- hand: CALL f29(t19)
      refine sops_go rfl (st_call rfl rfl (ihk) ⟨na_d _, trivial⟩ rfl ?_)
      refine sops_nil ?_
      -- cond
      refine swp_cond _ rfl (fun hc => ?_) (fun hc => ?_)
      · refine swp_seq ?_
        refine swp_region ?_
        refine sops_go rfl (st_assign (v := .d _) rfl rfl rfl ?_)
        refine sops_nil ?_
        refine swp_ret ?_
        with_reducible refine inblk_ret ?_
        with_reducible refine after_ret ?_
        with_reducible refine after_ret ?_
        with_reducible refine inblk_ret ?_
        with_reducible refine after_ret ?_
        -- ret
        refine ⟨.inl rfl, .inl ⟨2, rfl, ?_⟩⟩
        rw [hw, hget hc]
        exact ra_d (keeps_v _)
      · refine swp_skip ?_
        refine swp_region ?_
        refine sops_go rfl (st_move (v := .d _) rfl rfl rfl ?_)
        refine sops_go rfl (st_bin rfl rfl rfl rfl rfl ?_)
        refine sops_go rfl (st_assign (v := .d _) rfl rfl rfl ?_)
        refine sops_nil ?_
        -- loopend
        refine ⟨k + 1, ⟨hlt, by rw [hat, ha, hc]; rfl⟩, by omega, ?_⟩
        refine wk_of rfl (Nat.le_of_ble_eq_true rfl) (by rw [hB]; exact Nat.zero_le _) (tle_upd (le_eq (next_i64 hlt hlen) rfl) (tle_upd (le_eq rfl rfl) (tle_any _))) (hle_upd (.cells _ _ ⟨le_any _, le_any _, le_any _, le_any _, le_any _, le_any _, le_any _, le_any _, le_eq rfl rfl, trivial⟩) (hle_dead _)) (dead_upd (Nat.le_of_ble_eq_true rfl) (dead_none))
    · refine swp_exit ?_
      with_reducible refine after_exit ?_
      with_reducible refine after_exit ?_
      refine inblk_hit ?_
      refine swp_seq ?_
      refine swp_region ?_
      refine sops_go rfl (st_assign (v := .d _) rfl rfl rfl ?_)
      refine sops_nil ?_
      refine swp_ret ?_
      -- ret
      refine ⟨.inl rfl, .inl ⟨2, rfl, ?_⟩⟩
      have : k = list.length := by have := of_decide_eq_false hc; rw [V.rows_len] at this; omega
      rw [this, List.take_length] at ha
      rw [hw, ha]
      exact ra_d (keeps_v _)

theorem partsV_s (t : V) : ∀ n m w : Int, PureS env 28 [.d t.d, .d (.v (.int .i64 n)), .d (.v (.int .i64 m)), .d (.v (.int .i64 w))] isInt := by
  revert t
  apply V.ind
  intro kind flag neg digits exp bits text names list ih n m w
  refine pureS_of_body Tryd.func28 rfl rfl rfl fun B hB => ?_
  refine swp_seq ?_
  refine swp_region ?_
  refine sops_go rfl (so_box (cs := [_, _, _, _, _, _, _, _, _]) rfl rfl rfl ?_)
  refine sops_go rfl (st_assign (v := .d _) rfl rfl rfl ?_)
  refine sops_nil ?_
  refine swp_seq ?_
  refine swp_seq ?_
  refine swp_region ?_
  refine sops_go rfl (st_move (v := .d _) rfl rfl rfl ?_)
  refine sops_go rfl (st_bin rfl rfl rfl rfl rfl ?_)
  refine sops_nil ?_
  -- cond
  refine swp_cond _ rfl (fun hc => ?_) (fun hc => ?_)
  · refine swp_seq ?_
    refine swp_region ?_
    refine sops_go rfl (st_move (v := .d _) rfl rfl rfl ?_)
    refine sops_go rfl (st_bin rfl rfl rfl rfl rfl ?_)
    refine sops_go rfl (st_assign (v := .d _) rfl rfl rfl ?_)
    refine sops_nil ?_
    refine swp_ret ?_
    with_reducible refine after_ret ?_
    -- ret
    exact ⟨.inl rfl, _, ⟨_, rfl⟩, .inl ⟨8, rfl, ra_d (keeps_v _)⟩⟩
  · refine swp_skip ?_
    refine swp_seq ?_
    refine swp_region ?_
    refine sops_go rfl (st_move (v := .d _) rfl rfl rfl ?_)
    refine sops_go rfl (st_bin rfl rfl rfl rfl rfl ?_)
    first | refine sops_go rfl (so_fieldAddr (v := .p _ _ _) rfl rfl rfl rfl rfl rfl rfl rfl rfl rfl ?_) | refine sops_go rfl (so_fieldAddr (v := .dp _ _) rfl rfl rfl rfl rfl rfl rfl rfl rfl rfl ?_) | refine sops_go rfl (so_fieldAddr (v := .pe _ _ _ _ _) rfl rfl rfl rfl rfl rfl rfl rfl rfl rfl ?_)
    refine sops_go rfl (so_load (v := .d _) rfl rfl rfl rfl rfl rfl rfl rfl ?_)
    refine sops_go rfl (so_lenStr rfl rfl rfl rfl rfl ?_)
    refine sops_go rfl (st_bin rfl rfl rfl rfl rfl ?_)
    first | refine sops_go rfl (so_fieldAddr (v := .p _ _ _) rfl rfl rfl rfl rfl rfl rfl rfl rfl rfl ?_) | refine sops_go rfl (so_fieldAddr (v := .dp _ _) rfl rfl rfl rfl rfl rfl rfl rfl rfl rfl ?_) | refine sops_go rfl (so_fieldAddr (v := .pe _ _ _ _ _) rfl rfl rfl rfl rfl rfl rfl rfl rfl rfl ?_)
    first | refine sops_go rfl (so_fieldAddr (v := .p _ _ _) rfl rfl rfl rfl rfl rfl rfl rfl rfl rfl ?_) | refine sops_go rfl (so_fieldAddr (v := .dp _ _) rfl rfl rfl rfl rfl rfl rfl rfl rfl rfl ?_) | refine sops_go rfl (so_fieldAddr (v := .pe _ _ _ _ _) rfl rfl rfl rfl rfl rfl rfl rfl rfl rfl ?_)
    refine sops_go rfl (so_load (v := .d _) rfl rfl rfl rfl rfl rfl rfl rfl ?_)
    refine sops_go rfl (so_lenStr rfl rfl rfl rfl rfl ?_)
    refine sops_go rfl (st_bin rfl rfl rfl rfl rfl ?_)
    first | refine sops_go rfl (so_fieldAddr (v := .p _ _ _) rfl rfl rfl rfl rfl rfl rfl rfl rfl rfl ?_) | refine sops_go rfl (so_fieldAddr (v := .dp _ _) rfl rfl rfl rfl rfl rfl rfl rfl rfl rfl ?_) | refine sops_go rfl (so_fieldAddr (v := .pe _ _ _ _ _) rfl rfl rfl rfl rfl rfl rfl rfl rfl rfl ?_)
    first | refine sops_go rfl (so_load (v := .d _) rfl rfl rfl rfl rfl rfl rfl rfl ?_) | refine sops_go rfl (so_load (v := .own _ _ _ _ _) rfl rfl rfl rfl rfl rfl rfl rfl ?_)
    refine sops_go rfl (so_lenSl rfl rfl rfl rfl rfl ?_)
    refine sops_go rfl (st_bin rfl rfl rfl rfl rfl ?_)
    refine sops_go rfl (st_assign (v := .d _) rfl rfl rfl ?_)
    refine sops_nil ?_
    -- stop
    refine swp_len (l := 0) (i := 7) rfl rfl rfl fun hn => ?_
    refine swp_len (l := 0) (i := 8) rfl rfl rfl fun hlen => ?_
    rw [strRows_len] at hn
    rw [V.rows_len] at hlen
    let F0 : Int → St := fun n => { t := upd (upd (upd (upd (fun _ => .any) 4 (.p 0 0 0)) 3 (.d (.v (.int .i64 w)))) 2 (.d (.v (.int .i64 m)))) 1 (.d (.v (.int .i64 n))), n := 73, h := upd (fun _ => .dead) 0 (.cells [.any, .any, .any, .any, .any, .any, .any, .d (.sl true (strRows names)), .d (.sl true (V.rows list))]), nx := 1 }
    refine swp_seqF (F := F0) (P := fun _ => True) ?_ ?_
    · refine swp_seq ?_
      refine swp_region ?_
      refine sops_go rfl (st_assign (v := .d _) rfl rfl rfl ?_)
      refine sops_nil ?_
      refine swp_block ?_
      -- loop
      let F1 : Nat × Int → St := fun p => { F0 p.2 with t := upd (F0 p.2).t 9 (.d (.v (.int .i64 p.1))) }
      refine swp_loopF (F := F1) (fun p => p.1 ≤ names.length) (fun p => names.length - p.1) (0, IntKind.i64.wrap (IntKind.i64.wrap (IntKind.i64.wrap (IntKind.i64.wrap (n + 1) + (text.size : Int)) + (digits.size : Int)) + (names.length : Int))) (Nat.zero_le _) ?_ ?_
      · rw [← strRows_len names]
        refine wk_of rfl (Nat.le_of_ble_eq_true rfl) (by rw [hB]; exact Nat.zero_le _) (tle_upd (le_eq rfl rfl) (tle_upd (le_eq rfl rfl) (tle_upd (le_eq rfl rfl) (tle_upd (le_eq rfl rfl) (tle_upd (le_eq rfl rfl) (tle_any _)))))) (hle_upd (.cells _ _ ⟨le_any _, le_any _, le_any _, le_any _, le_any _, le_any _, le_any _, le_eq rfl rfl, le_eq rfl rfl, trivial⟩) (hle_dead _)) (dead_upd (Nat.le_of_ble_eq_true rfl) (dead_none))
      rintro ⟨k, n1⟩ hk
      simp only at hk
      refine swp_seq ?_
      refine swp_seq ?_
      refine swp_region ?_
      refine sops_go rfl (st_move (v := .d _) rfl rfl rfl ?_)
      first | refine sops_go rfl (so_fieldAddr (v := .p _ _ _) rfl rfl rfl rfl rfl rfl rfl rfl rfl rfl ?_) | refine sops_go rfl (so_fieldAddr (v := .dp _ _) rfl rfl rfl rfl rfl rfl rfl rfl rfl rfl ?_) | refine sops_go rfl (so_fieldAddr (v := .pe _ _ _ _ _) rfl rfl rfl rfl rfl rfl rfl rfl rfl rfl ?_)
      first | refine sops_go rfl (so_load (v := .d _) rfl rfl rfl rfl rfl rfl rfl rfl ?_) | refine sops_go rfl (so_load (v := .own _ _ _ _ _) rfl rfl rfl rfl rfl rfl rfl rfl ?_)
      refine sops_go rfl (so_lenSl rfl rfl rfl rfl rfl ?_)
      refine sops_go rfl (st_bin rfl rfl rfl rfl rfl ?_)
      refine sops_go rfl (st_move (v := .d _) rfl rfl rfl ?_)
      -- guard (some (5, true))
      refine sops_case 35 rfl (fun hb35 => ?_) (fun hb35 => ?_)
      · have hlt : k < names.length := by have := of_decide_eq_true hb35; rw [strRows_len] at this; omega
        first | refine sops_yes rfl rfl rfl rfl (st_move (v := .d _) rfl rfl rfl ?_) | refine sops_no rfl rfl rfl rfl rfl ?_
        first | refine sops_yes rfl rfl rfl rfl (st_move (v := .d _) rfl rfl rfl ?_) | refine sops_no rfl rfl rfl rfl rfl ?_
        first | refine sops_yes rfl rfl rfl rfl (st_bin rfl rfl rfl rfl rfl ?_) | refine sops_no rfl rfl rfl rfl rfl ?_
        refine sops_go rfl (st_pick (v := .d _) rfl rfl rfl rfl ?_)
        refine sops_nil ?_
        -- cond
        refine swp_cond _ rfl (fun hc => ?_) (fun hc => ?_)
        · refine swp_skip ?_
          refine swp_seq ?_
          refine swp_block ?_
          refine swp_region ?_
          refine sops_go rfl (st_move (v := .d _) rfl rfl rfl ?_)
          first | refine sops_go rfl (so_fieldAddr (v := .p _ _ _) rfl rfl rfl rfl rfl rfl rfl rfl rfl rfl ?_) | refine sops_go rfl (so_fieldAddr (v := .dp _ _) rfl rfl rfl rfl rfl rfl rfl rfl rfl rfl ?_) | refine sops_go rfl (so_fieldAddr (v := .pe _ _ _ _ _) rfl rfl rfl rfl rfl rfl rfl rfl rfl rfl ?_)
          first | refine sops_go rfl (so_load (v := .d _) rfl rfl rfl rfl rfl rfl rfl rfl ?_) | refine sops_go rfl (so_load (v := .own _ _ _ _ _) rfl rfl rfl rfl rfl rfl rfl rfl ?_)
          refine sops_go rfl (st_move (v := .d _) rfl rfl rfl ?_)
          -- hand: indexAddr 23 t44 t45
          refine sops_go rfl (so_indexSl rfl rfl rfl rfl rfl rfl rfl (strRows_all _) (by omega) (by rw [strRows_len]; omega) (strRows_get _ _ hlt) ?_)
          refine sops_go rfl (so_load (v := .d _) rfl rfl rfl rfl rfl rfl rfl rfl ?_)
          refine sops_go rfl (so_lenStr rfl rfl rfl rfl rfl ?_)
          refine sops_go rfl (st_bin rfl rfl rfl rfl rfl ?_)
          refine sops_go rfl (st_assign (v := .d _) rfl rfl rfl ?_)
          refine sops_nil ?_
          refine swp_region ?_
          refine sops_go rfl (st_move (v := .d _) rfl rfl rfl ?_)
          refine sops_go rfl (st_bin rfl rfl rfl rfl rfl ?_)
          refine sops_go rfl (st_assign (v := .d _) rfl rfl rfl ?_)
          refine sops_nil ?_
          -- loopend
          refine ⟨(k + 1, IntKind.i64.wrap (n1 + ((names[k]).size : Int))), hlt, by simp only; omega, ?_⟩
          refine wk_of rfl (Nat.le_of_ble_eq_true rfl) (by rw [hB]; exact Nat.zero_le _) (tle_upd (le_eq (next_i64 hlt hn) rfl) (tle_upd (le_eq rfl rfl) (tle_upd (le_eq rfl rfl) (tle_upd (le_eq rfl rfl) (tle_upd (le_eq rfl rfl) (tle_any _)))))) (hle_upd (.cells _ _ ⟨le_any _, le_any _, le_any _, le_any _, le_any _, le_any _, le_any _, le_eq rfl rfl, le_eq rfl rfl, trivial⟩) (hle_dead _)) (dead_upd (Nat.le_of_ble_eq_true rfl) (dead_none))
        · refine swp_exit ?_
          with_reducible refine after_exit ?_
          with_reducible refine after_exit ?_
          refine inblk_hit ?_
          -- cut
          refine ⟨n1, trivial, ?_⟩
          refine wk_of rfl (Nat.le_of_ble_eq_true rfl) (by rw [hB]; exact Nat.zero_le _) (tle_upd (le_eq rfl rfl) (tle_upd (le_eq rfl rfl) (tle_upd (le_eq rfl rfl) (tle_upd (le_eq rfl rfl) (tle_any _))))) (hle_upd (.cells _ _ ⟨le_any _, le_any _, le_any _, le_any _, le_any _, le_any _, le_any _, le_eq rfl rfl, le_eq rfl rfl, trivial⟩) (hle_dead _)) (dead_upd (Nat.le_of_ble_eq_true rfl) (dead_none))
      · first | refine sops_yes rfl rfl rfl rfl (st_move (v := .d _) rfl rfl rfl ?_) | refine sops_no rfl rfl rfl rfl rfl ?_
        first | refine sops_yes rfl rfl rfl rfl (st_move (v := .d _) rfl rfl rfl ?_) | refine sops_no rfl rfl rfl rfl rfl ?_
        first | refine sops_yes rfl rfl rfl rfl (st_bin rfl rfl rfl rfl rfl ?_) | refine sops_no rfl rfl rfl rfl rfl ?_
        refine sops_go rfl (st_pick (v := .d _) rfl rfl rfl rfl ?_)
        refine sops_nil ?_
        -- cond
        refine swp_condF rfl ?_
        refine swp_exit ?_
        with_reducible refine after_exit ?_
        with_reducible refine after_exit ?_
        refine inblk_hit ?_
        -- cut
        refine ⟨n1, trivial, ?_⟩
        refine wk_of rfl (Nat.le_of_ble_eq_true rfl) (by rw [hB]; exact Nat.zero_le _) (tle_upd (le_eq rfl rfl) (tle_upd (le_eq rfl rfl) (tle_upd (le_eq rfl rfl) (tle_upd (le_eq rfl rfl) (tle_any _))))) (hle_upd (.cells _ _ ⟨le_any _, le_any _, le_any _, le_any _, le_any _, le_any _, le_any _, le_eq rfl rfl, le_eq rfl rfl, trivial⟩) (hle_dead _)) (dead_upd (Nat.le_of_ble_eq_true rfl) (dead_none))
    rintro n1 -
    refine swp_seq ?_
    refine swp_seq ?_
    refine swp_region ?_
    refine sops_go rfl (st_assign (v := .d _) rfl rfl rfl ?_)
    refine sops_nil ?_
    refine swp_block ?_
    -- loop
    let F2 : Nat × Int → St := fun p => { F0 p.2 with t := upd (F0 p.2).t 10 (.d (.v (.int .i64 p.1))) }
    refine swp_loopF (F := F2) (fun p => p.1 ≤ list.length) (fun p => list.length - p.1) (0, n1) (Nat.zero_le _) ?_ ?_
    · refine wk_of rfl (Nat.le_of_ble_eq_true rfl) (by rw [hB]; exact Nat.zero_le _) (tle_upd (le_eq rfl rfl) (tle_upd (le_eq rfl rfl) (tle_upd (le_eq rfl rfl) (tle_upd (le_eq rfl rfl) (tle_upd (le_eq rfl rfl) (tle_any _)))))) (hle_upd (.cells _ _ ⟨le_any _, le_any _, le_any _, le_any _, le_any _, le_any _, le_any _, le_eq rfl rfl, le_eq rfl rfl, trivial⟩) (hle_dead _)) (dead_upd (Nat.le_of_ble_eq_true rfl) (dead_none))
    rintro ⟨k, n2⟩ hk
    simp only at hk
    refine swp_seq ?_
    refine swp_seq ?_
    refine swp_region ?_
    refine sops_go rfl (st_move (v := .d _) rfl rfl rfl ?_)
    first | refine sops_go rfl (so_fieldAddr (v := .p _ _ _) rfl rfl rfl rfl rfl rfl rfl rfl rfl rfl ?_) | refine sops_go rfl (so_fieldAddr (v := .dp _ _) rfl rfl rfl rfl rfl rfl rfl rfl rfl rfl ?_) | refine sops_go rfl (so_fieldAddr (v := .pe _ _ _ _ _) rfl rfl rfl rfl rfl rfl rfl rfl rfl rfl ?_)
    first | refine sops_go rfl (so_load (v := .d _) rfl rfl rfl rfl rfl rfl rfl rfl ?_) | refine sops_go rfl (so_load (v := .own _ _ _ _ _) rfl rfl rfl rfl rfl rfl rfl rfl ?_)
    refine sops_go rfl (so_lenSl rfl rfl rfl rfl rfl ?_)
    refine sops_go rfl (st_bin rfl rfl rfl rfl rfl ?_)
    refine sops_go rfl (st_move (v := .d _) rfl rfl rfl ?_)
    -- guard (some (5, true))
    refine sops_case 55 rfl (fun hb55 => ?_) (fun hb55 => ?_)
    · have hlt : k < list.length := by have := of_decide_eq_true hb55; rw [V.rows_len] at this; omega
      first | refine sops_yes rfl rfl rfl rfl (st_move (v := .d _) rfl rfl rfl ?_) | refine sops_no rfl rfl rfl rfl rfl ?_
      first | refine sops_yes rfl rfl rfl rfl (st_move (v := .d _) rfl rfl rfl ?_) | refine sops_no rfl rfl rfl rfl rfl ?_
      first | refine sops_yes rfl rfl rfl rfl (st_bin rfl rfl rfl rfl rfl ?_) | refine sops_no rfl rfl rfl rfl rfl ?_
      refine sops_go rfl (st_pick (v := .d _) rfl rfl rfl rfl ?_)
      refine sops_nil ?_
      -- cond
      refine swp_cond _ rfl (fun hc => ?_) (fun hc => ?_)
      · refine swp_skip ?_
        refine swp_seq ?_
        refine swp_block ?_
        refine swp_region ?_
        first | refine sops_go rfl (so_fieldAddr (v := .p _ _ _) rfl rfl rfl rfl rfl rfl rfl rfl rfl rfl ?_) | refine sops_go rfl (so_fieldAddr (v := .dp _ _) rfl rfl rfl rfl rfl rfl rfl rfl rfl rfl ?_) | refine sops_go rfl (so_fieldAddr (v := .pe _ _ _ _ _) rfl rfl rfl rfl rfl rfl rfl rfl rfl rfl ?_)
        first | refine sops_go rfl (so_load (v := .d _) rfl rfl rfl rfl rfl rfl rfl rfl ?_) | refine sops_go rfl (so_load (v := .own _ _ _ _ _) rfl rfl rfl rfl rfl rfl rfl rfl ?_)
        refine sops_go rfl (st_move (v := .d _) rfl rfl rfl ?_)
        -- hand: indexAddr 39 t63 t64
        refine sops_go rfl (so_indexSl rfl rfl rfl rfl rfl rfl rfl (V.rows_all _) (by omega) (by rw [V.rows_len]; omega) (V.rows_get _ _ hlt) ?_)
        have ihk := ih _ (List.getElem_mem hlt)
        generalize list[k] = x at ihk ⊢
        obtain ⟨a1, a2, a3, a4, a5, a6, a7, a8, a9⟩ := x
        first | refine sops_go rfl (so_load (v := .d (.agg [_, _, _, _, _, _, _, _, _])) rfl rfl rfl rfl rfl rfl rfl rfl ?_) | refine sops_go rfl (so_load (v := .agg [_, _, _, _, _, _, _, _, _]) rfl rfl rfl rfl rfl rfl rfl rfl ?_)
        refine sops_go rfl (st_move (v := .d _) rfl rfl rfl ?_)
        refine sops_go rfl (st_move (v := .d _) rfl rfl rfl ?_)
        refine sops_go rfl (st_move (v := .d _) rfl rfl rfl ?_)
        refine sops_go rfl (st_bin rfl rfl rfl rfl rfl ?_)
        -- hand: CALL f28(t66, t67, t68, t70)
        refine sops_go rfl (st_callS rfl rfl (ihk _ _ _) ⟨na_d _, na_d _, na_d _, na_d _, trivial⟩ rfl fun r hr => ?_)
        obtain ⟨v, rfl⟩ := hr
        refine sops_go rfl (st_assign (v := .d _) rfl rfl rfl ?_)
        refine sops_nil ?_
        refine swp_region ?_
        refine sops_go rfl (st_move (v := .d _) rfl rfl rfl ?_)
        refine sops_go rfl (st_bin rfl rfl rfl rfl rfl ?_)
        refine sops_go rfl (st_assign (v := .d _) rfl rfl rfl ?_)
        refine sops_nil ?_
        -- loopend
        refine ⟨(k + 1, v), hlt, by simp only; omega, ?_⟩
        refine wk_of rfl (Nat.le_of_ble_eq_true rfl) (by rw [hB]; exact Nat.zero_le _) (tle_upd (le_eq (next_i64 hlt hlen) rfl) (tle_upd (le_eq rfl rfl) (tle_upd (le_eq rfl rfl) (tle_upd (le_eq rfl rfl) (tle_upd (le_eq rfl rfl) (tle_any _)))))) (hle_upd (.cells _ _ ⟨le_any _, le_any _, le_any _, le_any _, le_any _, le_any _, le_any _, le_eq rfl rfl, le_eq rfl rfl, trivial⟩) (hle_dead _)) (dead_upd (Nat.le_of_ble_eq_true rfl) (dead_none))
      · refine swp_exit ?_
        with_reducible refine after_exit ?_
        with_reducible refine after_exit ?_
        refine inblk_hit ?_
        refine swp_seq ?_
        refine swp_region ?_
        refine sops_go rfl (st_move (v := .d _) rfl rfl rfl ?_)
        refine sops_go rfl (st_assign (v := .d _) rfl rfl rfl ?_)
        refine sops_nil ?_
        refine swp_ret ?_
        -- ret
        exact ⟨.inl rfl, _, ⟨_, rfl⟩, .inl ⟨8, rfl, ra_d (keeps_v _)⟩⟩
    · first | refine sops_yes rfl rfl rfl rfl (st_move (v := .d _) rfl rfl rfl ?_) | refine sops_no rfl rfl rfl rfl rfl ?_
      first | refine sops_yes rfl rfl rfl rfl (st_move (v := .d _) rfl rfl rfl ?_) | refine sops_no rfl rfl rfl rfl rfl ?_
      first | refine sops_yes rfl rfl rfl rfl (st_bin rfl rfl rfl rfl rfl ?_) | refine sops_no rfl rfl rfl rfl rfl ?_
      refine sops_go rfl (st_pick (v := .d _) rfl rfl rfl rfl ?_)
      refine sops_nil ?_
      -- cond
      refine swp_condF rfl ?_
      refine swp_exit ?_
      with_reducible refine after_exit ?_
      with_reducible refine after_exit ?_
      refine inblk_hit ?_
      refine swp_seq ?_
      refine swp_region ?_
      refine sops_go rfl (st_move (v := .d _) rfl rfl rfl ?_)
      refine sops_go rfl (st_assign (v := .d _) rfl rfl rfl ?_)
      refine sops_nil ?_
      refine swp_ret ?_
      -- ret
      exact ⟨.inl rfl, _, ⟨_, rfl⟩, .inl ⟨8, rfl, ra_d (keeps_v _)⟩⟩


theorem big_s (t : V) : PureS env 14 [.d t.d] isBool := by
  obtain ⟨kind, flag, neg, digits, exp, bits, text, names, list⟩ := t
  refine pureS_of_body Tryd.func14 rfl rfl rfl fun B hB => ?_
  refine swp_seq ?_
  refine swp_region ?_
  refine sops_go rfl (so_box (cs := [_, _, _, _, _, _, _, _, _]) rfl rfl rfl ?_)
  refine sops_go rfl (st_assign (v := .d _) rfl rfl rfl ?_)
  refine sops_nil ?_
  refine swp_seq ?_
  refine swp_region ?_
  first | refine sops_go rfl (so_load (v := .d (.agg [_, _, _, _, _, _, _, _, _])) rfl rfl rfl rfl rfl rfl rfl rfl ?_) | refine sops_go rfl (so_load (v := .agg [_, _, _, _, _, _, _, _, _]) rfl rfl rfl rfl rfl rfl rfl rfl ?_)
  -- hand: CALL f28(t3, 0:i64, 65536:i64, 0:i64)
  refine sops_go rfl (st_callS rfl rfl (partsV_s (.mk kind flag neg digits exp bits text names list) _ _ _) ⟨na_d _, na_d _, na_d _, na_d _, trivial⟩ rfl fun r hr => ?_)
  obtain ⟨v, rfl⟩ := hr
  refine sops_go rfl (st_bin rfl rfl rfl rfl rfl ?_)
  refine sops_go rfl (st_move (v := .d _) rfl rfl rfl ?_)
  -- guard (some (3, false))
  refine sops_case 6 rfl (fun hb6 => ?_) (fun hb6 => ?_)
  · first | refine sops_yes rfl rfl rfl rfl (so_load (v := .d (.agg [_, _, _, _, _, _, _, _, _])) rfl rfl rfl rfl rfl rfl rfl rfl ?_) | refine sops_yes rfl rfl rfl rfl (so_load (v := .agg [_, _, _, _, _, _, _, _, _]) rfl rfl rfl rfl rfl rfl rfl rfl ?_) | refine sops_no rfl rfl rfl rfl rfl ?_
    -- hand: CALL f29(t7)
    first | refine sops_yes rfl rfl rfl rfl (st_call rfl rfl (many_pure (.mk kind flag neg digits exp bits text names list)) ⟨na_d _, trivial⟩ rfl ?_) | refine sops_no rfl rfl rfl rfl rfl ?_
    refine sops_go rfl (st_pick (v := .d _) rfl rfl rfl rfl ?_)
    refine sops_go rfl (st_assign (v := .d _) rfl rfl rfl ?_)
    refine sops_nil ?_
    refine swp_ret ?_
    -- ret
    exact ⟨.inl rfl, _, ⟨_, rfl⟩, .inl ⟨2, rfl, ra_d (keeps_v _)⟩⟩
  · first | refine sops_yes rfl rfl rfl rfl (so_load (v := .d (.agg [_, _, _, _, _, _, _, _, _])) rfl rfl rfl rfl rfl rfl rfl rfl ?_) | refine sops_yes rfl rfl rfl rfl (so_load (v := .agg [_, _, _, _, _, _, _, _, _]) rfl rfl rfl rfl rfl rfl rfl rfl ?_) | refine sops_no rfl rfl rfl rfl rfl ?_
    -- hand: CALL f29(t7)
    first | refine sops_yes rfl rfl rfl rfl (st_call rfl rfl (many_pure (.mk kind flag neg digits exp bits text names list)) ⟨na_d _, trivial⟩ rfl ?_) | refine sops_no rfl rfl rfl rfl rfl ?_
    refine sops_go rfl (st_pick (v := .d _) rfl rfl rfl rfl ?_)
    refine sops_go rfl (st_assign (v := .d _) rfl rfl rfl ?_)
    refine sops_nil ?_
    refine swp_ret ?_
    -- ret
    exact ⟨.inl rfl, _, ⟨_, rfl⟩, .inl ⟨2, rfl, ra_d (keeps_v _)⟩⟩
end Go.Proofs.YtdcpnpcmgfmenaaDoor
/-
  Walks: the document's examples; the law TypesParts. Conditions: none.
-/
set_option linter.unusedVariables false
set_option maxRecDepth 100000
namespace Go.Proofs.YtdcpnpcmgfmenaaDoor
open Go Go.Proofs.YtdcpnpcmgfmenaaDoor.Lg

theorem na_nilF {E : Env} {σ : St} (s : Bool) : NA E σ (.d (.v (.slice none 0 0))) (.d (.sl s [])) := fun B g w a hr y h => by rw [vr_val h]; exact .d _ _ (.nil _ _ _)
theorem tf_plain (k : Int) : (T.mk k [] []).fit := ⟨by simp, trivial⟩
theorem fits_of {s : ByteArray} (h : s.size ≤ 1000000) : fits s := by unfold fits; omega
theorem tA_fit : tA.fit := ⟨by intro n hn; simp at hn; subst hn; exact fits_of (by decide), ⟨by simp, trivial⟩, trivial⟩
theorem tB_fit : tB.fit := ⟨by intro n hn; simp at hn; subst hn; exact fits_of (by decide), ⟨by simp, trivial⟩, trivial⟩
theorem vFive_fit : vFive.fit := ⟨fits_of (by decide), fits_of (by decide), by simp, trivial⟩
theorem vHalf_fit : vHalf.fit := ⟨fits_of (by decide), fits_of (by decide), by simp, trivial⟩

theorem T.Sub_ok {a b : T} (h : (a.Sub b).2 = 0) : a.check = 0 ∧ b.check = 0 ∧ (a.Sub b).1 = a.sub b := by
  unfold T.Sub at h ⊢
  split at h
  · rename_i hc; simp at hc; exact absurd h hc
  · rename_i hc
    rw [if_neg hc]
    simp at hc
    exact ⟨(T.both_checks hc).1, (T.both_checks hc).2, rfl⟩
theorem T.Has_ok {t : T} {v : V} (h : (t.Has v).2 = 0) : t.check = 0 ∧ v.check = 0 ∧ (t.Has v).1 = t.has v := by
  unfold T.Has at h ⊢
  split at h
  · rename_i hc; simp at hc; exact absurd h hc
  · rename_i hc
    split at h
    · rename_i hd; simp at hd; exact absurd h hd
    · rename_i hd
      rw [if_neg hc, if_neg hd]
      simp at hc hd
      exact ⟨hc, hd, rfl⟩

theorem awake_pure : Pure env 12 [] (.d (.v (.bool true))) := by
  have c1 := Has_pure (T.mk 5 [] []) vFive (tf_plain 5) vFive_fit true true
  have c2 := Has_pure (T.mk 5 [] []) vHalf (tf_plain 5) vHalf_fit true true
  have c3 := Sub_pure (T.mk 5 [] []) (T.mk 4 [] []) (tf_plain 5) (tf_plain 4) true true
  have c4 := Sub_pure (T.mk 4 [] []) (T.mk 5 [] []) (tf_plain 4) (tf_plain 5) true true
  have c5 := Join_pure tA tB tA_fit tB_fit
  have c6 := checkT_pure (T.mk 0 [] []) (tf_plain 0) true
  have c7 := checkT_pure (T.mk 9 [] []) (tf_plain 9) true
  rw [aw1] at c1
  rw [aw2] at c2
  rw [aw3] at c3
  rw [aw4] at c4
  rw [aw5] at c5
  rw [aw6] at c6
  rw [aw7] at c7
  refine pure_of_body Tryd.func12 rfl rfl rfl fun B hB => ?_
  refine swp_seq ?_
  refine swp_region ?_
  refine sops_go rfl (st_assign (v := .d _) rfl rfl rfl ?_)
  refine sops_nil ?_
  refine swp_seq ?_
  refine swp_region ?_
  first | refine sops_go rfl (so_build (v := .d (.agg [_, _, _])) rfl rfl rfl rfl rfl rfl rfl ?_) | refine sops_go rfl (so_build (v := .agg [_, _, _]) rfl rfl rfl rfl rfl rfl rfl ?_)
  first | refine sops_go rfl (so_build (v := .d (.agg [_, _, _, _, _, _, _, _, _])) rfl rfl rfl rfl rfl rfl rfl ?_) | refine sops_go rfl (so_build (v := .agg [_, _, _, _, _, _, _, _, _]) rfl rfl rfl rfl rfl rfl rfl ?_)
  refine sops_go rfl (so_alloc (cs := [_, _, _, _, _, _, _, _, _]) rfl rfl rfl rfl ?_)
  refine sops_go rfl (so_store rfl rfl rfl rfl rfl rfl rfl rfl rfl (zs := [_, _, _, _, _, _, _, _, _]) rfl ?_)
  refine sops_nil ?_
  refine swp_seq ?_
  refine swp_region ?_
  first | refine sops_go rfl (so_build (v := .d (.agg [_, _, _])) rfl rfl rfl rfl rfl rfl rfl ?_) | refine sops_go rfl (so_build (v := .agg [_, _, _]) rfl rfl rfl rfl rfl rfl rfl ?_)
  first | refine sops_go rfl (so_build (v := .d (.agg [_, _, _, _, _, _, _, _, _])) rfl rfl rfl rfl rfl rfl rfl ?_) | refine sops_go rfl (so_build (v := .agg [_, _, _, _, _, _, _, _, _]) rfl rfl rfl rfl rfl rfl rfl ?_)
  refine sops_go rfl (so_alloc (cs := [_, _, _, _, _, _, _, _, _]) rfl rfl rfl rfl ?_)
  refine sops_go rfl (so_store rfl rfl rfl rfl rfl rfl rfl rfl rfl (zs := [_, _, _, _, _, _, _, _, _]) rfl ?_)
  refine sops_nil ?_
  refine swp_seq ?_
  refine swp_regionQ 7 (by kernel_rfl) rfl rfl rfl ?_
  refine h0_go rfl (st_call rfl rfl (plain_pure _) ⟨na_d _, trivial⟩ rfl ⟨_, rfl, ?_⟩)
  first | refine h0_go rfl (so_load (v := .d (.agg [_, _, _, _, _, _, _, _, _])) rfl rfl rfl rfl rfl rfl rfl rfl ⟨_, rfl, ?_⟩) | refine h0_go rfl (so_load (v := .agg [_, _, _, _, _, _, _, _, _]) rfl rfl rfl rfl rfl rfl rfl rfl ⟨_, rfl, ?_⟩)
  refine h0_go rfl (st_call rfl rfl (c1) ⟨na_d _, na_dagg ⟨na_d _, na_d _, na_d _, na_d _, na_d _, na_d _, na_d _, na_nil, na_nil, trivial⟩, trivial⟩ rfl ⟨_, rfl, ?_⟩)
  refine h0_go rfl (st_move (v := .tup _) rfl rfl rfl ⟨_, rfl, ?_⟩)
  refine h0_go rfl (st_extract (c := .d _) rfl rfl rfl rfl ⟨_, rfl, ?_⟩)
  refine h0_go rfl (st_extract (c := .d _) rfl rfl rfl rfl ⟨_, rfl, ?_⟩)
  refine h0_go rfl (st_assign (v := .d _) rfl rfl rfl ⟨_, rfl, ?_⟩)
  refine h0_nil ?_
  refine sops_go rfl (st_assign (v := .d _) rfl rfl rfl ?_)
  refine sops_nil ?_
  refine swp_seq ?_
  refine swp_regionQ 7 (by kernel_rfl) rfl rfl rfl ?_
  refine h0_go rfl (st_call rfl rfl (plain_pure _) ⟨na_d _, trivial⟩ rfl ⟨_, rfl, ?_⟩)
  first | refine h0_go rfl (so_load (v := .d (.agg [_, _, _, _, _, _, _, _, _])) rfl rfl rfl rfl rfl rfl rfl rfl ⟨_, rfl, ?_⟩) | refine h0_go rfl (so_load (v := .agg [_, _, _, _, _, _, _, _, _]) rfl rfl rfl rfl rfl rfl rfl rfl ⟨_, rfl, ?_⟩)
  refine h0_go rfl (st_call rfl rfl (c2) ⟨na_d _, na_dagg ⟨na_d _, na_d _, na_d _, na_d _, na_d _, na_d _, na_d _, na_nil, na_nil, trivial⟩, trivial⟩ rfl ⟨_, rfl, ?_⟩)
  refine h0_go rfl (st_move (v := .tup _) rfl rfl rfl ⟨_, rfl, ?_⟩)
  refine h0_go rfl (st_extract (c := .d _) rfl rfl rfl rfl ⟨_, rfl, ?_⟩)
  refine h0_go rfl (st_extract (c := .d _) rfl rfl rfl rfl ⟨_, rfl, ?_⟩)
  refine h0_go rfl (st_assign (v := .d _) rfl rfl rfl ⟨_, rfl, ?_⟩)
  refine h0_nil ?_
  refine sops_go rfl (st_assign (v := .d _) rfl rfl rfl ?_)
  refine sops_nil ?_
  refine swp_seq ?_
  refine swp_region ?_
  refine sops_go rfl (st_call rfl rfl (plain_pure _) ⟨na_d _, trivial⟩ rfl ?_)
  refine sops_go rfl (st_call rfl rfl (plain_pure _) ⟨na_d _, trivial⟩ rfl ?_)
  refine sops_go rfl (st_call rfl rfl (c3) ⟨na_d _, na_d _, trivial⟩ rfl ?_)
  refine sops_go rfl (st_move (v := .tup _) rfl rfl rfl ?_)
  refine sops_go rfl (st_extract (c := .d _) rfl rfl rfl rfl ?_)
  refine sops_go rfl (st_extract (c := .d _) rfl rfl rfl rfl ?_)
  refine sops_go rfl (st_assign (v := .d _) rfl rfl rfl ?_)
  refine sops_go rfl (st_assign (v := .d _) rfl rfl rfl ?_)
  refine sops_nil ?_
  refine swp_seq ?_
  refine swp_region ?_
  refine sops_go rfl (st_call rfl rfl (plain_pure _) ⟨na_d _, trivial⟩ rfl ?_)
  refine sops_go rfl (st_call rfl rfl (plain_pure _) ⟨na_d _, trivial⟩ rfl ?_)
  refine sops_go rfl (st_call rfl rfl (c4) ⟨na_d _, na_d _, trivial⟩ rfl ?_)
  refine sops_go rfl (st_move (v := .tup _) rfl rfl rfl ?_)
  refine sops_go rfl (st_extract (c := .d _) rfl rfl rfl rfl ?_)
  refine sops_go rfl (st_extract (c := .d _) rfl rfl rfl rfl ?_)
  refine sops_go rfl (st_assign (v := .d _) rfl rfl rfl ?_)
  refine sops_go rfl (st_assign (v := .d _) rfl rfl rfl ?_)
  refine sops_nil ?_
  refine swp_seq ?_
  refine swp_region ?_
  refine sops_go rfl (st_call rfl rfl (plain_pure _) ⟨na_d _, trivial⟩ rfl ?_)
  refine sops_go rfl (st_call rfl rfl (union_pure _ (T.mk 5 [] [])) ⟨na_d _, na_d _, trivial⟩ rfl ?_)
  refine sops_go rfl (st_call rfl rfl (plain_pure _) ⟨na_d _, trivial⟩ rfl ?_)
  refine sops_go rfl (st_call rfl rfl (union_pure _ (T.mk 7 [] [])) ⟨na_d _, na_d _, trivial⟩ rfl ?_)
  refine sops_go rfl (st_call rfl rfl (c5) ⟨na_d _, na_d _, trivial⟩ rfl ?_)
  refine sops_go rfl (st_move (v := .tup _) rfl rfl rfl ?_)
  first | refine sops_go rfl (st_extract (c := .d _) rfl rfl rfl rfl ?_) | refine sops_go rfl (st_extract (c := .agg _) rfl rfl rfl rfl ?_)
  refine sops_go rfl (st_extract (c := .d _) rfl rfl rfl rfl ?_)
  refine sops_go rfl (so_alloc (cs := [_, _, _]) rfl rfl rfl rfl ?_)
  refine sops_go rfl (so_store rfl rfl rfl rfl rfl rfl rfl rfl rfl (zs := [_, _, _]) rfl ?_)
  refine sops_go rfl (st_assign (v := .d _) rfl rfl rfl ?_)
  refine sops_nil ?_
  refine swp_seq ?_
  refine swp_region ?_
  refine sops_go rfl (st_move (v := .d _) rfl rfl rfl ?_)
  refine sops_go rfl (st_bin rfl rfl rfl rfl rfl ?_)
  refine sops_go rfl (st_move (v := .d _) rfl rfl rfl ?_)
  refine' sops_and (d := 52) (p := 55) [53, 54] 3 rfl rfl rfl (fun hb52 => ?a52) (fun hb52 => ?b52) ?_
  case a52 =>
    refine sops_yes rfl rfl rfl rfl (st_move (v := .d _) rfl rfl rfl ?_)
    refine sops_yes rfl rfl rfl rfl (st_bin rfl rfl rfl rfl rfl ?_)
    refine sops_go rfl (st_pick (v := .d _) rfl rfl rfl rfl ?_)
    refine sops_nil ?_
    exact ⟨rfl, rfl, rfl, rfl, [_, _], rfl, rfl⟩
  case b52 =>
    refine sops_no rfl rfl rfl rfl rfl ?_
    refine sops_no rfl rfl rfl rfl rfl ?_
    refine sops_go rfl (st_pick (v := .d _) rfl rfl rfl rfl ?_)
    refine sops_nil ?_
    exact ⟨rfl, rfl, rfl, rfl, [_, _], rfl, rfl⟩
  refine sops_go rfl (st_move (v := .d _) rfl rfl rfl ?_)
  refine' sops_and (d := 56) (p := 59) [57, 58] 3 rfl rfl rfl (fun hb56 => ?a56) (fun hb56 => ?b56) ?_
  case a56 =>
    refine sops_yes rfl rfl rfl rfl (st_move (v := .d _) rfl rfl rfl ?_)
    refine sops_yes rfl rfl rfl rfl (st_bin rfl rfl rfl rfl rfl ?_)
    refine sops_go rfl (st_pick (v := .d _) rfl rfl rfl rfl ?_)
    refine sops_nil ?_
    exact ⟨rfl, rfl, rfl, rfl, [_, _], rfl, rfl⟩
  case b56 =>
    refine sops_no rfl rfl rfl rfl rfl ?_
    refine sops_no rfl rfl rfl rfl rfl ?_
    refine sops_go rfl (st_pick (v := .d _) rfl rfl rfl rfl ?_)
    refine sops_nil ?_
    exact ⟨rfl, rfl, rfl, rfl, [_, _], rfl, rfl⟩
  refine sops_go rfl (st_move (v := .d _) rfl rfl rfl ?_)
  refine' sops_and (d := 60) (p := 63) [61, 62] 3 rfl rfl rfl (fun hb60 => ?a60) (fun hb60 => ?b60) ?_
  case a60 =>
    refine sops_yes rfl rfl rfl rfl (st_move (v := .d _) rfl rfl rfl ?_)
    refine sops_yes rfl rfl rfl rfl (st_bin rfl rfl rfl rfl rfl ?_)
    refine sops_go rfl (st_pick (v := .d _) rfl rfl rfl rfl ?_)
    refine sops_nil ?_
    exact ⟨rfl, rfl, rfl, rfl, [_, _], rfl, rfl⟩
  case b60 =>
    refine sops_no rfl rfl rfl rfl rfl ?_
    refine sops_no rfl rfl rfl rfl rfl ?_
    refine sops_go rfl (st_pick (v := .d _) rfl rfl rfl rfl ?_)
    refine sops_nil ?_
    exact ⟨rfl, rfl, rfl, rfl, [_, _], rfl, rfl⟩
  refine sops_go rfl (st_move (v := .d _) rfl rfl rfl ?_)
  refine' sops_and (d := 64) (p := 67) [65, 66] 3 rfl rfl rfl (fun hb64 => ?a64) (fun hb64 => ?b64) ?_
  case a64 =>
    refine sops_yes rfl rfl rfl rfl (st_move (v := .d _) rfl rfl rfl ?_)
    refine sops_yes rfl rfl rfl rfl (st_bin rfl rfl rfl rfl rfl ?_)
    refine sops_go rfl (st_pick (v := .d _) rfl rfl rfl rfl ?_)
    refine sops_nil ?_
    exact ⟨rfl, rfl, rfl, rfl, [_, _], rfl, rfl⟩
  case b64 =>
    refine sops_no rfl rfl rfl rfl rfl ?_
    refine sops_no rfl rfl rfl rfl rfl ?_
    refine sops_go rfl (st_pick (v := .d _) rfl rfl rfl rfl ?_)
    refine sops_nil ?_
    exact ⟨rfl, rfl, rfl, rfl, [_, _], rfl, rfl⟩
  refine sops_go rfl (st_move (v := .d _) rfl rfl rfl ?_)
  refine' sops_and (d := 68) (p := 70) [69] 2 rfl rfl rfl (fun hb68 => ?a68) (fun hb68 => ?b68) ?_
  case a68 =>
    refine sops_yes rfl rfl rfl rfl (st_move (v := .d _) rfl rfl rfl ?_)
    refine sops_go rfl (st_pick (v := .d _) rfl rfl rfl rfl ?_)
    refine sops_nil ?_
    exact ⟨rfl, rfl, rfl, rfl, [_], rfl, rfl⟩
  case b68 =>
    refine sops_no rfl rfl rfl rfl rfl ?_
    refine sops_go rfl (st_pick (v := .d _) rfl rfl rfl rfl ?_)
    refine sops_nil ?_
    exact ⟨rfl, rfl, rfl, rfl, [_], rfl, rfl⟩
  refine sops_go rfl (st_move (v := .d _) rfl rfl rfl ?_)
  refine' sops_and (d := 71) (p := 74) [72, 73] 3 rfl rfl rfl (fun hb71 => ?a71) (fun hb71 => ?b71) ?_
  case a71 =>
    refine sops_yes rfl rfl rfl rfl (st_move (v := .d _) rfl rfl rfl ?_)
    refine sops_yes rfl rfl rfl rfl (st_not rfl rfl rfl ?_)
    refine sops_go rfl (st_pick (v := .d _) rfl rfl rfl rfl ?_)
    refine sops_nil ?_
    exact ⟨rfl, rfl, rfl, rfl, [_, _], rfl, rfl⟩
  case b71 =>
    refine sops_no rfl rfl rfl rfl rfl ?_
    refine sops_no rfl rfl rfl rfl rfl ?_
    refine sops_go rfl (st_pick (v := .d _) rfl rfl rfl rfl ?_)
    refine sops_nil ?_
    exact ⟨rfl, rfl, rfl, rfl, [_, _], rfl, rfl⟩
  refine sops_go rfl (st_move (v := .d _) rfl rfl rfl ?_)
  refine' sops_and (d := 75) (p := 77) [76] 2 rfl rfl rfl (fun hb75 => ?a75) (fun hb75 => ?b75) ?_
  case a75 =>
    refine sops_yes rfl rfl rfl rfl (st_move (v := .d _) rfl rfl rfl ?_)
    refine sops_go rfl (st_pick (v := .d _) rfl rfl rfl rfl ?_)
    refine sops_nil ?_
    exact ⟨rfl, rfl, rfl, rfl, [_], rfl, rfl⟩
  case b75 =>
    refine sops_no rfl rfl rfl rfl rfl ?_
    refine sops_go rfl (st_pick (v := .d _) rfl rfl rfl rfl ?_)
    refine sops_nil ?_
    exact ⟨rfl, rfl, rfl, rfl, [_], rfl, rfl⟩
  refine sops_go rfl (st_move (v := .d _) rfl rfl rfl ?_)
  refine' sops_and (d := 78) (p := 81) [79, 80] 3 rfl rfl rfl (fun hb78 => ?a78) (fun hb78 => ?b78) ?_
  case a78 =>
    refine sops_yes rfl rfl rfl rfl (st_move (v := .d _) rfl rfl rfl ?_)
    refine sops_yes rfl rfl rfl rfl (st_not rfl rfl rfl ?_)
    refine sops_go rfl (st_pick (v := .d _) rfl rfl rfl rfl ?_)
    refine sops_nil ?_
    exact ⟨rfl, rfl, rfl, rfl, [_, _], rfl, rfl⟩
  case b78 =>
    refine sops_no rfl rfl rfl rfl rfl ?_
    refine sops_no rfl rfl rfl rfl rfl ?_
    refine sops_go rfl (st_pick (v := .d _) rfl rfl rfl rfl ?_)
    refine sops_nil ?_
    exact ⟨rfl, rfl, rfl, rfl, [_, _], rfl, rfl⟩
  refine sops_go rfl (st_assign (v := .d _) rfl rfl rfl ?_)
  refine sops_nil ?_
  refine swp_seq ?_
  refine swp_region ?_
  refine sops_go rfl (st_move (v := .d _) rfl rfl rfl ?_)
  refine sops_go rfl (st_move (v := .d _) rfl rfl rfl ?_)
  refine' sops_and (d := 83) (p := 87) [84, 85, 86] 4 rfl rfl rfl (fun hb83 => ?a83) (fun hb83 => ?b83) ?_
  case a83 =>
    first | refine sops_yes rfl rfl rfl rfl (so_fieldAddr (v := .p _ _ _) rfl rfl rfl rfl rfl rfl rfl rfl rfl rfl ?_) | refine sops_yes rfl rfl rfl rfl (so_fieldAddr (v := .dp _ _) rfl rfl rfl rfl rfl rfl rfl rfl rfl rfl ?_) | refine sops_yes rfl rfl rfl rfl (so_fieldAddr (v := .pe _ _ _ _ _) rfl rfl rfl rfl rfl rfl rfl rfl rfl rfl ?_)
    refine sops_yes rfl rfl rfl rfl (so_load (v := .d _) rfl rfl rfl rfl rfl rfl rfl rfl ?_)
    refine sops_yes rfl rfl rfl rfl (st_bin rfl rfl rfl rfl rfl ?_)
    refine sops_go rfl (st_pick (v := .d _) rfl rfl rfl rfl ?_)
    refine sops_nil ?_
    exact ⟨rfl, rfl, rfl, rfl, [_, _, _], rfl, rfl⟩
  case b83 =>
    refine sops_no rfl rfl rfl rfl rfl ?_
    refine sops_no rfl rfl rfl rfl rfl ?_
    refine sops_no rfl rfl rfl rfl rfl ?_
    refine sops_go rfl (st_pick (v := .d _) rfl rfl rfl rfl ?_)
    refine sops_nil ?_
    exact ⟨rfl, rfl, rfl, rfl, [_, _, _], rfl, rfl⟩
  refine sops_go rfl (st_move (v := .d _) rfl rfl rfl ?_)
  refine' sops_and (d := 88) (p := 93) [89, 90, 91, 92] 5 rfl rfl rfl (fun hb88 => ?a88) (fun hb88 => ?b88) ?_
  case a88 =>
    first | refine sops_yes rfl rfl rfl rfl (so_fieldAddr (v := .p _ _ _) rfl rfl rfl rfl rfl rfl rfl rfl rfl rfl ?_) | refine sops_yes rfl rfl rfl rfl (so_fieldAddr (v := .dp _ _) rfl rfl rfl rfl rfl rfl rfl rfl rfl rfl ?_) | refine sops_yes rfl rfl rfl rfl (so_fieldAddr (v := .pe _ _ _ _ _) rfl rfl rfl rfl rfl rfl rfl rfl rfl rfl ?_)
    first | refine sops_yes rfl rfl rfl rfl (so_load (v := .d _) rfl rfl rfl rfl rfl rfl rfl rfl ?_) | refine sops_yes rfl rfl rfl rfl (so_load (v := .own _ _ _ _ _) rfl rfl rfl rfl rfl rfl rfl rfl ?_)
    refine sops_yes rfl rfl rfl rfl (so_lenSl rfl rfl rfl rfl rfl ?_)
    refine sops_yes rfl rfl rfl rfl (st_bin rfl rfl rfl rfl rfl ?_)
    refine sops_go rfl (st_pick (v := .d _) rfl rfl rfl rfl ?_)
    refine sops_nil ?_
    exact ⟨rfl, rfl, rfl, rfl, [_, _, _, _], rfl, rfl⟩
  case b88 =>
    refine sops_no rfl rfl rfl rfl rfl ?_
    refine sops_no rfl rfl rfl rfl rfl ?_
    refine sops_no rfl rfl rfl rfl rfl ?_
    refine sops_no rfl rfl rfl rfl rfl ?_
    refine sops_go rfl (st_pick (v := .d _) rfl rfl rfl rfl ?_)
    refine sops_nil ?_
    exact ⟨rfl, rfl, rfl, rfl, [_, _, _, _], rfl, rfl⟩
  refine sops_go rfl (st_move (v := .d _) rfl rfl rfl ?_)
  refine' sops_and (d := 94) (p := 100) [95, 96, 97, 98, 99] 6 rfl rfl rfl (fun hb94 => ?a94) (fun hb94 => ?b94) ?_
  case a94 =>
    first | refine sops_yes rfl rfl rfl rfl (so_fieldAddr (v := .p _ _ _) rfl rfl rfl rfl rfl rfl rfl rfl rfl rfl ?_) | refine sops_yes rfl rfl rfl rfl (so_fieldAddr (v := .dp _ _) rfl rfl rfl rfl rfl rfl rfl rfl rfl rfl ?_) | refine sops_yes rfl rfl rfl rfl (so_fieldAddr (v := .pe _ _ _ _ _) rfl rfl rfl rfl rfl rfl rfl rfl rfl rfl ?_)
    first | refine sops_yes rfl rfl rfl rfl (so_load (v := .d _) rfl rfl rfl rfl rfl rfl rfl rfl ?_) | refine sops_yes rfl rfl rfl rfl (so_load (v := .own _ _ _ _ _) rfl rfl rfl rfl rfl rfl rfl rfl ?_)
    refine sops_yes rfl rfl rfl rfl (so_indexSl rfl rfl rfl rfl rfl rfl rfl (strRows_all _) (by omega) (by simp [strRows]) rfl ?_)
    refine sops_yes rfl rfl rfl rfl (so_load (v := .d _) rfl rfl rfl rfl rfl rfl rfl rfl ?_)
    refine sops_yes rfl rfl rfl rfl (st_bin rfl rfl rfl rfl rfl ?_)
    refine sops_go rfl (st_pick (v := .d _) rfl rfl rfl rfl ?_)
    refine sops_nil ?_
    exact ⟨rfl, rfl, rfl, rfl, [_, _, _, _, _], rfl, rfl⟩
  case b94 =>
    refine sops_no rfl rfl rfl rfl rfl ?_
    refine sops_no rfl rfl rfl rfl rfl ?_
    refine sops_no rfl rfl rfl rfl rfl ?_
    refine sops_no rfl rfl rfl rfl rfl ?_
    refine sops_no rfl rfl rfl rfl rfl ?_
    refine sops_go rfl (st_pick (v := .d _) rfl rfl rfl rfl ?_)
    refine sops_nil ?_
    exact ⟨rfl, rfl, rfl, rfl, [_, _, _, _, _], rfl, rfl⟩
  refine sops_go rfl (st_move (v := .d _) rfl rfl rfl ?_)
  refine' sops_and (d := 101) (p := 105) [102, 103, 104] 4 rfl rfl rfl (fun hb101 => ?a101) (fun hb101 => ?b101) ?_
  case a101 =>
    first | refine sops_yes rfl rfl rfl rfl (so_build (v := .d (.agg [_, _, _])) rfl rfl rfl rfl rfl rfl rfl ?_) | refine sops_yes rfl rfl rfl rfl (so_build (v := .agg [_, _, _]) rfl rfl rfl rfl rfl rfl rfl ?_)
    refine sops_yes rfl rfl rfl rfl (st_call rfl rfl (c6) ⟨na_dagg ⟨na_d _, na_nil, na_nil, trivial⟩, trivial⟩ rfl ?_)
    refine sops_yes rfl rfl rfl rfl (st_bin rfl rfl rfl rfl rfl ?_)
    refine sops_go rfl (st_pick (v := .d _) rfl rfl rfl rfl ?_)
    refine sops_nil ?_
    exact ⟨rfl, rfl, rfl, rfl, [_, _, _], rfl, rfl⟩
  case b101 =>
    refine sops_no rfl rfl rfl rfl rfl ?_
    refine sops_no rfl rfl rfl rfl rfl ?_
    refine sops_no rfl rfl rfl rfl rfl ?_
    refine sops_go rfl (st_pick (v := .d _) rfl rfl rfl rfl ?_)
    refine sops_nil ?_
    exact ⟨rfl, rfl, rfl, rfl, [_, _, _], rfl, rfl⟩
  refine sops_go rfl (st_move (v := .d _) rfl rfl rfl ?_)
  refine' sops_and (d := 106) (p := 110) [107, 108, 109] 4 rfl rfl rfl (fun hb106 => ?a106) (fun hb106 => ?b106) ?_
  case a106 =>
    refine sops_yes rfl rfl rfl rfl (st_call rfl rfl (plain_pure _) ⟨na_d _, trivial⟩ rfl ?_)
    refine sops_yes rfl rfl rfl rfl (st_call rfl rfl (c7) ⟨na_d _, trivial⟩ rfl ?_)
    refine sops_yes rfl rfl rfl rfl (st_bin rfl rfl rfl rfl rfl ?_)
    refine sops_go rfl (st_pick (v := .d _) rfl rfl rfl rfl ?_)
    refine sops_nil ?_
    exact ⟨rfl, rfl, rfl, rfl, [_, _, _], rfl, rfl⟩
  case b106 =>
    refine sops_no rfl rfl rfl rfl rfl ?_
    refine sops_no rfl rfl rfl rfl rfl ?_
    refine sops_no rfl rfl rfl rfl rfl ?_
    refine sops_go rfl (st_pick (v := .d _) rfl rfl rfl rfl ?_)
    refine sops_nil ?_
    exact ⟨rfl, rfl, rfl, rfl, [_, _, _], rfl, rfl⟩
  refine sops_go rfl (st_assign (v := .d _) rfl rfl rfl ?_)
  refine sops_nil ?_
  refine swp_ret ?_
  exact fin_b rfl rfl (by simp [strRows])

theorem TypesParts_pure (a b : T) (v : V) (ha : a.fit) (hb : b.fit) (hv : v.fit) : Pure env 4 [.d a.d, .d b.d, .d v.d] (.d (.v (.bool true))) := by
  have c0a := bigType_s a
  have c0b := bigType_s b
  have c0v := big_s v
  have c1 := Sub_pure a b ha hb true true
  have c2 := Has_pure a v ha hv true true
  have c3 := Has_pure b v hb hv true true
  have hlaw : (a.Sub b).2 = 0 → (a.Has v).2 = 0 → (b.Has v).2 = 0 → (a.Sub b).1 = true → (a.Has v).1 = true → (b.Has v).1 = true := by
    intro e1 e2 e3
    obtain ⟨h1, h2, h3⟩ := T.Sub_ok e1
    obtain ⟨h4, h5, h6⟩ := T.Has_ok e2
    obtain ⟨h7, h8, h9⟩ := T.Has_ok e3
    rw [h3, h6, h9]
    exact fun s h => T.sub_has a b v (T.check_ok h1) (T.check_ok h2) (V.check_ok h5) s h
  generalize a.Sub b = r1 at *
  generalize a.Has v = r2 at *
  generalize b.Has v = r3 at *
  rw [T.df_d] at c0a c0b ⊢
  rw [T.df_d] at ⊢
  rw [V.df_d] at c0v ⊢
  obtain ⟨p1, e1⟩ := r1
  obtain ⟨p2, e2⟩ := r2
  obtain ⟨p3, e3⟩ := r3
  obtain ⟨ka, na, la⟩ := a
  obtain ⟨kb, nb, lb⟩ := b
  obtain ⟨vk, flag, neg, digits, exp, bits, text, vnames, vlist⟩ := v
  refine pure_of_body Tryd.func4 rfl rfl rfl fun B hB => ?_
  refine swp_seq ?_
  refine swp_region ?_
  refine sops_go rfl (so_box (cs := [_, _, _]) rfl rfl rfl ?_)
  refine sops_go rfl (so_box (cs := [_, _, _]) rfl rfl rfl ?_)
  refine sops_go rfl (so_box (cs := [_, _, _, _, _, _, _, _, _]) rfl rfl rfl ?_)
  refine sops_go rfl (st_assign (v := .d _) rfl rfl rfl ?_)
  refine sops_nil ?_
  refine swp_seq ?_
  refine swp_seq ?_
  refine swp_region ?_
  first | refine sops_go rfl (so_load (v := .d (.agg [_, _, _])) rfl rfl rfl rfl rfl rfl rfl rfl ?_) | refine sops_go rfl (so_load (v := .agg [_, _, _]) rfl rfl rfl rfl rfl rfl rfl rfl ?_)
  refine sops_go rfl (st_callS rfl rfl (c0a) ⟨na_d _, trivial⟩ rfl fun r hr => ?_)
  obtain ⟨b1, rfl⟩ := hr
  refine sops_go rfl (st_move (v := .d _) rfl rfl rfl ?_)
  refine sops_case 15 rfl (fun hb15 => ?_) (fun hb15 => ?_)
  · refine sops_no rfl rfl rfl rfl rfl ?_
    refine sops_no rfl rfl rfl rfl rfl ?_
    refine sops_go rfl (st_pick (v := .d _) rfl rfl rfl rfl ?_)
    refine sops_go rfl (st_move (v := .d _) rfl rfl rfl ?_)
    refine sops_no rfl rfl rfl rfl rfl ?_
    refine sops_no rfl rfl rfl rfl rfl ?_
    refine sops_go rfl (st_pick (v := .d _) rfl rfl rfl rfl ?_)
    refine sops_nil ?_
    refine swp_condT rfl ?_
    refine swp_seq ?_
    refine swp_region ?_
    refine sops_go rfl (st_assign (v := .d _) rfl rfl rfl ?_)
    refine sops_nil ?_
    refine swp_ret ?_
    with_reducible refine after_ret ?_
    exact fin_b rfl rfl rfl
  · first | refine sops_yes rfl rfl rfl rfl (so_load (v := .d (.agg [_, _, _])) rfl rfl rfl rfl rfl rfl rfl rfl ?_) | refine sops_yes rfl rfl rfl rfl (so_load (v := .agg [_, _, _]) rfl rfl rfl rfl rfl rfl rfl rfl ?_)
    refine sops_yes rfl rfl rfl rfl (st_callS rfl rfl (c0b) ⟨na_d _, trivial⟩ rfl fun r hr => ?_)
    obtain ⟨b2, rfl⟩ := hr
    refine sops_go rfl (st_pick (v := .d _) rfl rfl rfl rfl ?_)
    refine sops_go rfl (st_move (v := .d _) rfl rfl rfl ?_)
    refine sops_case 19 rfl (fun hb19 => ?_) (fun hb19 => ?_)
    · refine sops_no rfl rfl rfl rfl rfl ?_
      refine sops_no rfl rfl rfl rfl rfl ?_
      refine sops_go rfl (st_pick (v := .d _) rfl rfl rfl rfl ?_)
      refine sops_nil ?_
      refine swp_condT rfl ?_
      refine swp_seq ?_
      refine swp_region ?_
      refine sops_go rfl (st_assign (v := .d _) rfl rfl rfl ?_)
      refine sops_nil ?_
      refine swp_ret ?_
      with_reducible refine after_ret ?_
      exact fin_b rfl rfl rfl
    · first | refine sops_yes rfl rfl rfl rfl (so_load (v := .d (.agg [_, _, _, _, _, _, _, _, _])) rfl rfl rfl rfl rfl rfl rfl rfl ?_) | refine sops_yes rfl rfl rfl rfl (so_load (v := .agg [_, _, _, _, _, _, _, _, _]) rfl rfl rfl rfl rfl rfl rfl rfl ?_)
      refine sops_yes rfl rfl rfl rfl (st_callS rfl rfl (c0v) ⟨na_d _, trivial⟩ rfl fun r hr => ?_)
      obtain ⟨b3, rfl⟩ := hr
      refine sops_go rfl (st_pick (v := .d _) rfl rfl rfl rfl ?_)
      refine sops_nil ?_
      refine swp_cond _ rfl (fun hc22 => ?_) (fun hc22 => ?_)
      · refine swp_seq ?_
        refine swp_region ?_
        refine sops_go rfl (st_assign (v := .d _) rfl rfl rfl ?_)
        refine sops_nil ?_
        refine swp_ret ?_
        with_reducible refine after_ret ?_
        exact fin_b rfl rfl rfl
      · refine swp_skip ?_
        refine swp_seq ?_
        refine swp_region ?_
        first | refine sops_go rfl (so_load (v := .d (.agg [_, _, _])) rfl rfl rfl rfl rfl rfl rfl rfl ?_) | refine sops_go rfl (so_load (v := .agg [_, _, _]) rfl rfl rfl rfl rfl rfl rfl rfl ?_)
        first | refine sops_go rfl (so_load (v := .d (.agg [_, _, _])) rfl rfl rfl rfl rfl rfl rfl rfl ?_) | refine sops_go rfl (so_load (v := .agg [_, _, _]) rfl rfl rfl rfl rfl rfl rfl rfl ?_)
        refine sops_go rfl (st_call rfl rfl (c1) ⟨na_d _, na_d _, trivial⟩ rfl ?_)
        refine sops_go rfl (st_move (v := .tup _) rfl rfl rfl ?_)
        refine sops_go rfl (st_extract (c := .d _) rfl rfl rfl rfl ?_)
        refine sops_go rfl (st_extract (c := .d _) rfl rfl rfl rfl ?_)
        refine sops_go rfl (st_assign (v := .d _) rfl rfl rfl ?_)
        refine sops_go rfl (st_assign (v := .d _) rfl rfl rfl ?_)
        refine sops_nil ?_
        refine swp_seq ?_
        refine swp_region ?_
        first | refine sops_go rfl (so_load (v := .d (.agg [_, _, _])) rfl rfl rfl rfl rfl rfl rfl rfl ?_) | refine sops_go rfl (so_load (v := .agg [_, _, _]) rfl rfl rfl rfl rfl rfl rfl rfl ?_)
        first | refine sops_go rfl (so_load (v := .d (.agg [_, _, _, _, _, _, _, _, _])) rfl rfl rfl rfl rfl rfl rfl rfl ?_) | refine sops_go rfl (so_load (v := .agg [_, _, _, _, _, _, _, _, _]) rfl rfl rfl rfl rfl rfl rfl rfl ?_)
        refine sops_go rfl (st_call rfl rfl (c2) ⟨na_d _, na_d _, trivial⟩ rfl ?_)
        refine sops_go rfl (st_move (v := .tup _) rfl rfl rfl ?_)
        refine sops_go rfl (st_extract (c := .d _) rfl rfl rfl rfl ?_)
        refine sops_go rfl (st_extract (c := .d _) rfl rfl rfl rfl ?_)
        refine sops_go rfl (st_assign (v := .d _) rfl rfl rfl ?_)
        refine sops_go rfl (st_assign (v := .d _) rfl rfl rfl ?_)
        refine sops_nil ?_
        refine swp_seq ?_
        refine swp_region ?_
        first | refine sops_go rfl (so_load (v := .d (.agg [_, _, _])) rfl rfl rfl rfl rfl rfl rfl rfl ?_) | refine sops_go rfl (so_load (v := .agg [_, _, _]) rfl rfl rfl rfl rfl rfl rfl rfl ?_)
        first | refine sops_go rfl (so_load (v := .d (.agg [_, _, _, _, _, _, _, _, _])) rfl rfl rfl rfl rfl rfl rfl rfl ?_) | refine sops_go rfl (so_load (v := .agg [_, _, _, _, _, _, _, _, _]) rfl rfl rfl rfl rfl rfl rfl rfl ?_)
        refine sops_go rfl (st_call rfl rfl (c3) ⟨na_d _, na_d _, trivial⟩ rfl ?_)
        refine sops_go rfl (st_move (v := .tup _) rfl rfl rfl ?_)
        refine sops_go rfl (st_extract (c := .d _) rfl rfl rfl rfl ?_)
        refine sops_go rfl (st_extract (c := .d _) rfl rfl rfl rfl ?_)
        refine sops_go rfl (st_assign (v := .d _) rfl rfl rfl ?_)
        refine sops_go rfl (st_assign (v := .d _) rfl rfl rfl ?_)
        refine sops_nil ?_
        refine swp_seq ?_
        refine swp_seq ?_
        refine swp_region ?_
        refine sops_go rfl (st_move (v := .d _) rfl rfl rfl ?_)
        refine sops_go rfl (st_bin rfl rfl rfl rfl rfl ?_)
        refine sops_go rfl (st_move (v := .d _) rfl rfl rfl ?_)
        refine' sops_or (d := 43) (p := 46) [44, 45] 3 rfl rfl rfl (fun hb43 => ?a43) (fun hb43 => ?b43) ?_
        case a43 =>
          refine sops_yes rfl rfl rfl rfl (st_move (v := .d _) rfl rfl rfl ?_)
          refine sops_yes rfl rfl rfl rfl (st_bin rfl rfl rfl rfl rfl ?_)
          refine sops_go rfl (st_pick (v := .d _) rfl rfl rfl rfl ?_)
          refine sops_nil ?_
          exact ⟨rfl, rfl, rfl, rfl, [_, _], rfl, rfl⟩
        case b43 =>
          refine sops_no rfl rfl rfl rfl rfl ?_
          refine sops_no rfl rfl rfl rfl rfl ?_
          refine sops_go rfl (st_pick (v := .d _) rfl rfl rfl rfl ?_)
          refine sops_nil ?_
          exact ⟨rfl, rfl, rfl, rfl, [_, _], rfl, rfl⟩
        refine sops_go rfl (st_move (v := .d _) rfl rfl rfl ?_)
        refine' sops_or (d := 47) (p := 50) [48, 49] 3 rfl rfl rfl (fun hb47 => ?a47) (fun hb47 => ?b47) ?_
        case a47 =>
          refine sops_yes rfl rfl rfl rfl (st_move (v := .d _) rfl rfl rfl ?_)
          refine sops_yes rfl rfl rfl rfl (st_bin rfl rfl rfl rfl rfl ?_)
          refine sops_go rfl (st_pick (v := .d _) rfl rfl rfl rfl ?_)
          refine sops_nil ?_
          exact ⟨rfl, rfl, rfl, rfl, [_, _], rfl, rfl⟩
        case b47 =>
          refine sops_no rfl rfl rfl rfl rfl ?_
          refine sops_no rfl rfl rfl rfl rfl ?_
          refine sops_go rfl (st_pick (v := .d _) rfl rfl rfl rfl ?_)
          refine sops_nil ?_
          exact ⟨rfl, rfl, rfl, rfl, [_, _], rfl, rfl⟩
        refine sops_nil ?_
        refine swp_cond _ rfl (fun hc50 => ?_) (fun hc50 => ?_)
        · refine swp_seq ?_
          refine swp_region ?_
          refine sops_go rfl (st_call rfl rfl (awake_pure) trivial rfl ?_)
          refine sops_go rfl (st_assign (v := .d _) rfl rfl rfl ?_)
          refine sops_nil ?_
          refine swp_ret ?_
          with_reducible refine after_ret ?_
          exact fin_b rfl rfl rfl
        · have hlaw : p1 = true → p2 = true → p3 = true := by
            simp only [Bool.or_eq_false_iff, bne_eq_false_iff_eq] at hc50
            exact hlaw hc50.1.1 hc50.1.2 hc50.2
          refine swp_skip ?_
          refine swp_seq ?_
          refine swp_region ?_
          refine sops_go rfl (st_call rfl rfl (awake_pure) trivial rfl ?_)
          refine sops_go rfl (st_move (v := .d _) rfl rfl rfl ?_)
          refine' sops_and (d := 53) (p := 63) [54, 55, 56, 57, 58, 59, 60, 61, 62] 10 rfl rfl rfl (fun hb53 => ?a53) (fun hb53 => ?b53) ?_
          case a53 =>
            refine sops_yes rfl rfl rfl rfl (st_move (v := .d _) rfl rfl rfl ?_)
            refine sops_yes rfl rfl rfl rfl (st_not rfl rfl rfl ?_)
            refine sops_yes rfl rfl rfl rfl (st_move (v := .d _) rfl rfl rfl ?_)
            refine' sops_or (d := 56) (p := 59) [57, 58] 3 rfl rfl rfl (fun hb56 => ?a56) (fun hb56 => ?b56) ?_
            case a56 =>
              refine sops_yes rfl rfl rfl rfl (st_move (v := .d _) rfl rfl rfl ?_)
              refine sops_yes rfl rfl rfl rfl (st_not rfl rfl rfl ?_)
              refine sops_yes rfl rfl rfl rfl (st_pick (v := .d _) rfl rfl rfl rfl ?_)
              refine sops_nil ?_
              exact ⟨rfl, rfl, rfl, rfl, [_, _], rfl, rfl⟩
            case b56 =>
              refine sops_no rfl rfl rfl rfl rfl ?_
              refine sops_no rfl rfl rfl rfl rfl ?_
              refine sops_yes rfl rfl rfl rfl (st_pick (v := .d _) rfl rfl rfl rfl ?_)
              refine sops_nil ?_
              exact ⟨rfl, rfl, rfl, rfl, [_, _], rfl, rfl⟩
            refine sops_yes rfl rfl rfl rfl (st_move (v := .d _) rfl rfl rfl ?_)
            refine' sops_or (d := 60) (p := 62) [61] 2 rfl rfl rfl (fun hb60 => ?a60) (fun hb60 => ?b60) ?_
            case a60 =>
              refine sops_yes rfl rfl rfl rfl (st_move (v := .d _) rfl rfl rfl ?_)
              refine sops_yes rfl rfl rfl rfl (st_pick (v := .d _) rfl rfl rfl rfl ?_)
              refine sops_nil ?_
              exact ⟨rfl, rfl, rfl, rfl, [_], rfl, rfl⟩
            case b60 =>
              refine sops_no rfl rfl rfl rfl rfl ?_
              refine sops_yes rfl rfl rfl rfl (st_pick (v := .d _) rfl rfl rfl rfl ?_)
              refine sops_nil ?_
              exact ⟨rfl, rfl, rfl, rfl, [_], rfl, rfl⟩
            refine sops_go rfl (st_pick (v := .d _) rfl rfl rfl rfl ?_)
            refine sops_nil ?_
            exact ⟨rfl, rfl, rfl, rfl, [_, _, _, _, _, _, _, _, _], rfl, rfl⟩
          case b53 =>
            refine sops_no rfl rfl rfl rfl rfl ?_
            refine sops_no rfl rfl rfl rfl rfl ?_
            refine sops_no rfl rfl rfl rfl rfl ?_
            refine sops_un rfl rfl rfl rfl rfl ?_
            refine sops_un rfl rfl rfl rfl rfl ?_
            refine sops_no rfl rfl rfl rfl rfl ?_
            refine sops_no rfl rfl rfl rfl rfl ?_
            refine sops_un rfl rfl rfl rfl rfl ?_
            refine sops_no rfl rfl rfl rfl rfl ?_
            refine sops_go rfl (st_pick (v := .d _) rfl rfl rfl rfl ?_)
            refine sops_nil ?_
            exact ⟨rfl, rfl, rfl, rfl, [_, _, _, _, _, _, _, _, _], rfl, rfl⟩
          refine sops_go rfl (st_assign (v := .d _) rfl rfl rfl ?_)
          refine sops_nil ?_
          refine swp_ret ?_
          refine fin_b rfl rfl ?_
          cases p1 <;> cases p2 <;> cases p3 <;> simp_all
end Go.Proofs.YtdcpnpcmgfmenaaDoor
/-
  What comes in, read as trees. Conditions: none.
-/
set_option linter.unusedVariables false
set_option linter.unusedSimpArgs false
set_option maxRecDepth 100000
namespace Go.Proofs.YtdcpnpcmgfmenaaDoor
open Go Go.Proofs.YtdcpnpcmgfmenaaDoor.Lg Go.ChangeShapes Go.WideShapes Go.RowKit

def Lt (W : World) : Nat → Prop := fun b => b < W.heap.size
def DRs (W : World) (ds : List D) (cs : List Value) : Prop := cs.length = ds.length ∧ ∀ (i : Nat) c v, ds[i]? = some c → cs[i]? = some v → DR W (Lt W) (Lt W) c v

theorem choose_list {α : Type} {p : Nat → α → Prop} : ∀ n : Nat, (∀ i, i < n → ∃ y, p i y) → ∃ l : List α, l.length = n ∧ ∀ (i : Nat) (h : i < l.length), p i l[i]
  | 0, _ => ⟨[], rfl, fun i h => absurd h (by simp)⟩
  | n + 1, h => by
    obtain ⟨l, h1, h2⟩ := choose_list n fun i hi => h i (by omega)
    obtain ⟨y, hy⟩ := h n (by omega)
    refine ⟨l ++ [y], by simp [h1], fun i hi => ?_⟩
    by_cases e : i < l.length
    · rw [List.getElem_append_left e]; exact h2 i e
    · have : i = l.length := by simp at hi; omega
      subst this
      simp [h1]; exact hy

section
variable {H : Type} {enc : TypeId × Value → H} {W : World} {base : Nat} {sp : Nat → Bool} {held : Bool}

theorem drs_one {d : D} {v : Value} (h : DR W (Lt W) (Lt W) d v) : DRs W [d] [v] := ⟨rfl, fun i c v' h1 h2 => by
  cases i with
  | zero => simp at h1 h2; subst h1; subst h2; exact h
  | succ i => simp at h1⟩

theorem read_slice {α : Type} {cells : α → List D} {Q : α → Prop} {t e sz : Nat} (ht : Tryd.prog.underlying t = some (.slice e)) (hsz : Tryd.prog.cellsOf e = sz) (h0 : 0 < sz) (hc : ∀ y, (cells y).length = sz) {n : Nat} {cs : List Value} {x : DataW H × List MemPlace}
    (h : DataW.trod enc Tryd.prog W base sp held n t cs = some x) (rd : ∀ m, m < n → ∀ cs x, DataW.trod enc Tryd.prog W base sp held m e cs = some x → ∃ y : α, Q y ∧ DRs W (cells y) cs) :
    ∃ l : List α, (∀ y ∈ l, Q y) ∧ DRs W [.sl true (l.map cells)] cs := by
  rcases DataW.trod_slice ht h with ⟨rfl, _⟩ | ⟨a, len, cap, elems, rest, m, rfl, rfl, _, hb, hl, hm, hlen, hel, _, _⟩
  · exact ⟨[], by simp, drs_one (.nil _ _ _)⟩
  rw [hsz] at hel
  obtain ⟨l, hll, hl'⟩ := choose_list (p := fun i y => Q y ∧ ∃ cs', W.cells? base (a.add (i * sz)) sz = some cs' ∧ DRs W (cells y) cs') len fun i hi => by
    have := hel i hi
    rw [List.getElem?_eq_getElem (by omega)] at this
    obtain ⟨cs', h1, h2⟩ := Option.bind_eq_some_iff.1 this
    obtain ⟨y, hy, hd⟩ := rd m (by omega) cs' _ h2
    exact ⟨y, hy, cs', h1, hd⟩
  refine ⟨l, fun y hy => ?_, ?_⟩
  · obtain ⟨i, hi, rfl⟩ := List.mem_iff_getElem.1 hy
    exact (hl' i hi).1
  · by_cases hz : len = 0
    · subst hz
      have : l = [] := List.eq_nil_of_length_eq_zero hll
      subst this
      exact drs_one (.nil _ _ _)
    · have hspot : ∃ b off, a = ⟨b, off, none⟩ := by
        obtain ⟨_, cs', h1, h2⟩ := hl' 0 (by omega)
        obtain ⟨_, h3, h4⟩ := World.cells?_some h1
        have h5 := h4 0 h0
        rw [List.getElem?_eq_getElem (by omega)] at h5
        have e0 : (a.add (0 * sz)).add 0 = a := by simp [Addr.add]
        rw [e0] at h5
        obtain ⟨b, off, s⟩ := a
        cases s with
        | none => exact ⟨b, off, rfl⟩
        | some s => simp [World.cell?] at h5; split at h5 <;> simp at h5
      obtain ⟨b, off, rfl⟩ := hspot
      have hcell : ∀ (q : Nat) (hq : q < l.length) (r : Nat), r < sz → ∃ v, W.cell? ⟨b, off + (q * sz + r), none⟩ = some v ∧ ∀ c, (cells l[q])[r]? = some c → DR W (Lt W) (Lt W) c v := by
        intro q hq r hr
        obtain ⟨_, cs', h1, h2, h3⟩ := hl' q hq
        obtain ⟨_, h4, h5⟩ := World.cells?_some h1
        have h6 := h5 r hr
        have e0 : ((⟨b, off, none⟩ : Addr).add (q * sz)).add r = ⟨b, off + (q * sz + r), none⟩ := by rw [add_mk, add_mk, Nat.add_assoc]
        rw [e0, List.getElem?_eq_getElem (by omega)] at h6
        exact ⟨_, h6, fun c hc => h3 r c _ hc (List.getElem?_eq_getElem (by omega))⟩
      have hlt : b < W.heap.size := by
        obtain ⟨v, h1, _⟩ := hcell 0 (by omega) 0 h0
        unfold World.cell? at h1
        split at h1
        · rename_i hh; exact (Array.getElem?_eq_some_iff.1 hh).1
        · cases h1
      have hrow : ∀ r ∈ l.map cells, r.length = sz := by
        intro r hr; obtain ⟨y, _, rfl⟩ := List.mem_map.1 hr; exact hc y
      have inv : ∀ (i : Nat) c, (l.map cells).flatten[i]? = some c → ∃ v, W.cell? ⟨b, off + i, none⟩ = some v ∧ DR W (Lt W) (Lt W) c v := by
        intro i c hi
        have hlen' := flat_length hrow
        have hi' : i < (l.map cells).length * sz := by rw [← hlen']; exact (List.getElem?_eq_some_iff.1 hi).1
        have hq : i / sz < l.length := by
          have := Nat.div_lt_of_lt_mul (m := i) (n := sz) (k := (l.map cells).length) (by rw [Nat.mul_comm]; exact hi')
          simpa using this
        have hr : i % sz < sz := Nat.mod_lt _ h0
        have e : i / sz * sz + i % sz = i := by rw [Nat.mul_comm]; exact Nat.div_add_mod i sz
        have hf := flat_at (es := l.map cells) hrow (i := i / sz) (row := cells l[i / sz]) (by simp [hq]) hr
        rw [e] at hf
        obtain ⟨v, h1, h2⟩ := hcell _ hq _ hr
        rw [e] at h1
        exact ⟨v, h1, h2 c (by rw [← hf]; exact hi)⟩
      have hsl := DR.sl (w := W) (I := Lt W) (J := Lt W) true (l.map cells) b off cap (fun i => (W.cell? ⟨b, off + i, none⟩).getD undef) (fun _ => hlt) hlt (by simp; omega) (fun i c hi => by
        obtain ⟨v, h1, _⟩ := inv i c hi
        simp only [h1, Option.getD_some]) (fun i c hi => by
        obtain ⟨v, h1, h2⟩ := inv i c hi
        simp only [h1, Option.getD_some]; exact h2)
      have el : (l.map cells).length = len := by simp [hll]
      rw [el] at hsl
      exact drs_one hsl

theorem read_str {t : Nat} (ht : Tryd.prog.underlying t = some .string) {n : Nat} {cs : List Value} {x : DataW H × List MemPlace} (h : DataW.trod enc Tryd.prog W base sp held n t cs = some x) : ∃ s : ByteArray, fits s ∧ DRs W [.v (.string s)] cs := by
  obtain ⟨s, rfl, _, hs⟩ := DataW.trod_string ht h
  exact ⟨s, by simpa [fits, maxLen] using hs, drs_one (.v _)⟩
theorem read_int {t : Nat} {k : IntKind} (ht : Tryd.prog.underlying t = some (.int k)) {n : Nat} {cs : List Value} {x : DataW H × List MemPlace} (h : DataW.trod enc Tryd.prog W base sp held n t cs = some x) : ∃ z : Int, DRs W [.v (.int k z)] cs := by
  obtain ⟨z, rfl, _, _⟩ := DataW.trod_int ht h
  exact ⟨z, drs_one (.v _)⟩
theorem read_bool {t : Nat} (ht : Tryd.prog.underlying t = some .bool) {n : Nat} {cs : List Value} {x : DataW H × List MemPlace} (h : DataW.trod enc Tryd.prog W base sp held n t cs = some x) : ∃ z : Bool, DRs W [.v (.bool z)] cs := by
  obtain ⟨z, rfl, _⟩ := DataW.trod_bool ht h
  exact ⟨z, drs_one (.v _)⟩

/-- A part of the cells at a place. -/
theorem drs_cons {d : D} {ds : List D} {cs : List Value} (h1 : DRs W [d] (cs.take 1)) (h2 : DRs W ds (cs.drop 1)) (hl : cs.length = ds.length + 1) : DRs W (d :: ds) cs := by
  refine ⟨by simp [hl], fun i c v hc hv => ?_⟩
  cases i with
  | zero => exact h1.2 0 c v (by simpa using hc) (by simpa using hv)
  | succ i => exact h2.2 i c v (by simpa using hc) (by simpa [Nat.add_comm] using hv)

theorem read_strs {t : Nat} (ht : Tryd.prog.underlying t = some (.slice 9)) {n : Nat} {cs : List Value} {x : DataW H × List MemPlace} (h : DataW.trod enc Tryd.prog W base sp held n t cs = some x) : ∃ l : List ByteArray, (∀ s ∈ l, fits s) ∧ DRs W [.sl true (strRows l)] cs :=
  read_slice (cells := fun s => [.v (.string s)]) (Q := fits) ht (by kernel_rfl) (by decide) (fun _ => rfl) h fun m _ cs x hx => read_str Tryd.underlying9 hx
theorem read_T : ∀ (n : Nat) (cs : List Value) (x : DataW H × List MemPlace), DataW.trod enc Tryd.prog W base sp held n 26 cs = some x → ∃ t : T, t.fit ∧ DRs W t.cells cs := by
  intro n
  induction n using Nat.strongRecOn with
  | _ n ih =>
    intro cs x h
    obtain ⟨xs, m, rfl, _, hl, hxl, hf⟩ := DataW.trod_struct Tryd.underlying26 h
    have c : Tryd.prog.cellsOf 26 = 3 := by kernel_rfl
    rw [c] at hl
    have g : ∀ i, i < 3 → ∃ y, xs[i]? = some y := fun i hi => ⟨xs[i]'(by rw [hxl]; exact hi), List.getElem?_eq_getElem _⟩
    obtain ⟨y0, e0⟩ := g 0 (by omega)
    obtain ⟨y1, e1⟩ := g 1 (by omega)
    obtain ⟨y2, e2⟩ := g 2 (by omega)
    have f0 := hf 0 _ rfl
    have f1 := hf 1 _ rfl
    have f2 := hf 2 _ rfl
    rw [e0] at f0
    rw [e1] at f1
    rw [e2] at f2
    obtain ⟨z, hz⟩ := read_int Tryd.underlying22 f0
    obtain ⟨names, hn1, hn2⟩ := read_strs Tryd.underlying23 f1
    obtain ⟨list, hl1, hl2⟩ := read_slice (cells := T.cells) (Q := T.fit) Tryd.underlying24 c (by decide) T.cells_length f2 fun m' hm' cs x hx => ih m' (by omega) cs x hx
    refine ⟨.mk z names list, ⟨hn1, (T.fitL_iff list).2 hl1⟩, ?_⟩
    rw [← T.rows_eq] at hl2
    match cs, hl with
    | [c0, c1, c2], _ => exact drs_cons hz (drs_cons hn2 (drs_cons hl2 ⟨rfl, fun i c v hc => by simp at hc⟩ rfl) rfl) rfl
theorem read_V : ∀ (n : Nat) (cs : List Value) (x : DataW H × List MemPlace), DataW.trod enc Tryd.prog W base sp held n 41 cs = some x → ∃ t : V, t.fit ∧ DRs W t.cells cs := by
  intro n
  induction n using Nat.strongRecOn with
  | _ n ih =>
    intro cs x h
    obtain ⟨xs, m, rfl, _, hl, hxl, hf⟩ := DataW.trod_struct Tryd.underlying41 h
    have c : Tryd.prog.cellsOf 41 = 9 := by kernel_rfl
    rw [c] at hl
    have g : ∀ i, i < 7 → ∃ y, xs[i]? = some y := fun i hi => ⟨xs[i]'(by rw [hxl]; exact hi), List.getElem?_eq_getElem _⟩
    obtain ⟨y0, e0⟩ := g 0 (by omega)
    obtain ⟨y1, e1⟩ := g 1 (by omega)
    obtain ⟨y2, e2⟩ := g 2 (by omega)
    obtain ⟨y3, e3⟩ := g 3 (by omega)
    obtain ⟨y4, e4⟩ := g 4 (by omega)
    obtain ⟨y5, e5⟩ := g 5 (by omega)
    obtain ⟨y6, e6⟩ := g 6 (by omega)
    have f0 := hf 0 _ rfl
    have f1 := hf 1 _ rfl
    have f2 := hf 2 _ rfl
    have f3 := hf 3 _ rfl
    have f4 := hf 4 _ rfl
    have f5 := hf 5 _ rfl
    have f6 := hf 6 _ rfl
    rw [e0] at f0
    rw [e1] at f1
    rw [e2] at f2
    rw [e3] at f3
    rw [e4] at f4
    rw [e5] at f5
    rw [e6] at f6
    obtain ⟨kind, h0⟩ := read_int Tryd.underlying35 f0
    obtain ⟨flag, h1⟩ := read_bool Tryd.underlying4 f1
    obtain ⟨ys, m', rfl, _, hl', hxl', hf'⟩ := DataW.trod_struct Tryd.underlying37 f2
    have g' : ∀ i, i < 3 → ∃ y, ys[i]? = some y := fun i hi => ⟨ys[i]'(by rw [hxl']; exact hi), List.getElem?_eq_getElem _⟩
    obtain ⟨y0', e0'⟩ := g' 0 (by omega)
    obtain ⟨y1', e1'⟩ := g' 1 (by omega)
    obtain ⟨y2', e2'⟩ := g' 2 (by omega)
    have f0' := hf' 0 _ rfl
    have f1' := hf' 1 _ rfl
    have f2' := hf' 2 _ rfl
    rw [e0'] at f0'
    rw [e1'] at f1'
    rw [e2'] at f2'
    obtain ⟨neg, h0'⟩ := read_bool Tryd.underlying4 f0'
    obtain ⟨digits, hd, h1'⟩ := read_str Tryd.underlying9 f1'
    obtain ⟨exp, h2'⟩ := read_int Tryd.underlying3 f2'
    obtain ⟨bits, h3⟩ := read_int Tryd.underlying38 f3
    obtain ⟨text, ht, h4⟩ := read_str Tryd.underlying9 f4
    obtain ⟨names, hn1, h5⟩ := read_strs Tryd.underlying23 f5
    obtain ⟨list, hl1, h6⟩ := read_slice (cells := V.cells) (Q := V.fit) Tryd.underlying39 c (by decide) V.cells_length f6 fun m'' hm' cs x hx => ih m'' (by omega) cs x hx
    refine ⟨.mk kind flag neg digits exp bits text names list, ⟨hd, ht, hn1, (V.fitL_iff list).2 hl1⟩, ?_⟩
    rw [← V.rows_eq] at h6
    match cs, hl with
    | [c0, c1, c2, c3, c4, c5, c6, c7, c8], _ =>
      exact drs_cons h0 (drs_cons h1 (drs_cons h0' (drs_cons h1' (drs_cons h2' (drs_cons h3 (drs_cons h4 (drs_cons h5 (drs_cons h6 ⟨rfl, fun i c v hc => by simp at hc⟩ rfl) rfl) rfl) rfl) rfl) rfl) rfl) rfl) rfl
end
end Go.Proofs.YtdcpnpcmgfmenaaDoor
/-
  What the row's condition gives: the tables. Conditions: none.
-/
set_option linter.unusedVariables false
set_option maxRecDepth 100000
namespace Go.Proofs.YtdcpnpcmgfmenaaDoor
open Go Go.Proofs.YtdcpnpcmgfmenaaDoor.Lg Go.ChangeShapes Go.WideShapes Go.RowKit

def laidL : List (String × DataW Unit) := [("unicode/utf8.acceptRanges", Rows.laid_unicode_utf8_acceptRanges), ("calamus/types.kinds", Rows.laid_calamus_types_kinds), ("unicode/utf8.first", Rows.laid_unicode_utf8_first)]
theorem u8t : U8Types Tryd.prog Tryd.laysValid_ren := U8Types.of196 Tryd.laysValid
theorem u8x : U8Extra Tryd.prog Tryd.laysValid_ren := { n3 := by kernel_rfl, y3 := by kernel_rfl, n4 := by kernel_rfl, y4 := by kernel_rfl, c5 := by kernel_rfl, c119 := by kernel_rfl, c138 := by kernel_rfl }
theorem first_eq : Rows.laid_unicode_utf8_first = Lib.firstData := by kernel_rfl
theorem accept_eq : (Rows.laid_unicode_utf8_acceptRanges : DataW Unit) = Lib.acceptData := by kernel_rfl
theorem tabs_of_laid {W : World} (h : laidMetH Tryd.prog laidL W) : Lib.Utf8Tabs gFirst gAccept W := by
  rw [MakeChecks.laidMetH_plain _ _ _ (by kernel_rfl)] at h
  have h3 := Lib.laidMet.reads h (n := "unicode/utf8.first") (d := Rows.laid_unicode_utf8_first) (by simp [laidL])
  have h4 := Lib.laidMet.reads h (n := "unicode/utf8.acceptRanges") (d := Rows.laid_unicode_utf8_acceptRanges) (by simp [laidL])
  rw [first_eq] at h3
  rw [accept_eq] at h4
  exact utf8Tabs_of_readsT u8t u8x h3 h4
theorem kinds_of_laid {W : World} (h : laidMetH Tryd.prog laidL W) : ∀ (j : Nat) c, gl0[j]? = some c → ∃ v, c = .v v ∧ W.cell? ⟨0, j, none⟩ = some v := by
  rw [MakeChecks.laidMetH_plain _ _ _ (by kernel_rfl)] at h
  obtain ⟨g, t, cs, fuel, p, hg, ht, hv, hd⟩ := Lib.laidMet.reads h (n := "calamus/types.kinds") (d := Rows.laid_calamus_types_kinds) (by simp [laidL])
  obtain rfl := Option.some.inj ((show Tryd.prog.globalNamed "calamus/types.kinds" = some 0 by kernel_rfl).symm.trans hg)
  obtain rfl := Option.some.inj ((show (Tryd.prog.globals[0]?).map (·.type) = some 69 by kernel_rfl).symm.trans ht)
  have hcs := Lib.cells_of_tab (zs := [0, 0, 1, 2, 3, 3, 4, 5, 6]) (k := .i64) Tryd.underlying69 Tryd.underlying35 (by kernel_rfl) (by kernel_rfl) hd
  intro j c hj
  rw [World.var?_cell hg hv j, ← Array.getElem?_toList, hcs]
  match j, hj with
  | 0, hj | 1, hj | 2, hj | 3, hj | 4, hj | 5, hj | 6, hj | 7, hj | 8, hj => cases hj; exact ⟨_, rfl, rfl⟩
  | j + 9, hj => simp [gl0] at hj

/-- How a call of the law finds the world. -/
def g0 (W : World) : G := { ρ := fun _ => 0, κ := fun _ => 0, cap := fun _ => 0, vt := fun _ => false, I := Lt W, J := Lt W }
theorem cell_lt {W : World} {b o : Nat} {v : Value} (h : W.cell? ⟨b, o, none⟩ = some v) : b < W.heap.size := by
  unfold World.cell? at h
  split at h
  · rename_i hh; exact (Array.getElem?_eq_some_iff.1 hh).1
  · cases h
theorem gl_cells {W : World} {i : Nat} {cs : List D} (h0 : 0 < cs.length) (h : ∀ (j : Nat) c, cs[j]? = some c → ∃ v, c = .v v ∧ W.cell? ⟨i, j, none⟩ = some v) :
    Lt W i ∧ ∃ f : Nat → Value, (∀ (j : Nat) c, cs[j]? = some c → W.cell? ⟨i, j, none⟩ = some (f j)) ∧ ∀ (j : Nat) c, cs[j]? = some c → DR W (Lt W) (Lt W) c (f j) := by
  refine ⟨?_, fun j => (W.cell? ⟨i, j, none⟩).getD undef, fun j c hc => ?_, fun j c hc => ?_⟩
  · obtain ⟨v, _, hv⟩ := h 0 _ (List.getElem?_eq_getElem h0)
    exact cell_lt hv
  · obtain ⟨v, _, hv⟩ := h j c hc
    simp only [hv, Option.getD_some]
  · obtain ⟨v, rfl, hv⟩ := h j c hc
    simp only [hv, Option.getD_some]
    exact .v _
theorem start_hr {W : World} (h : laidMetH Tryd.prog laidL W) : HRel env W (g0 W) 0 (fun _ => .dead) := by
  refine ⟨fun _ h => by omega, fun _ _ => rfl, fun _ _ h => by omega, fun _ h => h, fun _ h => h, fun b _ ⟨l, hl, _⟩ => by omega, fun i cs hcs => ?_⟩
  have hT := tabs_of_laid h
  have hcs : glT i = some cs := hcs
  unfold glT at hcs
  split at hcs
  · injection hcs with hcs; subst hcs
    exact gl_cells (by decide) (kinds_of_laid h)
  · injection hcs with hcs; subst hcs
    refine gl_cells (by simp [gl1]) fun j c hj => ?_
    simp only [gl1, List.getElem?_map, Option.map_eq_some_iff] at hj
    obtain ⟨a, ha, rfl⟩ := hj
    obtain ⟨hlt, hra⟩ := List.getElem?_eq_some_iff.1 ha
    simp at hlt hra
    subst hra
    exact ⟨_, rfl, hT.1 j hlt⟩
  · injection hcs with hcs; subst hcs
    refine gl_cells (by decide) fun j c hj => ?_
    have hj32 : j < 32 := by have := (List.getElem?_eq_some_iff.1 hj).1; simpa [gl2] using this
    have key : ∀ i, i < 16 → gl2[2 * i]? = some (.v (.int .u8 (Lib.accLo i))) ∧ gl2[2 * i + 1]? = some (.v (.int .u8 (Lib.accHi i))) := by
      intro i hi
      match i, hi with
      | 0, _ | 1, _ | 2, _ | 3, _ | 4, _ | 5, _ | 6, _ | 7, _ | 8, _ | 9, _ | 10, _ | 11, _ | 12, _ | 13, _ | 14, _ | 15, _ => exact ⟨rfl, rfl⟩
      | i + 16, h => omega
    have ht := hT.2 (j / 2) (by omega)
    have hk := key (j / 2) (by omega)
    rcases Nat.mod_two_eq_zero_or_one j with e | e
    · have : j = 2 * (j / 2) := by omega
      rw [this] at hj ⊢
      rw [hk.1] at hj
      cases hj
      exact ⟨_, rfl, ht.1⟩
    · have : j = 2 * (j / 2) + 1 := by omega
      rw [this] at hj ⊢
      rw [hk.2] at hj
      cases hj
      exact ⟨_, rfl, ht.2⟩
  · cases hcs

theorem own0 : ownKnob Tryd.prog.godebug = none := by kernel_rfl
theorem laidOut0 : laidOutB Tryd.prog = true := by kernel_rfl
theorem vr_of {W : World} {ds : List D} {xs : Array Value} (h : DRs W ds xs.toList) : VR W (g0 W) 0 (.d (.agg ds)) (.agg xs) :=
  .d _ _ (.agg _ _ (by simpa using h.1) fun i c x hc hx => h.2 i c x hc (by simpa using hx))
end Go.Proofs.YtdcpnpcmgfmenaaDoor
/-
  The law TypesParts of the given program: for every input that the row speaks of the call returns true, and each argument reads afterwards as it read before. Conditions: the row's own (the listed variables read as the program's text lays them).
-/
set_option linter.unusedVariables false
set_option maxRecDepth 100000
namespace Go.Proofs.YtdcpnpcmgfmenaaDoor
open Go Go.Proofs.YtdcpnpcmgfmenaaDoor.Lg Go.ChangeShapes Go.WideShapes Go.ChangeAt Go.RowKit

theorem typesParts_lifted (os : Os) (started : os.Started) (H : Type) (enc : TypeId × Value → H) :
    ReturnsInHanded {} Tryd.checked os 4 .any (fun w args => (Rows.typesPartsSpec.pre enc Tryd.prog Tryd.f4 [] false w args ∧ laidMetH Tryd.prog laidL w) ∧ sizedMet enc Tryd.prog Tryd.f4 (OpenSpec.ofChange Rows.typesPartsSpec) false w args)
      (Rows.typesPartsSpec.post enc Tryd.prog Tryd.f4 false true false false) := by
  refine returnsInHanded_of_change_and (C := Tryd.checked) (X := fun w _ => laidMetH Tryd.prog laidL w) (fun _ _ _ hh h => h.of_heap hh) own0 started (by kernel_rfl) Tryd.func4
    (ChangeSpec.witness_shaped (enc := enc) (C := Tryd.checked) (os := os) (X := fun w _ => laidMetH Tryd.prog laidL w) false (World.laidAll Tryd.prog os laidL) #[.agg #[.int .i64 0, .slice none 0 0, .slice none 0 0], .agg #[.int .i64 0, .slice none 0 0, .slice none 0 0], .agg #[.int .i64 0, .bool false, .bool false, .string ByteArray.empty, .int .i64 0, .int .u64 0, .string ByteArray.empty, .slice none 0 0, .slice none 0 0]] 8 (World.laidAll_os _ _ _)
      (World.shaped_of_ZipB (by kernel_rfl) (by kernel_rfl)) (by kernel_rfl) (by kernel_rfl) (by kernel_rfl)
      (by rw [MakeChecks.laidMetH_plain _ _ _ (by kernel_rfl)]; exact laidMet_laidAll _ (by kernel_rfl) (by kernel_rfl))) ?_
  intro W base args ds gs before hval0 hW hc hsz0 hL _
  have hval : ∀ (j : Nat) t v, Tryd.f4.params[j]? = some t → args[j]? = some v → Value.okWide Tryd.prog W .any base t v := hval0
  have hW' := hW
  obtain ⟨p, q, hA0, hV, rfl, hfz, hnd⟩ := hW
  have hA : DataW.TrodAll enc Tryd.prog W 0 (fun _ => true) true Tryd.f4.params.toList args.toList ds p := hA0
  rw [Tryd.params4] at hA hval
  obtain ⟨v0, vs0, d0, ds0, p0, q0, hargs, rfl, rfl, h0, r0⟩ := trodAll_cons hA
  obtain ⟨v1, vs1, d1, ds1, p1, q1, rfl, rfl, rfl, h1, r1⟩ := trodAll_cons r0
  obtain ⟨v2, vs2, d2, ds2, p2, q2, rfl, rfl, rfl, h2, r2⟩ := trodAll_cons r1
  obtain ⟨rfl, rfl, rfl⟩ := trodAll_nil r2
  obtain rfl : args = #[v0, v1, v2] := by cases args; simp_all
  obtain ⟨rfl, rfl⟩ := trodVars_none hV
  have lt0 : ∀ x ∈ p0, x.block < W.heap.size := by obtain ⟨m, hm⟩ := h0; exact DataW.trod_lt m _ _ _ hm
  have k0 := h0
  obtain ⟨x0, rfl, _⟩ := okWide_struct Tryd.underlying26 (hval 0 26 v0 rfl rfl)
  obtain ⟨t0, f0, c0⟩ := read_T _ _ _ (Classical.choose_spec h0)
  have c0 := vr_of c0
  have lt1 : ∀ x ∈ p1, x.block < W.heap.size := by obtain ⟨m, hm⟩ := h1; exact DataW.trod_lt m _ _ _ hm
  have k1 := h1
  obtain ⟨x1, rfl, _⟩ := okWide_struct Tryd.underlying26 (hval 1 26 v1 rfl rfl)
  obtain ⟨t1, f1, c1⟩ := read_T _ _ _ (Classical.choose_spec h1)
  have c1 := vr_of c1
  have lt2 : ∀ x ∈ p2, x.block < W.heap.size := by obtain ⟨m, hm⟩ := h2; exact DataW.trod_lt m _ _ _ hm
  have k2 := h2
  obtain ⟨x2, rfl, _⟩ := okWide_struct Tryd.underlying41 (hval 2 41 v2 rfl rfl)
  obtain ⟨t2, f2, c2⟩ := read_V _ _ _ (Classical.choose_spec h2)
  have c2 := vr_of c2
  clear hA0 hval0 hsz0
  refine ((TypesParts_pure t0 t1 t2 f0 f1 f2).2 W (g0 W) #[.agg x0, .agg x1, .agg x2] (start_hr hL) rfl (fun i c x hc hx => ?_)).mono ?_
  · match i, hc, hx with
    | 0, hc, hx => cases hc; cases hx; exact c0
    | 1, hc, hx => cases hc; cases hx; exact c1
    | 2, hc, hx => cases hc; cases hx; exact c2
    | i + 3, hc, hx => simp at hc
  rintro e W' ⟨v, rfl, hv, bel⟩
  obtain rfl := vr_val hv
  exact ⟨_, rfl, _, _, _, [], _, [], hW', trodAll_mk1 (shut_bool Tryd.underlying4 _), (trodAll_cons_mk (Below.trod laidOut0 (by kernel_rfl) (of_decide_eq_true (by kernel_rfl)) k0 bel lt0) (trodAll_cons_mk (Below.trod laidOut0 (by kernel_rfl) (of_decide_eq_true (by kernel_rfl)) k1 bel lt1) (trodAll_cons_mk (Below.trod laidOut0 (by kernel_rfl) (of_decide_eq_true (by kernel_rfl)) k2 bel lt2) trodAll_mk0))), rfl, bel.frame _, fun h => by cases h⟩

theorem typesParts_row : Rows.TypesPartsSaid :=
  OpenClaim.holds_of_wide 4 Tryd.f4 rfl rfl rfl rfl rfl rfl rfl ⟨rfl, rfl, rfl, rfl, rfl⟩ rfl rfl rfl rfl rfl (by kernel_rfl) Tryd.func4 (by kernel_rfl)
    (of_decide_eq_true (by kernel_rfl)) (by unfold Func.isWrapper; first | (rw [if_pos (by decide +kernel)]; kernel_rfl) | (rw [if_neg (by decide +kernel)]; exact ⟨rfl, rfl⟩))
    (fun os started H enc _ => typesParts_lifted os started H enc)
theorem typesParts_holds : Rows.TypesPartsCardSaid :=
  Claim7.holds_tied_plain_at .later [] [.data, .data, .pinned] true Rows.typesPartsCard.stood.harness false typesParts_row (fun _ h => by cases h) (by kernel_rfl) (fun _ h => by cases h) typesParts_row_tie rfl ⟨rfl, rfl⟩ (by kernel_rfl) rfl
    (fun f fn hf hfn => by
      obtain rfl : f = 4 := Option.some.inj ((show Tryd.prog.funcNamed "calamus/calamuslaw11.TypesParts" = some 4 by kernel_rfl).symm.trans hf) |>.symm
      obtain rfl : fn = Tryd.f4 := (Option.some.inj (Tryd.func4.symm.trans hfn)).symm
      exact ⟨by kernel_rfl, fun j t ht => by
        rw [Tryd.params4] at ht
        have hm : t ∈ [26, 41] := by have := Array.mem_of_getElem? ht; simp at this ⊢; omega
        have hall : ([26, 41].all fun u => !Tryd.prog.wantsStandIn u) = true := by kernel_rfl
        exact (show Tryd.prog.wantsStandIn t = false by simpa using List.all_eq_true.1 hall t hm)⟩)
    (by kernel_rfl)
#print axioms typesParts_holds
end Go.Proofs.YtdcpnpcmgfmenaaDoor
