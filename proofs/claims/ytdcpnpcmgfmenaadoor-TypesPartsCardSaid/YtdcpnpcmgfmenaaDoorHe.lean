/-
  Walks: a type in memory of its own. Conditions: none.
-/
import Derived.Test.YtdcpnpcmgfmenaaDoorHc
import Derived.Test.YtdcpnpcmgfmenaaDoorHd
set_option linter.unusedVariables false
set_option maxRecDepth 100000
namespace Go.Proofs.YtdcpnpcmgfmenaaDoor
open Go Go.Proofs.YtdcpnpcmgfmenaaDoor.Lg

mutual
/-- Rows are short, all the way down. -/
def T.slim : T → Prop
  | .mk _ names list => names.length ≤ 1000 ∧ list.length ≤ 1000 ∧ T.slimL list
def T.slimL : List T → Prop
  | [] => True
  | x :: r => x.slim ∧ T.slimL r
end
theorem T.slimL_iff : ∀ l : List T, T.slimL l ↔ ∀ x ∈ l, x.slim
  | [] => by simp [T.slimL]
  | x :: r => by rw [T.slimL, T.slimL_iff r]; simp
theorem T.rows_take (l : List T) (k : Nat) (h : k < l.length) : T.rows (l.take (k + 1)) = T.rows (l.take k) ++ [l[k].cells] := by
  simp only [T.rows_eq, List.take_succ_eq_append_getElem h, List.map_append]; rfl

theorem own_pure (t : T) : t.slim → ∀ s, Pure env 23 [.d (t.df s)] (.d t.d) := by
  revert t
  apply T.ind
  intro kind names list ih hs s
  obtain ⟨hs1, hs2, hs3⟩ := hs
  rw [T.slimL_iff] at hs3
  refine pure_of_body Tryd.func23 rfl rfl rfl fun B hB => ?_
  refine swp_seq ?_
  refine swp_region ?_
  refine sops_go rfl (so_box (cs := [_, _, _]) rfl rfl rfl ?_)
  refine sops_go rfl (so_alloc (cs := [_, _, _]) rfl rfl rfl rfl ?_)
  refine sops_nil ?_
  refine swp_seq ?_
  refine swp_region ?_
  first | refine sops_go rfl (so_fieldAddr (v := .p _ _ _) rfl rfl rfl rfl rfl rfl rfl rfl rfl rfl ?_) | refine sops_go rfl (so_fieldAddr (v := .dp _ _) rfl rfl rfl rfl rfl rfl rfl rfl rfl rfl ?_) | refine sops_go rfl (so_fieldAddr (v := .pe _ _ _ _ _) rfl rfl rfl rfl rfl rfl rfl rfl rfl rfl ?_)
  first | refine sops_go rfl (so_load (v := .d _) rfl rfl rfl rfl rfl rfl rfl rfl ?_) | refine sops_go rfl (so_load (v := .own _ _ _ _ _) rfl rfl rfl rfl rfl rfl rfl rfl ?_)
  refine sops_go rfl (st_callO rfl rfl (cloneS_pure s names (by omega)) ⟨na_d _, trivial⟩ rfl ?_)
  first | refine sops_go rfl (so_fieldAddr (v := .p _ _ _) rfl rfl rfl rfl rfl rfl rfl rfl rfl rfl ?_) | refine sops_go rfl (so_fieldAddr (v := .dp _ _) rfl rfl rfl rfl rfl rfl rfl rfl rfl rfl ?_) | refine sops_go rfl (so_fieldAddr (v := .pe _ _ _ _ _) rfl rfl rfl rfl rfl rfl rfl rfl rfl rfl ?_)
  refine sops_go rfl (so_store rfl rfl rfl rfl rfl rfl rfl rfl rfl (zs := [_, _, _]) rfl ?_)
  refine sops_nil ?_
  refine swp_seq ?_
  refine swp_region ?_
  first | refine sops_go rfl (st_assign (v := .d _) rfl rfl rfl ?_) | refine sops_go rfl (st_assign (v := .own _ _ _ _ _) rfl rfl rfl ?_)
  refine sops_nil ?_
  refine swp_seq ?_
  refine swp_seq ?_
  refine swp_region ?_
  first | refine sops_go rfl (so_fieldAddr (v := .p _ _ _) rfl rfl rfl rfl rfl rfl rfl rfl rfl rfl ?_) | refine sops_go rfl (so_fieldAddr (v := .dp _ _) rfl rfl rfl rfl rfl rfl rfl rfl rfl rfl ?_) | refine sops_go rfl (so_fieldAddr (v := .pe _ _ _ _ _) rfl rfl rfl rfl rfl rfl rfl rfl rfl rfl ?_)
  first | refine sops_go rfl (so_load (v := .d _) rfl rfl rfl rfl rfl rfl rfl rfl ?_) | refine sops_go rfl (so_load (v := .own _ _ _ _ _) rfl rfl rfl rfl rfl rfl rfl rfl ?_)
  refine sops_go rfl (so_lenSl rfl rfl rfl rfl rfl ?_)
  refine sops_go rfl (st_move (v := .d _) rfl rfl rfl ?_)
  refine sops_nil ?_
  refine swp_block ?_
  refine swp_wk (wk_virt 3 26 3 rfl) ?_
  refine swp_loopF (F := fun i : Nat × Nat => { t := upd (upd (upd (upd (upd (upd (fun _ => .any) 1 (.p 0 0 0)) 2 (.p 1 0 0)) 3 (.own 3 i.2 3 0 i.1)) 11 (.d (.sl s (T.rows list)))) 12 (.d (.v (.int .i64 list.length)))) 13 (.d (.v (.int .i64 i.1))), n := 26, h := upd (upd (upd (upd (fun _ => .dead) 0 (.cells [.d (.v (.int .i64 kind)), .own 2 0 1 0 (strRows names).length, .any])) 1 (.cells [.any, .any, .any])) 2 (.arr 0 9 1 ((strRows names).map (·.map .d)))) 3 (.arr i.2 26 3 ((T.rows (list.take i.1)).map (·.map .d))), nx := 4 })
    (fun i => i.1 ≤ list.length) (fun i => list.length - i.1) (0, 0) (Nat.zero_le _) ?_ ?_
  · refine wk_of rfl (Nat.le_of_ble_eq_true rfl) (by rw [hB]; exact Nat.zero_le _) (tle_upd (le_eq rfl rfl) (tle_upd (le_eq (int_eq (by rw [T.rows_len])) rfl) (tle_upd (le_eq rfl rfl) (tle_upd (le_eq rfl rfl) (tle_upd (le_eq rfl rfl) (tle_upd (le_eq rfl rfl) (tle_any _))))))) (hle_upd (.arr _ _ _ _ _ (rfl) (rows_bnd _ _)) (hle_upd (.arr _ _ _ _ _ (rfl) (rows_bnd _ _)) (hle_upd (.cells _ _ ⟨le_any _, le_any _, le_any _, trivial⟩) (hle_upd (.cells _ _ ⟨le_eq rfl rfl, le_eq rfl rfl, le_any _, trivial⟩) (hle_dead _))))) (dead_upd (Nat.le_of_ble_eq_true rfl) (dead_upd (Nat.le_of_ble_eq_true rfl) (dead_upd (Nat.le_of_ble_eq_true rfl) (dead_upd (Nat.le_of_ble_eq_true rfl) (dead_none)))))
  rintro ⟨k, ver⟩ hk
  have hk : k ≤ list.length := hk
  refine swp_seq ?_
  refine swp_region ?_
  refine sops_go rfl (st_bin rfl rfl rfl rfl rfl ?_)
  refine sops_nil ?_
  refine swp_seq ?_
  refine swp_cond _ rfl (fun hc14 => ?_) (fun hc14 => ?_)
  · have hlt : k < list.length := by have := of_decide_eq_true hc14; omega
    have hx := ih _ (List.getElem_mem hlt) (hs3 _ (List.getElem_mem hlt)) true
    have htk := T.rows_take list k hlt
    refine swp_skip ?_
    refine swp_seq ?_
    refine swp_block ?_
    refine swp_seq ?_
    refine swp_region ?_
    refine sops_go rfl (so_indexSl rfl rfl rfl rfl rfl rfl rfl (T.rows_all _) (by omega) (by rw [T.rows_len]; omega) (T.rows_get _ _ hlt) ?_)
    generalize list[k] = x at hx htk ⊢
    obtain ⟨x1, x2, x3⟩ := x
    first | refine sops_go rfl (so_load (v := .d (.agg [_, _, _])) rfl rfl rfl rfl rfl rfl rfl rfl ?_) | refine sops_go rfl (so_load (v := .agg [_, _, _]) rfl rfl rfl rfl rfl rfl rfl rfl ?_)
    refine sops_go rfl (so_alloc (cs := [_, _, _]) rfl rfl rfl rfl ?_)
    refine sops_go rfl (so_store rfl rfl rfl rfl rfl rfl rfl rfl rfl (zs := [_, _, _]) rfl ?_)
    refine sops_nil ?_
    refine swp_region ?_
    first | refine sops_go rfl (st_move (v := .d _) rfl rfl rfl ?_) | refine sops_go rfl (st_move (v := .own _ _ _ _ _) rfl rfl rfl ?_)
    first | refine sops_go rfl (so_load (v := .d (.agg [_, _, _])) rfl rfl rfl rfl rfl rfl rfl rfl ?_) | refine sops_go rfl (so_load (v := .agg [_, _, _]) rfl rfl rfl rfl rfl rfl rfl rfl ?_)
    refine sops_go rfl (st_call rfl rfl (hx) ⟨na_d _, trivial⟩ rfl ?_)
    refine sops_go rfl (so_buildSlice (rows := [[_, _, _]]) rfl rfl rfl rfl rfl rfl rfl rfl rfl ?_)
    refine sops_go rfl (so_append rfl rfl rfl rfl rfl rfl rfl rfl rfl rfl (by simp [T.rows_len]; omega) (by intro r hr; simp at hr; subst hr; exact ⟨rfl, rfl⟩) (by show (_ + _) * 56 ≤ _; simp [T.rows_len]; omega) (by simp [T.rows_len]; omega) ?_)
    first | refine sops_go rfl (st_assign (v := .d _) rfl rfl rfl ?_) | refine sops_go rfl (st_assign (v := .own _ _ _ _ _) rfl rfl rfl ?_)
    refine sops_nil ?_
    refine swp_region ?_
    refine sops_go rfl (st_bin rfl rfl rfl rfl rfl ?_)
    refine sops_go rfl (st_move (v := .d _) rfl rfl rfl ?_)
    refine sops_nil ?_
    refine ⟨(k + 1, ver + 1), hlt, by show list.length - (k + 1) < list.length - k; omega, ?_⟩
    refine wk_of rfl (Nat.le_of_ble_eq_true rfl) (by rw [hB]; exact Nat.zero_le _) (tle_upd (le_eq (next_i64 hlt (by omega)) rfl) (tle_upd (le_eq rfl rfl) (tle_upd (le_eq rfl rfl) (tle_upd (le_eq (own_len (by simp [T.rows_len]; omega)) rfl) (tle_upd (le_eq rfl rfl) (tle_upd (le_eq rfl rfl) (tle_any _))))))) (hle_upd (.arr _ _ _ _ _ ((by rw [htk]; simp [T.cells])) (rows_bnd _ _)) (hle_upd (.arr _ _ _ _ _ (rfl) (rows_bnd _ _)) (hle_upd (.cells _ _ ⟨le_any _, le_any _, le_any _, trivial⟩) (hle_upd (.cells _ _ ⟨le_eq rfl rfl, le_eq rfl rfl, le_any _, trivial⟩) (hle_dead _))))) (dead_upd (Nat.le_of_ble_eq_true rfl) (dead_upd (Nat.le_of_ble_eq_true rfl) (dead_upd (Nat.le_of_ble_eq_true rfl) (dead_upd (Nat.le_of_ble_eq_true rfl) (dead_none)))))
  · have he : k = list.length := by have := of_decide_eq_false hc14; omega
    subst he
    rw [List.take_length]
    refine swp_exit ?_
    with_reducible refine after_exit ?_
    with_reducible refine after_exit ?_
    refine inblk_hit ?_
    refine swp_seq ?_
    refine swp_region ?_
    first | refine sops_go rfl (st_move (v := .d _) rfl rfl rfl ?_) | refine sops_go rfl (st_move (v := .own _ _ _ _ _) rfl rfl rfl ?_)
    first | refine sops_go rfl (so_fieldAddr (v := .p _ _ _) rfl rfl rfl rfl rfl rfl rfl rfl rfl rfl ?_) | refine sops_go rfl (so_fieldAddr (v := .dp _ _) rfl rfl rfl rfl rfl rfl rfl rfl rfl rfl ?_) | refine sops_go rfl (so_fieldAddr (v := .pe _ _ _ _ _) rfl rfl rfl rfl rfl rfl rfl rfl rfl rfl ?_)
    refine sops_go rfl (so_store rfl rfl rfl rfl rfl rfl rfl rfl rfl (zs := [_, _, _]) rfl ?_)
    refine sops_nil ?_
    refine swp_seq ?_
    refine swp_region ?_
    first | refine sops_go rfl (so_load (v := .d (.agg [_, _, _])) rfl rfl rfl rfl rfl rfl rfl rfl ?_) | refine sops_go rfl (so_load (v := .agg [_, _, _]) rfl rfl rfl rfl rfl rfl rfl rfl ?_)
    refine sops_go rfl (so_store rfl rfl rfl rfl rfl rfl rfl rfl rfl (zs := [_, _, _]) rfl ?_)
    refine sops_nil ?_
    refine swp_ret ?_
    exact fin_c rfl (rc_of rfl rfl rfl rfl rfl (ra_agg ⟨ra_d (keeps_v _), ra_row rfl rfl (strRows_keeps _), ra_row rfl (by rw [T.rows_len]) (T.rows_keeps _), trivial⟩))
end Go.Proofs.YtdcpnpcmgfmenaaDoor
