/-
  Walks: how deep a value is. Conditions: none.
-/
import Derived.Test.YtdcpnpcmgfmenaaDoorVb
set_option linter.unusedVariables false
set_option maxRecDepth 100000
namespace Go.Proofs.YtdcpnpcmgfmenaaDoor
open Go Go.Proofs.YtdcpnpcmgfmenaaDoor.Lg

mutual
def V.depthW : V → Int
  | .mk _ _ _ _ _ _ _ _ list => IntKind.i64.wrap (V.depthF list 0 + 1)
def V.depthF : List V → Int → Int
  | [], a => a
  | x :: r, a => V.depthF r (max a x.depthW)
end
theorem V.depthF_take : ∀ (l : List V) (a : Int) (k : Nat) (h : k < l.length), V.depthF (l.take (k + 1)) a = max (V.depthF (l.take k) a) l[k].depthW
  | x :: r, a, 0, _ => by simp [V.depthF]
  | x :: r, a, k + 1, h => by
    simp only [List.take_succ_cons, V.depthF, List.getElem_cons_succ]
    exact V.depthF_take r _ k (by simpa using h)

theorem depthW_pure (t : V) : ∀ s, Pure env 46 [.d (t.df s)] (.d (.v (.int .i64 t.depthW))) := by
  revert t
  apply V.ind
  intro kind flag neg digits exp bits text names list ih s
  refine pure_of_body Tryd.func46 rfl rfl rfl fun B hB => ?_
  refine swp_seq ?_
  refine swp_region ?_
  refine sops_go rfl (so_box (cs := [_, _, _, _, _, _, _, _, _]) rfl rfl rfl ?_)
  refine sops_go rfl (st_assign (v := .d _) rfl rfl rfl ?_)
  refine sops_nil ?_
  -- stop
  refine swp_len (l := 0) (i := 8) rfl rfl rfl fun hll => ?_
  rw [V.rows_len] at hll
  refine swp_seq ?_
  refine swp_region ?_
  refine sops_go rfl (st_assign (v := .d _) rfl rfl rfl ?_)
  refine sops_nil ?_
  refine swp_seq ?_
  refine swp_seq ?_
  refine swp_region ?_
  first | refine sops_go rfl (so_fieldAddr (v := .p _ _ _) rfl rfl rfl rfl rfl rfl rfl rfl rfl rfl ?_) | refine sops_go rfl (so_fieldAddr (v := .dp _ _) rfl rfl rfl rfl rfl rfl rfl rfl rfl rfl ?_) | refine sops_go rfl (so_fieldAddr (v := .pe _ _ _ _ _) rfl rfl rfl rfl rfl rfl rfl rfl rfl rfl ?_)
  first | refine sops_go rfl (so_load (v := .d _) rfl rfl rfl rfl rfl rfl rfl rfl ?_) | refine sops_go rfl (so_load (v := .own _ _ _ _ _) rfl rfl rfl rfl rfl rfl rfl rfl ?_)
  refine sops_go rfl (so_lenSl rfl rfl rfl rfl rfl ?_)
  refine sops_go rfl (st_move (v := .d _) rfl rfl rfl ?_)
  refine sops_nil ?_
  refine swp_block ?_
  -- loop
  let a : Nat → Int := fun k => V.depthF (list.take k) 0
  refine swp_loopF (F := fun k : Nat => { t := upd (upd (upd (upd (fun _ => .any) 3 (.d (.v (.int .i64 (a k))))) 7 (.d (.sl s (V.rows list)))) 8 (.d (.v (.int .i64 list.length)))) 9 (.d (.v (.int .i64 k))), n := 20, h := fun _ => .dead, nx := 0 })
    (fun k => k ≤ list.length) (fun k => list.length - k) 0 (Nat.zero_le _) ?_ ?_
  · refine wk_of rfl (Nat.le_of_ble_eq_true rfl) (by rw [hB]; exact Nat.zero_le _) (tle_upd (le_eq rfl rfl) (tle_upd (le_eq (int_eq (by rw [V.rows_len])) rfl) (tle_upd (le_eq rfl rfl) (tle_upd (le_eq rfl rfl) (tle_any _))))) (hle_dead _) (dead_none)
  intro k hk
  refine swp_seq ?_
  refine swp_region ?_
  refine sops_go rfl (st_bin rfl rfl rfl rfl rfl ?_)
  refine sops_nil ?_
  refine swp_seq ?_
  -- cond
  refine swp_cond _ rfl (fun hc => ?_) (fun hc => ?_)
  · have hlt : k < list.length := by have := of_decide_eq_true hc; omega
    refine swp_skip ?_
    refine swp_seq ?_
    refine swp_block ?_
    refine swp_seq ?_
    refine swp_region ?_
    -- hand: indexAddr 39 t7 t9
    refine sops_go rfl (so_indexSl rfl rfl rfl rfl rfl rfl rfl (V.rows_all _) (by omega) (by rw [V.rows_len]; omega) (V.rows_get _ _ hlt) ?_)
    have ihk := ih _ (List.getElem_mem hlt) true
    have hak := V.depthF_take list 0 k hlt
    generalize list[k] = x at ihk hak ⊢
    obtain ⟨a1, a2, a3, a4, a5, a6, a7, a8, a9⟩ := x
    first | refine sops_go rfl (so_load (v := .d (.agg [_, _, _, _, _, _, _, _, _])) rfl rfl rfl rfl rfl rfl rfl rfl ?_) | refine sops_go rfl (so_load (v := .agg [_, _, _, _, _, _, _, _, _]) rfl rfl rfl rfl rfl rfl rfl rfl ?_)
    refine sops_go rfl (so_alloc (cs := [_, _, _, _, _, _, _, _, _]) rfl rfl rfl rfl ?_)
    refine sops_go rfl (so_store rfl rfl rfl rfl rfl rfl rfl rfl rfl (zs := [_, _, _, _, _, _, _, _, _]) rfl ?_)
    refine sops_nil ?_
    refine swp_region ?_
    refine sops_go rfl (st_move (v := .d _) rfl rfl rfl ?_)
    first | refine sops_go rfl (so_load (v := .d (.agg [_, _, _, _, _, _, _, _, _])) rfl rfl rfl rfl rfl rfl rfl rfl ?_) | refine sops_go rfl (so_load (v := .agg [_, _, _, _, _, _, _, _, _]) rfl rfl rfl rfl rfl rfl rfl rfl ?_)
    -- hand: CALL f46(t14)
    refine sops_go rfl (st_call rfl rfl (ihk) ⟨na_d _, trivial⟩ rfl ?_)
    refine sops_go rfl (so_max rfl rfl rfl rfl rfl ?_)
    refine sops_go rfl (st_assign (v := .d _) rfl rfl rfl ?_)
    refine sops_nil ?_
    refine swp_region ?_
    refine sops_go rfl (st_bin rfl rfl rfl rfl rfl ?_)
    refine sops_go rfl (st_move (v := .d _) rfl rfl rfl ?_)
    refine sops_nil ?_
    -- loopend
    have e : a (k + 1) = max (a k) (V.mk a1 a2 a3 a4 a5 a6 a7 a8 a9).depthW := hak
    refine ⟨k + 1, hlt, by omega, ?_⟩
    simp only [e]
    refine wk_of rfl (Nat.le_of_ble_eq_true rfl) (by rw [hB]; exact Nat.zero_le _) (tle_upd (le_eq (next_i64 hlt hll) rfl) (tle_upd (le_eq rfl rfl) (tle_upd (le_eq rfl rfl) (tle_upd (le_eq rfl rfl) (tle_any _))))) (hle_dead _) (dead_none)
  · refine swp_exit ?_
    with_reducible refine after_exit ?_
    with_reducible refine after_exit ?_
    refine inblk_hit ?_
    refine swp_seq ?_
    refine swp_region ?_
    refine sops_go rfl (st_move (v := .d _) rfl rfl rfl ?_)
    refine sops_go rfl (st_bin rfl rfl rfl rfl rfl ?_)
    refine sops_go rfl (st_assign (v := .d _) rfl rfl rfl ?_)
    refine sops_nil ?_
    refine swp_ret ?_
    -- ret
    have : k = list.length := by have := of_decide_eq_false hc; omega
    have e : V.depthF list 0 = a k := by show _ = V.depthF (list.take k) _; rw [this, List.take_length]
    refine ⟨.inl rfl, .inl ⟨2, rfl, ?_⟩⟩
    simp only [V.depthW, e]; exact ra_d (keeps_v _)

end Go.Proofs.YtdcpnpcmgfmenaaDoor
