/-
  Walks: how big types are. Conditions: none.
-/
import Derived.Test.YtdcpnpcmgfmenaaDoorDb
import Derived.Test.YtdcpnpcmgfmenaaDoorSq
import Derived.Test.YtdcpnpcmgfmenaaDoorEnv
set_option linter.unusedVariables false
set_option maxRecDepth 100000
namespace Go.Proofs.YtdcpnpcmgfmenaaDoor
open Go Go.Proofs.YtdcpnpcmgfmenaaDoor.Lg

mutual
def T.wide : T → Bool
  | .mk _ names list => decide (1000 < names.length) || T.wides list
def T.wides : List T → Bool
  | [] => false
  | x :: r => x.wide || T.wides r
end
theorem T.wides_any : ∀ l : List T, T.wides l = l.any T.wide
  | [] => rfl
  | x :: r => by rw [T.wides, T.wides_any r]; rfl

theorem wide_pure (t : T) : Pure env 18 [.d t.d] (.d (.v (.bool t.wide))) := by
  revert t
  apply T.ind
  intro kind names list ih
  refine pure_of_body Tryd.func18 rfl rfl rfl fun B hB => ?_
  refine swp_seq ?_
  refine swp_region ?_
  refine sops_go rfl (so_box (cs := [_, _, _]) rfl rfl rfl ?_)
  refine sops_go rfl (st_assign (v := .d _) rfl rfl rfl ?_)
  refine sops_nil ?_
  refine swp_seq ?_
  refine swp_seq ?_
  refine swp_region ?_
  first | refine sops_go rfl (so_fieldAddr (v := .p _ _ _) rfl rfl rfl rfl rfl rfl rfl rfl rfl rfl ?_) | refine sops_go rfl (so_fieldAddr (v := .dp _ _) rfl rfl rfl rfl rfl rfl rfl rfl rfl rfl ?_) | refine sops_go rfl (so_fieldAddr (v := .pe _ _ _ _ _) rfl rfl rfl rfl rfl rfl rfl rfl rfl rfl ?_)
  first | refine sops_go rfl (so_load (v := .d _) rfl rfl rfl rfl rfl rfl rfl rfl ?_) | refine sops_go rfl (so_load (v := .own _ _ _ _ _) rfl rfl rfl rfl rfl rfl rfl rfl ?_)
  refine sops_go rfl (so_lenSl rfl rfl rfl rfl rfl ?_)
  refine sops_go rfl (st_bin rfl rfl rfl rfl rfl ?_)
  refine sops_nil ?_
  -- cond
  refine swp_cond _ rfl (fun hc => ?_) (fun hc => ?_)
  · refine swp_seq ?_
    refine swp_region ?_
    refine sops_go rfl (st_assign (v := .d _) rfl rfl rfl ?_)
    refine sops_nil ?_
    refine swp_ret ?_
    with_reducible refine after_ret ?_
    -- ret
    refine ⟨.inl rfl, .inl ⟨2, rfl, ?_⟩⟩
    have e : (T.mk kind names list).wide = true := by
      have := of_decide_eq_true hc
      rw [strRows_len] at this
      simp [T.wide]; omega
    rw [e]; exact ra_d (keeps_v _)
  · refine swp_skip ?_
    refine swp_seq ?_
    refine swp_seq ?_
    refine swp_region ?_
    refine sops_go rfl (st_assign (v := .d _) rfl rfl rfl ?_)
    refine sops_nil ?_
    refine swp_block ?_
    -- loop
    have hn : (names.length : Int) ≤ 1000 := by
      have := of_decide_eq_false hc
      rw [strRows_len] at this; omega
    have hw : (T.mk kind names list).wide = list.any T.wide := by
      have : ¬ 1000 < names.length := by omega
      simp [T.wide, T.wides_any, this]
    refine swp_len (l := 0) (i := 2) rfl rfl rfl fun hlen => ?_
    rw [T.rows_len] at hlen
    refine swp_loopF (F := fun k : Nat => { t := upd (upd (fun _ => .any) 1 (.p 0 0 0)) 3 (.d (.v (.int .i64 k))), n := 21, h := upd (fun _ => .dead) 0 (.cells [.any, .any, .d (.sl true (T.rows list))]), nx := 1 })
      (fun k => k ≤ list.length ∧ (list.take k).any T.wide = false) (fun k => list.length - k) 0 ⟨Nat.zero_le _, rfl⟩ ?_ ?_
    · refine wk_of rfl (Nat.le_of_ble_eq_true rfl) (by rw [hB]; exact Nat.zero_le _) (tle_upd (le_eq rfl rfl) (tle_upd (le_eq rfl rfl) (tle_any _))) (hle_upd (.cells _ _ ⟨le_any _, le_any _, le_eq rfl rfl, trivial⟩) (hle_dead _)) (dead_upd (Nat.le_of_ble_eq_true rfl) (dead_none))
    rintro k ⟨hk, ha⟩
    refine swp_seq ?_
    refine swp_seq ?_
    refine swp_region ?_
    refine sops_go rfl (st_move (v := .d _) rfl rfl rfl ?_)
    first | refine sops_go rfl (so_fieldAddr (v := .p _ _ _) rfl rfl rfl rfl rfl rfl rfl rfl rfl rfl ?_) | refine sops_go rfl (so_fieldAddr (v := .dp _ _) rfl rfl rfl rfl rfl rfl rfl rfl rfl rfl ?_) | refine sops_go rfl (so_fieldAddr (v := .pe _ _ _ _ _) rfl rfl rfl rfl rfl rfl rfl rfl rfl rfl ?_)
    first | refine sops_go rfl (so_load (v := .d _) rfl rfl rfl rfl rfl rfl rfl rfl ?_) | refine sops_go rfl (so_load (v := .own _ _ _ _ _) rfl rfl rfl rfl rfl rfl rfl rfl ?_)
    refine sops_go rfl (so_lenSl rfl rfl rfl rfl rfl ?_)
    refine sops_go rfl (st_bin rfl rfl rfl rfl rfl ?_)
    refine sops_nil ?_
    -- cond
    refine swp_cond _ rfl (fun hc => ?_) (fun hc => ?_)
    · have hlt : k < list.length := by have := of_decide_eq_true hc; rw [T.rows_len] at this; omega
      refine swp_skip ?_
      refine swp_seq ?_
      refine swp_block ?_
      refine swp_seq ?_
      refine swp_region ?_
      first | refine sops_go rfl (so_fieldAddr (v := .p _ _ _) rfl rfl rfl rfl rfl rfl rfl rfl rfl rfl ?_) | refine sops_go rfl (so_fieldAddr (v := .dp _ _) rfl rfl rfl rfl rfl rfl rfl rfl rfl rfl ?_) | refine sops_go rfl (so_fieldAddr (v := .pe _ _ _ _ _) rfl rfl rfl rfl rfl rfl rfl rfl rfl rfl ?_)
      first | refine sops_go rfl (so_load (v := .d _) rfl rfl rfl rfl rfl rfl rfl rfl ?_) | refine sops_go rfl (so_load (v := .own _ _ _ _ _) rfl rfl rfl rfl rfl rfl rfl rfl ?_)
      refine sops_go rfl (st_move (v := .d _) rfl rfl rfl ?_)
      -- hand: indexAddr 24 t16 t17
      refine sops_go rfl (so_indexSl rfl rfl rfl rfl rfl rfl rfl (T.rows_all _) (by omega) (by rw [T.rows_len]; omega) (T.rows_get _ _ hlt) ?_)
      have ihk := ih _ (List.getElem_mem hlt)
      have hat := any_take T.wide list k hlt
      have hget := any_get T.wide list k hlt
      generalize list[k] = x at ihk hat hget ⊢
      obtain ⟨a1, a2, a3⟩ := x
      first | refine sops_go rfl (so_load (v := .d (.agg [_, _, _])) rfl rfl rfl rfl rfl rfl rfl rfl ?_) | refine sops_go rfl (so_load (v := .agg [_, _, _]) rfl rfl rfl rfl rfl rfl rfl rfl ?_)
      -- hand: CALL f18(t19)
      refine sops_go rfl (st_call rfl rfl (ihk) ⟨na_d _, trivial⟩ rfl ?_)
      refine sops_nil ?_
      -- cond
      refine swp_cond _ rfl (fun hc => ?_) (fun hc => ?_)
      · refine swp_seq ?_
        refine swp_region ?_
        refine sops_go rfl (st_assign (v := .d _) rfl rfl rfl ?_)
        refine sops_nil ?_
        refine swp_ret ?_
        with_reducible refine inblk_ret ?_
        with_reducible refine after_ret ?_
        with_reducible refine after_ret ?_
        with_reducible refine inblk_ret ?_
        with_reducible refine after_ret ?_
        -- ret
        refine ⟨.inl rfl, .inl ⟨2, rfl, ?_⟩⟩
        rw [hw, hget hc]
        exact ra_d (keeps_v _)
      · refine swp_skip ?_
        refine swp_region ?_
        refine sops_go rfl (st_move (v := .d _) rfl rfl rfl ?_)
        refine sops_go rfl (st_bin rfl rfl rfl rfl rfl ?_)
        refine sops_go rfl (st_assign (v := .d _) rfl rfl rfl ?_)
        refine sops_nil ?_
        -- loopend
        refine ⟨k + 1, ⟨hlt, by rw [hat, ha, hc]; rfl⟩, by omega, ?_⟩
        refine wk_of rfl (Nat.le_of_ble_eq_true rfl) (by rw [hB]; exact Nat.zero_le _) (tle_upd (le_eq (next_i64 hlt hlen) rfl) (tle_upd (le_eq rfl rfl) (tle_any _))) (hle_upd (.cells _ _ ⟨le_any _, le_any _, le_eq rfl rfl, trivial⟩) (hle_dead _)) (dead_upd (Nat.le_of_ble_eq_true rfl) (dead_none))
    · refine swp_exit ?_
      with_reducible refine after_exit ?_
      with_reducible refine after_exit ?_
      refine inblk_hit ?_
      refine swp_seq ?_
      refine swp_region ?_
      refine sops_go rfl (st_assign (v := .d _) rfl rfl rfl ?_)
      refine sops_nil ?_
      refine swp_ret ?_
      -- ret
      refine ⟨.inl rfl, .inl ⟨2, rfl, ?_⟩⟩
      have : k = list.length := by have := of_decide_eq_false hc; rw [T.rows_len] at this; omega
      rw [this, List.take_length] at ha
      rw [hw, ha]
      exact ra_d (keeps_v _)
end Go.Proofs.YtdcpnpcmgfmenaaDoor
