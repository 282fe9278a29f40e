/-
  Walks: how big values are, as far as the guards ask. Conditions: none.
-/
import Derived.Test.YtdcpnpcmgfmenaaDoorSq
import Derived.Test.YtdcpnpcmgfmenaaDoorDb
import Derived.Test.YtdcpnpcmgfmenaaDoorEnv
set_option linter.unusedVariables false
set_option maxRecDepth 100000
namespace Go.Proofs.YtdcpnpcmgfmenaaDoor
open Go Go.Proofs.YtdcpnpcmgfmenaaDoor.Lg

mutual
def V.many : V → Bool
  | .mk _ _ _ _ _ _ _ names list => decide (2000 < names.length) || V.manys list
def V.manys : List V → Bool
  | [] => false
  | x :: r => x.many || V.manys r
end
theorem V.manys_any : ∀ l : List V, V.manys l = l.any V.many
  | [] => rfl
  | x :: r => by rw [V.manys, V.manys_any r]; rfl
theorem keeps_strs' (l : List ByteArray) : Keeps (.sl true (strRows l)) := keeps_strs l

theorem many_pure (t : V) : Pure env 29 [.d t.d] (.d (.v (.bool t.many))) := by
  revert t
  apply V.ind
  intro kind flag neg digits exp bits text names list ih
  refine pure_of_body Tryd.func29 rfl rfl rfl fun B hB => ?_
  refine swp_seq ?_
  refine swp_region ?_
  refine sops_go rfl (so_box (cs := [_, _, _, _, _, _, _, _, _]) rfl rfl rfl ?_)
  refine sops_go rfl (st_assign (v := .d _) rfl rfl rfl ?_)
  refine sops_nil ?_
  refine swp_seq ?_
  refine swp_seq ?_
  refine swp_region ?_
  first | refine sops_go rfl (so_fieldAddr (v := .p _ _ _) rfl rfl rfl rfl rfl rfl rfl rfl rfl rfl ?_) | refine sops_go rfl (so_fieldAddr (v := .dp _ _) rfl rfl rfl rfl rfl rfl rfl rfl rfl rfl ?_) | refine sops_go rfl (so_fieldAddr (v := .pe _ _ _ _ _) rfl rfl rfl rfl rfl rfl rfl rfl rfl rfl ?_)
  first | refine sops_go rfl (so_load (v := .d _) rfl rfl rfl rfl rfl rfl rfl rfl ?_) | refine sops_go rfl (so_load (v := .own _ _ _ _ _) rfl rfl rfl rfl rfl rfl rfl rfl ?_)
  refine sops_go rfl (so_lenSl rfl rfl rfl rfl rfl ?_)
  refine sops_go rfl (st_bin rfl rfl rfl rfl rfl ?_)
  refine sops_nil ?_
  -- cond
  refine swp_cond _ rfl (fun hc => ?_) (fun hc => ?_)
  · refine swp_seq ?_
    refine swp_region ?_
    refine sops_go rfl (st_assign (v := .d _) rfl rfl rfl ?_)
    refine sops_nil ?_
    refine swp_ret ?_
    with_reducible refine after_ret ?_
    -- ret
    refine ⟨.inl rfl, .inl ⟨2, rfl, ?_⟩⟩
    have e : (V.mk kind flag neg digits exp bits text names list).many = true := by
      have := of_decide_eq_true hc
      rw [strRows_len] at this
      simp [V.many]; omega
    rw [e]; exact ra_d (keeps_v _)
  · refine swp_skip ?_
    refine swp_seq ?_
    refine swp_seq ?_
    refine swp_region ?_
    refine sops_go rfl (st_assign (v := .d _) rfl rfl rfl ?_)
    refine sops_nil ?_
    refine swp_block ?_
    -- loop
    have hn : (names.length : Int) ≤ 2000 := by
      have := of_decide_eq_false hc
      rw [strRows_len] at this; omega
    have hw : (V.mk kind flag neg digits exp bits text names list).many = list.any V.many := by
      have : ¬ 2000 < names.length := by omega
      simp [V.many, V.manys_any, this]
    refine swp_len (l := 0) (i := 8) rfl rfl rfl fun hlen => ?_
    rw [V.rows_len] at hlen
    refine swp_loopF (F := fun k : Nat => { t := upd (upd (fun _ => .any) 1 (.p 0 0 0)) 3 (.d (.v (.int .i64 k))), n := 21, h := upd (fun _ => .dead) 0 (.cells [.any, .any, .any, .any, .any, .any, .any, .any, .d (.sl true (V.rows list))]), nx := 1 })
      (fun k => k ≤ list.length ∧ (list.take k).any V.many = false) (fun k => list.length - k) 0 ⟨Nat.zero_le _, rfl⟩ ?_ ?_
    · refine wk_of rfl (Nat.le_of_ble_eq_true rfl) (by rw [hB]; exact Nat.zero_le _) (tle_upd (le_eq rfl rfl) (tle_upd (le_eq rfl rfl) (tle_any _))) (hle_upd (.cells _ _ ⟨le_any _, le_any _, le_any _, le_any _, le_any _, le_any _, le_any _, le_any _, le_eq rfl rfl, trivial⟩) (hle_dead _)) (dead_upd (Nat.le_of_ble_eq_true rfl) (dead_none))
    rintro k ⟨hk, ha⟩
    refine swp_seq ?_
    refine swp_seq ?_
    refine swp_region ?_
    refine sops_go rfl (st_move (v := .d _) rfl rfl rfl ?_)
    first | refine sops_go rfl (so_fieldAddr (v := .p _ _ _) rfl rfl rfl rfl rfl rfl rfl rfl rfl rfl ?_) | refine sops_go rfl (so_fieldAddr (v := .dp _ _) rfl rfl rfl rfl rfl rfl rfl rfl rfl rfl ?_) | refine sops_go rfl (so_fieldAddr (v := .pe _ _ _ _ _) rfl rfl rfl rfl rfl rfl rfl rfl rfl rfl ?_)
    first | refine sops_go rfl (so_load (v := .d _) rfl rfl rfl rfl rfl rfl rfl rfl ?_) | refine sops_go rfl (so_load (v := .own _ _ _ _ _) rfl rfl rfl rfl rfl rfl rfl rfl ?_)
    refine sops_go rfl (so_lenSl rfl rfl rfl rfl rfl ?_)
    refine sops_go rfl (st_bin rfl rfl rfl rfl rfl ?_)
    refine sops_nil ?_
    -- cond
    refine swp_cond _ rfl (fun hc => ?_) (fun hc => ?_)
    · have hlt : k < list.length := by have := of_decide_eq_true hc; rw [V.rows_len] at this; omega
      refine swp_skip ?_
      refine swp_seq ?_
      refine swp_block ?_
      refine swp_seq ?_
      refine swp_region ?_
      first | refine sops_go rfl (so_fieldAddr (v := .p _ _ _) rfl rfl rfl rfl rfl rfl rfl rfl rfl rfl ?_) | refine sops_go rfl (so_fieldAddr (v := .dp _ _) rfl rfl rfl rfl rfl rfl rfl rfl rfl rfl ?_) | refine sops_go rfl (so_fieldAddr (v := .pe _ _ _ _ _) rfl rfl rfl rfl rfl rfl rfl rfl rfl rfl ?_)
      first | refine sops_go rfl (so_load (v := .d _) rfl rfl rfl rfl rfl rfl rfl rfl ?_) | refine sops_go rfl (so_load (v := .own _ _ _ _ _) rfl rfl rfl rfl rfl rfl rfl rfl ?_)
      refine sops_go rfl (st_move (v := .d _) rfl rfl rfl ?_)
      -- hand: indexAddr 39 t16 t17
      refine sops_go rfl (so_indexSl rfl rfl rfl rfl rfl rfl rfl (V.rows_all _) (by omega) (by rw [V.rows_len]; omega) (V.rows_get _ _ hlt) ?_)
      have ihk := ih _ (List.getElem_mem hlt)
      have hat := any_take V.many list k hlt
      have hget := any_get V.many list k hlt
      generalize list[k] = x at ihk hat hget ⊢
      obtain ⟨a1, a2, a3, a4, a5, a6, a7, a8, a9⟩ := x
      first | refine sops_go rfl (so_load (v := .d (.agg [_, _, _, _, _, _, _, _, _])) rfl rfl rfl rfl rfl rfl rfl rfl ?_) | refine sops_go rfl (so_load (v := .agg [_, _, _, _, _, _, _, _, _]) rfl rfl rfl rfl rfl rfl rfl rfl ?_)
      -- hand: CALL f29(t19)
      refine sops_go rfl (st_call rfl rfl (ihk) ⟨na_d _, trivial⟩ rfl ?_)
      refine sops_nil ?_
      -- cond
      refine swp_cond _ rfl (fun hc => ?_) (fun hc => ?_)
      · refine swp_seq ?_
        refine swp_region ?_
        refine sops_go rfl (st_assign (v := .d _) rfl rfl rfl ?_)
        refine sops_nil ?_
        refine swp_ret ?_
        with_reducible refine inblk_ret ?_
        with_reducible refine after_ret ?_
        with_reducible refine after_ret ?_
        with_reducible refine inblk_ret ?_
        with_reducible refine after_ret ?_
        -- ret
        refine ⟨.inl rfl, .inl ⟨2, rfl, ?_⟩⟩
        rw [hw, hget hc]
        exact ra_d (keeps_v _)
      · refine swp_skip ?_
        refine swp_region ?_
        refine sops_go rfl (st_move (v := .d _) rfl rfl rfl ?_)
        refine sops_go rfl (st_bin rfl rfl rfl rfl rfl ?_)
        refine sops_go rfl (st_assign (v := .d _) rfl rfl rfl ?_)
        refine sops_nil ?_
        -- loopend
        refine ⟨k + 1, ⟨hlt, by rw [hat, ha, hc]; rfl⟩, by omega, ?_⟩
        refine wk_of rfl (Nat.le_of_ble_eq_true rfl) (by rw [hB]; exact Nat.zero_le _) (tle_upd (le_eq (next_i64 hlt hlen) rfl) (tle_upd (le_eq rfl rfl) (tle_any _))) (hle_upd (.cells _ _ ⟨le_any _, le_any _, le_any _, le_any _, le_any _, le_any _, le_any _, le_any _, le_eq rfl rfl, trivial⟩) (hle_dead _)) (dead_upd (Nat.le_of_ble_eq_true rfl) (dead_none))
    · refine swp_exit ?_
      with_reducible refine after_exit ?_
      with_reducible refine after_exit ?_
      refine inblk_hit ?_
      refine swp_seq ?_
      refine swp_region ?_
      refine sops_go rfl (st_assign (v := .d _) rfl rfl rfl ?_)
      refine sops_nil ?_
      refine swp_ret ?_
      -- ret
      refine ⟨.inl rfl, .inl ⟨2, rfl, ?_⟩⟩
      have : k = list.length := by have := of_decide_eq_false hc; rw [V.rows_len] at this; omega
      rw [this, List.take_length] at ha
      rw [hw, ha]
      exact ra_d (keeps_v _)

theorem partsV_s (t : V) : ∀ n m w : Int, PureS env 28 [.d t.d, .d (.v (.int .i64 n)), .d (.v (.int .i64 m)), .d (.v (.int .i64 w))] isInt := by
  revert t
  apply V.ind
  intro kind flag neg digits exp bits text names list ih n m w
  refine pureS_of_body Tryd.func28 rfl rfl rfl fun B hB => ?_
  refine swp_seq ?_
  refine swp_region ?_
  refine sops_go rfl (so_box (cs := [_, _, _, _, _, _, _, _, _]) rfl rfl rfl ?_)
  refine sops_go rfl (st_assign (v := .d _) rfl rfl rfl ?_)
  refine sops_nil ?_
  refine swp_seq ?_
  refine swp_seq ?_
  refine swp_region ?_
  refine sops_go rfl (st_move (v := .d _) rfl rfl rfl ?_)
  refine sops_go rfl (st_bin rfl rfl rfl rfl rfl ?_)
  refine sops_nil ?_
  -- cond
  refine swp_cond _ rfl (fun hc => ?_) (fun hc => ?_)
  · refine swp_seq ?_
    refine swp_region ?_
    refine sops_go rfl (st_move (v := .d _) rfl rfl rfl ?_)
    refine sops_go rfl (st_bin rfl rfl rfl rfl rfl ?_)
    refine sops_go rfl (st_assign (v := .d _) rfl rfl rfl ?_)
    refine sops_nil ?_
    refine swp_ret ?_
    with_reducible refine after_ret ?_
    -- ret
    exact ⟨.inl rfl, _, ⟨_, rfl⟩, .inl ⟨8, rfl, ra_d (keeps_v _)⟩⟩
  · refine swp_skip ?_
    refine swp_seq ?_
    refine swp_region ?_
    refine sops_go rfl (st_move (v := .d _) rfl rfl rfl ?_)
    refine sops_go rfl (st_bin rfl rfl rfl rfl rfl ?_)
    first | refine sops_go rfl (so_fieldAddr (v := .p _ _ _) rfl rfl rfl rfl rfl rfl rfl rfl rfl rfl ?_) | refine sops_go rfl (so_fieldAddr (v := .dp _ _) rfl rfl rfl rfl rfl rfl rfl rfl rfl rfl ?_) | refine sops_go rfl (so_fieldAddr (v := .pe _ _ _ _ _) rfl rfl rfl rfl rfl rfl rfl rfl rfl rfl ?_)
    refine sops_go rfl (so_load (v := .d _) rfl rfl rfl rfl rfl rfl rfl rfl ?_)
    refine sops_go rfl (so_lenStr rfl rfl rfl rfl rfl ?_)
    refine sops_go rfl (st_bin rfl rfl rfl rfl rfl ?_)
    first | refine sops_go rfl (so_fieldAddr (v := .p _ _ _) rfl rfl rfl rfl rfl rfl rfl rfl rfl rfl ?_) | refine sops_go rfl (so_fieldAddr (v := .dp _ _) rfl rfl rfl rfl rfl rfl rfl rfl rfl rfl ?_) | refine sops_go rfl (so_fieldAddr (v := .pe _ _ _ _ _) rfl rfl rfl rfl rfl rfl rfl rfl rfl rfl ?_)
    first | refine sops_go rfl (so_fieldAddr (v := .p _ _ _) rfl rfl rfl rfl rfl rfl rfl rfl rfl rfl ?_) | refine sops_go rfl (so_fieldAddr (v := .dp _ _) rfl rfl rfl rfl rfl rfl rfl rfl rfl rfl ?_) | refine sops_go rfl (so_fieldAddr (v := .pe _ _ _ _ _) rfl rfl rfl rfl rfl rfl rfl rfl rfl rfl ?_)
    refine sops_go rfl (so_load (v := .d _) rfl rfl rfl rfl rfl rfl rfl rfl ?_)
    refine sops_go rfl (so_lenStr rfl rfl rfl rfl rfl ?_)
    refine sops_go rfl (st_bin rfl rfl rfl rfl rfl ?_)
    first | refine sops_go rfl (so_fieldAddr (v := .p _ _ _) rfl rfl rfl rfl rfl rfl rfl rfl rfl rfl ?_) | refine sops_go rfl (so_fieldAddr (v := .dp _ _) rfl rfl rfl rfl rfl rfl rfl rfl rfl rfl ?_) | refine sops_go rfl (so_fieldAddr (v := .pe _ _ _ _ _) rfl rfl rfl rfl rfl rfl rfl rfl rfl rfl ?_)
    first | refine sops_go rfl (so_load (v := .d _) rfl rfl rfl rfl rfl rfl rfl rfl ?_) | refine sops_go rfl (so_load (v := .own _ _ _ _ _) rfl rfl rfl rfl rfl rfl rfl rfl ?_)
    refine sops_go rfl (so_lenSl rfl rfl rfl rfl rfl ?_)
    refine sops_go rfl (st_bin rfl rfl rfl rfl rfl ?_)
    refine sops_go rfl (st_assign (v := .d _) rfl rfl rfl ?_)
    refine sops_nil ?_
    -- stop
    refine swp_len (l := 0) (i := 7) rfl rfl rfl fun hn => ?_
    refine swp_len (l := 0) (i := 8) rfl rfl rfl fun hlen => ?_
    rw [strRows_len] at hn
    rw [V.rows_len] at hlen
    let F0 : Int → St := fun n => { t := upd (upd (upd (upd (fun _ => .any) 4 (.p 0 0 0)) 3 (.d (.v (.int .i64 w)))) 2 (.d (.v (.int .i64 m)))) 1 (.d (.v (.int .i64 n))), n := 73, h := upd (fun _ => .dead) 0 (.cells [.any, .any, .any, .any, .any, .any, .any, .d (.sl true (strRows names)), .d (.sl true (V.rows list))]), nx := 1 }
    refine swp_seqF (F := F0) (P := fun _ => True) ?_ ?_
    · refine swp_seq ?_
      refine swp_region ?_
      refine sops_go rfl (st_assign (v := .d _) rfl rfl rfl ?_)
      refine sops_nil ?_
      refine swp_block ?_
      -- loop
      let F1 : Nat × Int → St := fun p => { F0 p.2 with t := upd (F0 p.2).t 9 (.d (.v (.int .i64 p.1))) }
      refine swp_loopF (F := F1) (fun p => p.1 ≤ names.length) (fun p => names.length - p.1) (0, IntKind.i64.wrap (IntKind.i64.wrap (IntKind.i64.wrap (IntKind.i64.wrap (n + 1) + (text.size : Int)) + (digits.size : Int)) + (names.length : Int))) (Nat.zero_le _) ?_ ?_
      · rw [← strRows_len names]
        refine wk_of rfl (Nat.le_of_ble_eq_true rfl) (by rw [hB]; exact Nat.zero_le _) (tle_upd (le_eq rfl rfl) (tle_upd (le_eq rfl rfl) (tle_upd (le_eq rfl rfl) (tle_upd (le_eq rfl rfl) (tle_upd (le_eq rfl rfl) (tle_any _)))))) (hle_upd (.cells _ _ ⟨le_any _, le_any _, le_any _, le_any _, le_any _, le_any _, le_any _, le_eq rfl rfl, le_eq rfl rfl, trivial⟩) (hle_dead _)) (dead_upd (Nat.le_of_ble_eq_true rfl) (dead_none))
      rintro ⟨k, n1⟩ hk
      simp only at hk
      refine swp_seq ?_
      refine swp_seq ?_
      refine swp_region ?_
      refine sops_go rfl (st_move (v := .d _) rfl rfl rfl ?_)
      first | refine sops_go rfl (so_fieldAddr (v := .p _ _ _) rfl rfl rfl rfl rfl rfl rfl rfl rfl rfl ?_) | refine sops_go rfl (so_fieldAddr (v := .dp _ _) rfl rfl rfl rfl rfl rfl rfl rfl rfl rfl ?_) | refine sops_go rfl (so_fieldAddr (v := .pe _ _ _ _ _) rfl rfl rfl rfl rfl rfl rfl rfl rfl rfl ?_)
      first | refine sops_go rfl (so_load (v := .d _) rfl rfl rfl rfl rfl rfl rfl rfl ?_) | refine sops_go rfl (so_load (v := .own _ _ _ _ _) rfl rfl rfl rfl rfl rfl rfl rfl ?_)
      refine sops_go rfl (so_lenSl rfl rfl rfl rfl rfl ?_)
      refine sops_go rfl (st_bin rfl rfl rfl rfl rfl ?_)
      refine sops_go rfl (st_move (v := .d _) rfl rfl rfl ?_)
      -- guard (some (5, true))
      refine sops_case 35 rfl (fun hb35 => ?_) (fun hb35 => ?_)
      · have hlt : k < names.length := by have := of_decide_eq_true hb35; rw [strRows_len] at this; omega
        first | refine sops_yes rfl rfl rfl rfl (st_move (v := .d _) rfl rfl rfl ?_) | refine sops_no rfl rfl rfl rfl rfl ?_
        first | refine sops_yes rfl rfl rfl rfl (st_move (v := .d _) rfl rfl rfl ?_) | refine sops_no rfl rfl rfl rfl rfl ?_
        first | refine sops_yes rfl rfl rfl rfl (st_bin rfl rfl rfl rfl rfl ?_) | refine sops_no rfl rfl rfl rfl rfl ?_
        refine sops_go rfl (st_pick (v := .d _) rfl rfl rfl rfl ?_)
        refine sops_nil ?_
        -- cond
        refine swp_cond _ rfl (fun hc => ?_) (fun hc => ?_)
        · refine swp_skip ?_
          refine swp_seq ?_
          refine swp_block ?_
          refine swp_region ?_
          refine sops_go rfl (st_move (v := .d _) rfl rfl rfl ?_)
          first | refine sops_go rfl (so_fieldAddr (v := .p _ _ _) rfl rfl rfl rfl rfl rfl rfl rfl rfl rfl ?_) | refine sops_go rfl (so_fieldAddr (v := .dp _ _) rfl rfl rfl rfl rfl rfl rfl rfl rfl rfl ?_) | refine sops_go rfl (so_fieldAddr (v := .pe _ _ _ _ _) rfl rfl rfl rfl rfl rfl rfl rfl rfl rfl ?_)
          first | refine sops_go rfl (so_load (v := .d _) rfl rfl rfl rfl rfl rfl rfl rfl ?_) | refine sops_go rfl (so_load (v := .own _ _ _ _ _) rfl rfl rfl rfl rfl rfl rfl rfl ?_)
          refine sops_go rfl (st_move (v := .d _) rfl rfl rfl ?_)
          -- hand: indexAddr 23 t44 t45
          refine sops_go rfl (so_indexSl rfl rfl rfl rfl rfl rfl rfl (strRows_all _) (by omega) (by rw [strRows_len]; omega) (strRows_get _ _ hlt) ?_)
          refine sops_go rfl (so_load (v := .d _) rfl rfl rfl rfl rfl rfl rfl rfl ?_)
          refine sops_go rfl (so_lenStr rfl rfl rfl rfl rfl ?_)
          refine sops_go rfl (st_bin rfl rfl rfl rfl rfl ?_)
          refine sops_go rfl (st_assign (v := .d _) rfl rfl rfl ?_)
          refine sops_nil ?_
          refine swp_region ?_
          refine sops_go rfl (st_move (v := .d _) rfl rfl rfl ?_)
          refine sops_go rfl (st_bin rfl rfl rfl rfl rfl ?_)
          refine sops_go rfl (st_assign (v := .d _) rfl rfl rfl ?_)
          refine sops_nil ?_
          -- loopend
          refine ⟨(k + 1, IntKind.i64.wrap (n1 + ((names[k]).size : Int))), hlt, by simp only; omega, ?_⟩
          refine wk_of rfl (Nat.le_of_ble_eq_true rfl) (by rw [hB]; exact Nat.zero_le _) (tle_upd (le_eq (next_i64 hlt hn) rfl) (tle_upd (le_eq rfl rfl) (tle_upd (le_eq rfl rfl) (tle_upd (le_eq rfl rfl) (tle_upd (le_eq rfl rfl) (tle_any _)))))) (hle_upd (.cells _ _ ⟨le_any _, le_any _, le_any _, le_any _, le_any _, le_any _, le_any _, le_eq rfl rfl, le_eq rfl rfl, trivial⟩) (hle_dead _)) (dead_upd (Nat.le_of_ble_eq_true rfl) (dead_none))
        · refine swp_exit ?_
          with_reducible refine after_exit ?_
          with_reducible refine after_exit ?_
          refine inblk_hit ?_
          -- cut
          refine ⟨n1, trivial, ?_⟩
          refine wk_of rfl (Nat.le_of_ble_eq_true rfl) (by rw [hB]; exact Nat.zero_le _) (tle_upd (le_eq rfl rfl) (tle_upd (le_eq rfl rfl) (tle_upd (le_eq rfl rfl) (tle_upd (le_eq rfl rfl) (tle_any _))))) (hle_upd (.cells _ _ ⟨le_any _, le_any _, le_any _, le_any _, le_any _, le_any _, le_any _, le_eq rfl rfl, le_eq rfl rfl, trivial⟩) (hle_dead _)) (dead_upd (Nat.le_of_ble_eq_true rfl) (dead_none))
      · first | refine sops_yes rfl rfl rfl rfl (st_move (v := .d _) rfl rfl rfl ?_) | refine sops_no rfl rfl rfl rfl rfl ?_
        first | refine sops_yes rfl rfl rfl rfl (st_move (v := .d _) rfl rfl rfl ?_) | refine sops_no rfl rfl rfl rfl rfl ?_
        first | refine sops_yes rfl rfl rfl rfl (st_bin rfl rfl rfl rfl rfl ?_) | refine sops_no rfl rfl rfl rfl rfl ?_
        refine sops_go rfl (st_pick (v := .d _) rfl rfl rfl rfl ?_)
        refine sops_nil ?_
        -- cond
        refine swp_condF rfl ?_
        refine swp_exit ?_
        with_reducible refine after_exit ?_
        with_reducible refine after_exit ?_
        refine inblk_hit ?_
        -- cut
        refine ⟨n1, trivial, ?_⟩
        refine wk_of rfl (Nat.le_of_ble_eq_true rfl) (by rw [hB]; exact Nat.zero_le _) (tle_upd (le_eq rfl rfl) (tle_upd (le_eq rfl rfl) (tle_upd (le_eq rfl rfl) (tle_upd (le_eq rfl rfl) (tle_any _))))) (hle_upd (.cells _ _ ⟨le_any _, le_any _, le_any _, le_any _, le_any _, le_any _, le_any _, le_eq rfl rfl, le_eq rfl rfl, trivial⟩) (hle_dead _)) (dead_upd (Nat.le_of_ble_eq_true rfl) (dead_none))
    rintro n1 -
    refine swp_seq ?_
    refine swp_seq ?_
    refine swp_region ?_
    refine sops_go rfl (st_assign (v := .d _) rfl rfl rfl ?_)
    refine sops_nil ?_
    refine swp_block ?_
    -- loop
    let F2 : Nat × Int → St := fun p => { F0 p.2 with t := upd (F0 p.2).t 10 (.d (.v (.int .i64 p.1))) }
    refine swp_loopF (F := F2) (fun p => p.1 ≤ list.length) (fun p => list.length - p.1) (0, n1) (Nat.zero_le _) ?_ ?_
    · refine wk_of rfl (Nat.le_of_ble_eq_true rfl) (by rw [hB]; exact Nat.zero_le _) (tle_upd (le_eq rfl rfl) (tle_upd (le_eq rfl rfl) (tle_upd (le_eq rfl rfl) (tle_upd (le_eq rfl rfl) (tle_upd (le_eq rfl rfl) (tle_any _)))))) (hle_upd (.cells _ _ ⟨le_any _, le_any _, le_any _, le_any _, le_any _, le_any _, le_any _, le_eq rfl rfl, le_eq rfl rfl, trivial⟩) (hle_dead _)) (dead_upd (Nat.le_of_ble_eq_true rfl) (dead_none))
    rintro ⟨k, n2⟩ hk
    simp only at hk
    refine swp_seq ?_
    refine swp_seq ?_
    refine swp_region ?_
    refine sops_go rfl (st_move (v := .d _) rfl rfl rfl ?_)
    first | refine sops_go rfl (so_fieldAddr (v := .p _ _ _) rfl rfl rfl rfl rfl rfl rfl rfl rfl rfl ?_) | refine sops_go rfl (so_fieldAddr (v := .dp _ _) rfl rfl rfl rfl rfl rfl rfl rfl rfl rfl ?_) | refine sops_go rfl (so_fieldAddr (v := .pe _ _ _ _ _) rfl rfl rfl rfl rfl rfl rfl rfl rfl rfl ?_)
    first | refine sops_go rfl (so_load (v := .d _) rfl rfl rfl rfl rfl rfl rfl rfl ?_) | refine sops_go rfl (so_load (v := .own _ _ _ _ _) rfl rfl rfl rfl rfl rfl rfl rfl ?_)
    refine sops_go rfl (so_lenSl rfl rfl rfl rfl rfl ?_)
    refine sops_go rfl (st_bin rfl rfl rfl rfl rfl ?_)
    refine sops_go rfl (st_move (v := .d _) rfl rfl rfl ?_)
    -- guard (some (5, true))
    refine sops_case 55 rfl (fun hb55 => ?_) (fun hb55 => ?_)
    · have hlt : k < list.length := by have := of_decide_eq_true hb55; rw [V.rows_len] at this; omega
      first | refine sops_yes rfl rfl rfl rfl (st_move (v := .d _) rfl rfl rfl ?_) | refine sops_no rfl rfl rfl rfl rfl ?_
      first | refine sops_yes rfl rfl rfl rfl (st_move (v := .d _) rfl rfl rfl ?_) | refine sops_no rfl rfl rfl rfl rfl ?_
      first | refine sops_yes rfl rfl rfl rfl (st_bin rfl rfl rfl rfl rfl ?_) | refine sops_no rfl rfl rfl rfl rfl ?_
      refine sops_go rfl (st_pick (v := .d _) rfl rfl rfl rfl ?_)
      refine sops_nil ?_
      -- cond
      refine swp_cond _ rfl (fun hc => ?_) (fun hc => ?_)
      · refine swp_skip ?_
        refine swp_seq ?_
        refine swp_block ?_
        refine swp_region ?_
        first | refine sops_go rfl (so_fieldAddr (v := .p _ _ _) rfl rfl rfl rfl rfl rfl rfl rfl rfl rfl ?_) | refine sops_go rfl (so_fieldAddr (v := .dp _ _) rfl rfl rfl rfl rfl rfl rfl rfl rfl rfl ?_) | refine sops_go rfl (so_fieldAddr (v := .pe _ _ _ _ _) rfl rfl rfl rfl rfl rfl rfl rfl rfl rfl ?_)
        first | refine sops_go rfl (so_load (v := .d _) rfl rfl rfl rfl rfl rfl rfl rfl ?_) | refine sops_go rfl (so_load (v := .own _ _ _ _ _) rfl rfl rfl rfl rfl rfl rfl rfl ?_)
        refine sops_go rfl (st_move (v := .d _) rfl rfl rfl ?_)
        -- hand: indexAddr 39 t63 t64
        refine sops_go rfl (so_indexSl rfl rfl rfl rfl rfl rfl rfl (V.rows_all _) (by omega) (by rw [V.rows_len]; omega) (V.rows_get _ _ hlt) ?_)
        have ihk := ih _ (List.getElem_mem hlt)
        generalize list[k] = x at ihk ⊢
        obtain ⟨a1, a2, a3, a4, a5, a6, a7, a8, a9⟩ := x
        first | refine sops_go rfl (so_load (v := .d (.agg [_, _, _, _, _, _, _, _, _])) rfl rfl rfl rfl rfl rfl rfl rfl ?_) | refine sops_go rfl (so_load (v := .agg [_, _, _, _, _, _, _, _, _]) rfl rfl rfl rfl rfl rfl rfl rfl ?_)
        refine sops_go rfl (st_move (v := .d _) rfl rfl rfl ?_)
        refine sops_go rfl (st_move (v := .d _) rfl rfl rfl ?_)
        refine sops_go rfl (st_move (v := .d _) rfl rfl rfl ?_)
        refine sops_go rfl (st_bin rfl rfl rfl rfl rfl ?_)
        -- hand: CALL f28(t66, t67, t68, t70)
        refine sops_go rfl (st_callS rfl rfl (ihk _ _ _) ⟨na_d _, na_d _, na_d _, na_d _, trivial⟩ rfl fun r hr => ?_)
        obtain ⟨v, rfl⟩ := hr
        refine sops_go rfl (st_assign (v := .d _) rfl rfl rfl ?_)
        refine sops_nil ?_
        refine swp_region ?_
        refine sops_go rfl (st_move (v := .d _) rfl rfl rfl ?_)
        refine sops_go rfl (st_bin rfl rfl rfl rfl rfl ?_)
        refine sops_go rfl (st_assign (v := .d _) rfl rfl rfl ?_)
        refine sops_nil ?_
        -- loopend
        refine ⟨(k + 1, v), hlt, by simp only; omega, ?_⟩
        refine wk_of rfl (Nat.le_of_ble_eq_true rfl) (by rw [hB]; exact Nat.zero_le _) (tle_upd (le_eq (next_i64 hlt hlen) rfl) (tle_upd (le_eq rfl rfl) (tle_upd (le_eq rfl rfl) (tle_upd (le_eq rfl rfl) (tle_upd (le_eq rfl rfl) (tle_any _)))))) (hle_upd (.cells _ _ ⟨le_any _, le_any _, le_any _, le_any _, le_any _, le_any _, le_any _, le_eq rfl rfl, le_eq rfl rfl, trivial⟩) (hle_dead _)) (dead_upd (Nat.le_of_ble_eq_true rfl) (dead_none))
      · refine swp_exit ?_
        with_reducible refine after_exit ?_
        with_reducible refine after_exit ?_
        refine inblk_hit ?_
        refine swp_seq ?_
        refine swp_region ?_
        refine sops_go rfl (st_move (v := .d _) rfl rfl rfl ?_)
        refine sops_go rfl (st_assign (v := .d _) rfl rfl rfl ?_)
        refine sops_nil ?_
        refine swp_ret ?_
        -- ret
        exact ⟨.inl rfl, _, ⟨_, rfl⟩, .inl ⟨8, rfl, ra_d (keeps_v _)⟩⟩
    · first | refine sops_yes rfl rfl rfl rfl (st_move (v := .d _) rfl rfl rfl ?_) | refine sops_no rfl rfl rfl rfl rfl ?_
      first | refine sops_yes rfl rfl rfl rfl (st_move (v := .d _) rfl rfl rfl ?_) | refine sops_no rfl rfl rfl rfl rfl ?_
      first | refine sops_yes rfl rfl rfl rfl (st_bin rfl rfl rfl rfl rfl ?_) | refine sops_no rfl rfl rfl rfl rfl ?_
      refine sops_go rfl (st_pick (v := .d _) rfl rfl rfl rfl ?_)
      refine sops_nil ?_
      -- cond
      refine swp_condF rfl ?_
      refine swp_exit ?_
      with_reducible refine after_exit ?_
      with_reducible refine after_exit ?_
      refine inblk_hit ?_
      refine swp_seq ?_
      refine swp_region ?_
      refine sops_go rfl (st_move (v := .d _) rfl rfl rfl ?_)
      refine sops_go rfl (st_assign (v := .d _) rfl rfl rfl ?_)
      refine sops_nil ?_
      refine swp_ret ?_
      -- ret
      exact ⟨.inl rfl, _, ⟨_, rfl⟩, .inl ⟨8, rfl, ra_d (keeps_v _)⟩⟩


theorem big_s (t : V) : PureS env 14 [.d t.d] isBool := by
  obtain ⟨kind, flag, neg, digits, exp, bits, text, names, list⟩ := t
  refine pureS_of_body Tryd.func14 rfl rfl rfl fun B hB => ?_
  refine swp_seq ?_
  refine swp_region ?_
  refine sops_go rfl (so_box (cs := [_, _, _, _, _, _, _, _, _]) rfl rfl rfl ?_)
  refine sops_go rfl (st_assign (v := .d _) rfl rfl rfl ?_)
  refine sops_nil ?_
  refine swp_seq ?_
  refine swp_region ?_
  first | refine sops_go rfl (so_load (v := .d (.agg [_, _, _, _, _, _, _, _, _])) rfl rfl rfl rfl rfl rfl rfl rfl ?_) | refine sops_go rfl (so_load (v := .agg [_, _, _, _, _, _, _, _, _]) rfl rfl rfl rfl rfl rfl rfl rfl ?_)
  -- hand: CALL f28(t3, 0:i64, 65536:i64, 0:i64)
  refine sops_go rfl (st_callS rfl rfl (partsV_s (.mk kind flag neg digits exp bits text names list) _ _ _) ⟨na_d _, na_d _, na_d _, na_d _, trivial⟩ rfl fun r hr => ?_)
  obtain ⟨v, rfl⟩ := hr
  refine sops_go rfl (st_bin rfl rfl rfl rfl rfl ?_)
  refine sops_go rfl (st_move (v := .d _) rfl rfl rfl ?_)
  -- guard (some (3, false))
  refine sops_case 6 rfl (fun hb6 => ?_) (fun hb6 => ?_)
  · first | refine sops_yes rfl rfl rfl rfl (so_load (v := .d (.agg [_, _, _, _, _, _, _, _, _])) rfl rfl rfl rfl rfl rfl rfl rfl ?_) | refine sops_yes rfl rfl rfl rfl (so_load (v := .agg [_, _, _, _, _, _, _, _, _]) rfl rfl rfl rfl rfl rfl rfl rfl ?_) | refine sops_no rfl rfl rfl rfl rfl ?_
    -- hand: CALL f29(t7)
    first | refine sops_yes rfl rfl rfl rfl (st_call rfl rfl (many_pure (.mk kind flag neg digits exp bits text names list)) ⟨na_d _, trivial⟩ rfl ?_) | refine sops_no rfl rfl rfl rfl rfl ?_
    refine sops_go rfl (st_pick (v := .d _) rfl rfl rfl rfl ?_)
    refine sops_go rfl (st_assign (v := .d _) rfl rfl rfl ?_)
    refine sops_nil ?_
    refine swp_ret ?_
    -- ret
    exact ⟨.inl rfl, _, ⟨_, rfl⟩, .inl ⟨2, rfl, ra_d (keeps_v _)⟩⟩
  · first | refine sops_yes rfl rfl rfl rfl (so_load (v := .d (.agg [_, _, _, _, _, _, _, _, _])) rfl rfl rfl rfl rfl rfl rfl rfl ?_) | refine sops_yes rfl rfl rfl rfl (so_load (v := .agg [_, _, _, _, _, _, _, _, _]) rfl rfl rfl rfl rfl rfl rfl rfl ?_) | refine sops_no rfl rfl rfl rfl rfl ?_
    -- hand: CALL f29(t7)
    first | refine sops_yes rfl rfl rfl rfl (st_call rfl rfl (many_pure (.mk kind flag neg digits exp bits text names list)) ⟨na_d _, trivial⟩ rfl ?_) | refine sops_no rfl rfl rfl rfl rfl ?_
    refine sops_go rfl (st_pick (v := .d _) rfl rfl rfl rfl ?_)
    refine sops_go rfl (st_assign (v := .d _) rfl rfl rfl ?_)
    refine sops_nil ?_
    refine swp_ret ?_
    -- ret
    exact ⟨.inl rfl, _, ⟨_, rfl⟩, .inl ⟨2, rfl, ra_d (keeps_v _)⟩⟩
end Go.Proofs.YtdcpnpcmgfmenaaDoor
