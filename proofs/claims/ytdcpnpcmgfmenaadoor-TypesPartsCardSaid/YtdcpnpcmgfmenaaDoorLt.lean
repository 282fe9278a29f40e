/-
  Walks: the library's functions on slices of types and of texts. Conditions: none.
-/
import Derived.Test.YtdcpnpcmgfmenaaDoorSq
import Derived.Test.YtdcpnpcmgfmenaaDoorDb
import Derived.Test.YtdcpnpcmgfmenaaDoorEnv
set_option linter.unusedVariables false
set_option maxRecDepth 100000
namespace Go.Proofs.YtdcpnpcmgfmenaaDoor
open Go Go.Proofs.YtdcpnpcmgfmenaaDoor.Lg

/-- The first place with p, or -1. -/
def firstAt {α : Type} (p : α → Bool) : List α → Int → Int
  | [], _ => -1
  | x :: r, i => if p x = true then i else firstAt p r (i + 1)
theorem firstAt_take {α : Type} (p : α → Bool) : ∀ (l : List α) (k : Nat) (i : Int), (l.take k).any p = false → ∀ (h : k < l.length), p l[k] = true → firstAt p l i = i + k
  | x :: r, 0, i, _, _, hp => by simp at hp; simp [firstAt, hp]
  | x :: r, k + 1, i, ha, h, hp => by
    simp at ha
    have := firstAt_take p r k (i + 1) (by simpa using ha.2) (by simpa using h) (by simpa using hp)
    simp [firstAt, ha.1, this]; omega
theorem firstAt_none {α : Type} (p : α → Bool) : ∀ (l : List α) (i : Int), l.any p = false → firstAt p l i = -1
  | [], _, _ => rfl
  | x :: r, i, h => by simp at h; simp [firstAt, h.1]; exact firstAt_none p r _ (by simpa using h.2)
theorem firstAt_any {α : Type} (p : α → Bool) : ∀ (l : List α) (i : Int), 0 ≤ i → decide (firstAt p l i ≥ 0) = l.any p
  | [], _, _ => rfl
  | x :: r, i, h => by
    unfold firstAt
    by_cases hp : p x = true
    · simp [hp, h]
    · rw [if_neg hp, firstAt_any p r (i + 1) (by omega)]; simp [hp]

theorem indexFuncT_pure (s : Bool) (l : List T) (f : FuncId) (caps : List AV) (p : T → Bool) (hf : ∀ x ∈ l, Pure env f (.d x.d :: caps) (.d (.v (.bool (p x))))) (hcb : AV.bnds 0 caps = true) :
    Pure env 67 [.d (.sl s (T.rows l)), .fn f caps] (.d (.v (.int .i64 (firstAt p l 0)))) := by
  refine pure_of_body Tryd.func67 rfl rfl rfl fun B hB => ?_
  refine swp_lenT (i := 0) rfl fun hlen => ?_
  rw [T.rows_len] at hlen
  refine swp_seq ?_
  refine swp_region ?_
  refine sops_go rfl (st_assign (v := .d _) rfl rfl rfl ?_)
  refine sops_nil ?_
  refine swp_seq ?_
  refine swp_seq ?_
  refine swp_region ?_
  first | refine sops_go rfl (st_move (v := .d _) rfl rfl rfl ?_) | refine sops_go rfl (st_move (v := .own _ _ _ _ _) rfl rfl rfl ?_)
  refine sops_go rfl (so_lenSl rfl rfl rfl rfl rfl ?_)
  refine sops_go rfl (st_move (v := .d _) rfl rfl rfl ?_)
  refine sops_nil ?_
  refine swp_block ?_
  -- loop
  refine swp_loopF (F := fun k : Nat => { t := upd (upd (upd (upd (fun _ => .any) 0 (.d (.sl s (T.rows l)))) 1 (.fn f caps)) 7 (.d (.v (.int .i64 l.length)))) 8 (.d (.v (.int .i64 k))), n := 19, h := fun _ => .dead, nx := 0 })
    (fun k => k ≤ l.length ∧ (l.take k).any p = false) (fun k => l.length - k) 0 ⟨Nat.zero_le _, rfl⟩ ?_ ?_
  · refine wk_of rfl (Nat.le_of_ble_eq_true rfl) (by rw [hB]; exact Nat.zero_le _) (tle_upd (le_eq rfl rfl) (tle_upd (le_eq (int_eq (by rw [T.rows_len])) rfl) (tle_upd (le_eq rfl hcb) (tle_upd (le_eq rfl rfl) (tle_any _))))) (hle_dead _) (dead_none)
  rintro k ⟨hk, ha⟩
  refine swp_seq ?_
  refine swp_region ?_
  refine sops_go rfl (st_bin rfl rfl rfl rfl rfl ?_)
  refine sops_nil ?_
  refine swp_seq ?_
  -- cond
  refine swp_cond _ rfl (fun hc => ?_) (fun hc => ?_)
  · have hlt : k < l.length := by have := of_decide_eq_true hc; omega
    refine swp_skip ?_
    refine swp_seq ?_
    refine swp_block ?_
    refine swp_seq ?_
    refine swp_region ?_
    refine sops_go rfl (st_move (v := .d _) rfl rfl rfl ?_)
    refine sops_go rfl (st_assign (v := .d _) rfl rfl rfl ?_)
    refine sops_nil ?_
    refine swp_seq ?_
    refine swp_region ?_
    first | refine sops_go rfl (st_move (v := .fn _ _) rfl rfl rfl ?_) | refine sops_go rfl (st_move (v := .d _) rfl rfl rfl ?_)
    first | refine sops_go rfl (st_move (v := .d _) rfl rfl rfl ?_) | refine sops_go rfl (st_move (v := .own _ _ _ _ _) rfl rfl rfl ?_)
    refine sops_go rfl (st_move (v := .d _) rfl rfl rfl ?_)
    -- hand: indexAddr 24 t12 t13
    refine sops_go rfl (so_indexSl rfl rfl rfl rfl rfl rfl rfl (T.rows_all _) (by omega) (by rw [T.rows_len]; omega) (T.rows_get _ _ hlt) ?_)
    have hfx := hf _ (List.getElem_mem hlt)
    have hat := any_take p l k hlt
    have hfi := firstAt_take p l k 0 ha hlt
    generalize l[k] = x at hfx hat hfi ⊢
    obtain ⟨a1, a2, a3⟩ := x
    first | refine sops_go rfl (so_load (v := .d (.agg [_, _, _])) rfl rfl rfl rfl rfl rfl rfl rfl ?_) | refine sops_go rfl (so_load (v := .agg [_, _, _]) rfl rfl rfl rfl rfl rfl rfl rfl ?_)
    -- hand: CALL t11(t15)
    refine sops_go rfl (st_call rfl rfl (hfx) ⟨na_d _, nas_free hcb⟩ rfl ?_)
    refine sops_nil ?_
    -- cond
    refine swp_cond _ rfl (fun hc => ?_) (fun hc => ?_)
    · refine swp_seq ?_
      refine swp_region ?_
      refine sops_go rfl (st_move (v := .d _) rfl rfl rfl ?_)
      refine sops_go rfl (st_assign (v := .d _) rfl rfl rfl ?_)
      refine sops_nil ?_
      refine swp_ret ?_
      with_reducible refine inblk_ret ?_
      with_reducible refine after_ret ?_
      with_reducible refine after_ret ?_
      with_reducible refine inblk_ret ?_
      with_reducible refine after_ret ?_
      -- ret
      refine ⟨.inl rfl, .inl ⟨4, rfl, ?_⟩⟩
      rw [hfi hc, Int.zero_add]
      exact ra_d (keeps_v _)
    · refine swp_skip ?_
      refine swp_region ?_
      refine sops_go rfl (st_bin rfl rfl rfl rfl rfl ?_)
      refine sops_go rfl (st_move (v := .d _) rfl rfl rfl ?_)
      refine sops_nil ?_
      -- loopend
      refine ⟨k + 1, ⟨hlt, by rw [hat, ha, hc]; rfl⟩, by omega, ?_⟩
      refine wk_of rfl (Nat.le_of_ble_eq_true rfl) (by rw [hB]; exact Nat.zero_le _) (tle_upd (le_eq (next_i64 hlt hlen) rfl) (tle_upd (le_eq rfl rfl) (tle_upd (le_eq rfl hcb) (tle_upd (le_eq rfl rfl) (tle_any _))))) (hle_dead _) (dead_none)
  · refine swp_exit ?_
    with_reducible refine after_exit ?_
    with_reducible refine after_exit ?_
    refine inblk_hit ?_
    refine swp_seq ?_
    refine swp_region ?_
    refine sops_go rfl (st_assign (v := .d _) rfl rfl rfl ?_)
    refine sops_nil ?_
    refine swp_ret ?_
    -- ret
    have : k = l.length := by have := of_decide_eq_false hc; omega
    rw [this, List.take_length] at ha
    refine ⟨.inl rfl, .inl ⟨4, rfl, ?_⟩⟩
    rw [firstAt_none p l 0 ha]
    exact ra_d (keeps_v _)

theorem containsFuncT_pure (s : Bool) (l : List T) (f : FuncId) (caps : List AV) (p : T → Bool) (hf : ∀ x ∈ l, Pure env f (.d x.d :: caps) (.d (.v (.bool (p x))))) (hcb : AV.bnds 0 caps = true) :
    Pure env 55 [.d (.sl s (T.rows l)), .fn f caps] (.d (.v (.bool (l.any p)))) := by
  refine pure_of_body Tryd.func55 rfl rfl rfl fun B hB => ?_
  refine swp_seq ?_
  refine swp_region ?_
  refine sops_go rfl (st_assign (v := .d _) rfl rfl rfl ?_)
  refine sops_nil ?_
  refine swp_seq ?_
  refine swp_region ?_
  first | refine sops_go rfl (st_move (v := .d _) rfl rfl rfl ?_) | refine sops_go rfl (st_move (v := .own _ _ _ _ _) rfl rfl rfl ?_)
  first | refine sops_go rfl (st_move (v := .fn _ _) rfl rfl rfl ?_) | refine sops_go rfl (st_move (v := .d _) rfl rfl rfl ?_)
  -- hand: CALL f67(t5, t6)
  refine sops_go rfl (st_call rfl rfl (indexFuncT_pure s l f caps p hf hcb) ⟨na_d _, na_free hcb, trivial⟩ rfl ?_)
  refine sops_go rfl (st_bin rfl rfl rfl rfl rfl ?_)
  refine sops_go rfl (st_assign (v := .d _) rfl rfl rfl ?_)
  refine sops_nil ?_
  refine swp_ret ?_
  -- ret
  refine ⟨.inl rfl, .inl ⟨4, rfl, ?_⟩⟩
  rw [← firstAt_any p l 0 (Int.le_refl _)]
  exact ra_d (keeps_v _)

theorem indexFuncS_pure (s : Bool) (l : List ByteArray) (f : FuncId) (caps : List AV) (p : ByteArray → Bool) (hf : ∀ x ∈ l, Pure env f (.d (.v (.string x)) :: caps) (.d (.v (.bool (p x))))) (hcb : AV.bnds 0 caps = true) :
    Pure env 65 [.d (.sl s (strRows l)), .fn f caps] (.d (.v (.int .i64 (firstAt p l 0)))) := by
  refine pure_of_body Tryd.func65 rfl rfl rfl fun B hB => ?_
  refine swp_lenT (i := 0) rfl fun hlen => ?_
  rw [strRows_len] at hlen
  refine swp_seq ?_
  refine swp_region ?_
  refine sops_go rfl (st_assign (v := .d _) rfl rfl rfl ?_)
  refine sops_nil ?_
  refine swp_seq ?_
  refine swp_seq ?_
  refine swp_region ?_
  first | refine sops_go rfl (st_move (v := .d _) rfl rfl rfl ?_) | refine sops_go rfl (st_move (v := .own _ _ _ _ _) rfl rfl rfl ?_)
  refine sops_go rfl (so_lenSl rfl rfl rfl rfl rfl ?_)
  refine sops_go rfl (st_move (v := .d _) rfl rfl rfl ?_)
  refine sops_nil ?_
  refine swp_block ?_
  -- loop
  refine swp_loopF (F := fun k : Nat => { t := upd (upd (upd (upd (fun _ => .any) 0 (.d (.sl s (strRows l)))) 1 (.fn f caps)) 7 (.d (.v (.int .i64 l.length)))) 8 (.d (.v (.int .i64 k))), n := 19, h := fun _ => .dead, nx := 0 })
    (fun k => k ≤ l.length ∧ (l.take k).any p = false) (fun k => l.length - k) 0 ⟨Nat.zero_le _, rfl⟩ ?_ ?_
  · refine wk_of rfl (Nat.le_of_ble_eq_true rfl) (by rw [hB]; exact Nat.zero_le _) (tle_upd (le_eq rfl rfl) (tle_upd (le_eq (int_eq (by rw [strRows_len])) rfl) (tle_upd (le_eq rfl hcb) (tle_upd (le_eq rfl rfl) (tle_any _))))) (hle_dead _) (dead_none)
  rintro k ⟨hk, ha⟩
  refine swp_seq ?_
  refine swp_region ?_
  refine sops_go rfl (st_bin rfl rfl rfl rfl rfl ?_)
  refine sops_nil ?_
  refine swp_seq ?_
  -- cond
  refine swp_cond _ rfl (fun hc => ?_) (fun hc => ?_)
  · have hlt : k < l.length := by have := of_decide_eq_true hc; omega
    refine swp_skip ?_
    refine swp_seq ?_
    refine swp_block ?_
    refine swp_seq ?_
    refine swp_region ?_
    refine sops_go rfl (st_move (v := .d _) rfl rfl rfl ?_)
    refine sops_go rfl (st_assign (v := .d _) rfl rfl rfl ?_)
    refine sops_nil ?_
    refine swp_seq ?_
    refine swp_region ?_
    first | refine sops_go rfl (st_move (v := .fn _ _) rfl rfl rfl ?_) | refine sops_go rfl (st_move (v := .d _) rfl rfl rfl ?_)
    first | refine sops_go rfl (st_move (v := .d _) rfl rfl rfl ?_) | refine sops_go rfl (st_move (v := .own _ _ _ _ _) rfl rfl rfl ?_)
    refine sops_go rfl (st_move (v := .d _) rfl rfl rfl ?_)
    -- hand: indexAddr 23 t12 t13
    refine sops_go rfl (so_indexSl rfl rfl rfl rfl rfl rfl rfl (strRows_all _) (by omega) (by rw [strRows_len]; omega) (strRows_get _ _ hlt) ?_)
    have hfx := hf _ (List.getElem_mem hlt)
    have hat := any_take p l k hlt
    have hfi := firstAt_take p l k 0 ha hlt
    generalize l[k] = x at hfx hat hfi ⊢
    skip
    refine sops_go rfl (so_load (v := .d _) rfl rfl rfl rfl rfl rfl rfl rfl ?_)
    -- hand: CALL t11(t15)
    refine sops_go rfl (st_call rfl rfl (hfx) ⟨na_d _, nas_free hcb⟩ rfl ?_)
    refine sops_nil ?_
    -- cond
    refine swp_cond _ rfl (fun hc => ?_) (fun hc => ?_)
    · refine swp_seq ?_
      refine swp_region ?_
      refine sops_go rfl (st_move (v := .d _) rfl rfl rfl ?_)
      refine sops_go rfl (st_assign (v := .d _) rfl rfl rfl ?_)
      refine sops_nil ?_
      refine swp_ret ?_
      with_reducible refine inblk_ret ?_
      with_reducible refine after_ret ?_
      with_reducible refine after_ret ?_
      with_reducible refine inblk_ret ?_
      with_reducible refine after_ret ?_
      -- ret
      refine ⟨.inl rfl, .inl ⟨4, rfl, ?_⟩⟩
      rw [hfi hc, Int.zero_add]
      exact ra_d (keeps_v _)
    · refine swp_skip ?_
      refine swp_region ?_
      refine sops_go rfl (st_bin rfl rfl rfl rfl rfl ?_)
      refine sops_go rfl (st_move (v := .d _) rfl rfl rfl ?_)
      refine sops_nil ?_
      -- loopend
      refine ⟨k + 1, ⟨hlt, by rw [hat, ha, hc]; rfl⟩, by omega, ?_⟩
      refine wk_of rfl (Nat.le_of_ble_eq_true rfl) (by rw [hB]; exact Nat.zero_le _) (tle_upd (le_eq (next_i64 hlt hlen) rfl) (tle_upd (le_eq rfl rfl) (tle_upd (le_eq rfl hcb) (tle_upd (le_eq rfl rfl) (tle_any _))))) (hle_dead _) (dead_none)
  · refine swp_exit ?_
    with_reducible refine after_exit ?_
    with_reducible refine after_exit ?_
    refine inblk_hit ?_
    refine swp_seq ?_
    refine swp_region ?_
    refine sops_go rfl (st_assign (v := .d _) rfl rfl rfl ?_)
    refine sops_nil ?_
    refine swp_ret ?_
    -- ret
    have : k = l.length := by have := of_decide_eq_false hc; omega
    rw [this, List.take_length] at ha
    refine ⟨.inl rfl, .inl ⟨4, rfl, ?_⟩⟩
    rw [firstAt_none p l 0 ha]
    exact ra_d (keeps_v _)

theorem containsFuncS_pure (s : Bool) (l : List ByteArray) (f : FuncId) (caps : List AV) (p : ByteArray → Bool) (hf : ∀ x ∈ l, Pure env f (.d (.v (.string x)) :: caps) (.d (.v (.bool (p x))))) (hcb : AV.bnds 0 caps = true) :
    Pure env 52 [.d (.sl s (strRows l)), .fn f caps] (.d (.v (.bool (l.any p)))) := by
  refine pure_of_body Tryd.func52 rfl rfl rfl fun B hB => ?_
  refine swp_seq ?_
  refine swp_region ?_
  refine sops_go rfl (st_assign (v := .d _) rfl rfl rfl ?_)
  refine sops_nil ?_
  refine swp_seq ?_
  refine swp_region ?_
  first | refine sops_go rfl (st_move (v := .d _) rfl rfl rfl ?_) | refine sops_go rfl (st_move (v := .own _ _ _ _ _) rfl rfl rfl ?_)
  first | refine sops_go rfl (st_move (v := .fn _ _) rfl rfl rfl ?_) | refine sops_go rfl (st_move (v := .d _) rfl rfl rfl ?_)
  -- hand: CALL f65(t5, t6)
  refine sops_go rfl (st_call rfl rfl (indexFuncS_pure s l f caps p hf hcb) ⟨na_d _, na_free hcb, trivial⟩ rfl ?_)
  refine sops_go rfl (st_bin rfl rfl rfl rfl rfl ?_)
  refine sops_go rfl (st_assign (v := .d _) rfl rfl rfl ?_)
  refine sops_nil ?_
  refine swp_ret ?_
  -- ret
  refine ⟨.inl rfl, .inl ⟨4, rfl, ?_⟩⟩
  rw [← firstAt_any p l 0 (Int.le_refl _)]
  exact ra_d (keeps_v _)

theorem indexFuncV_pure (s : Bool) (l : List V) (f : FuncId) (caps : List AV) (p : V → Bool) (hf : ∀ x ∈ l, Pure env f (.d x.d :: caps) (.d (.v (.bool (p x))))) (hcb : AV.bnds 0 caps = true) :
    Pure env 63 [.d (.sl s (V.rows l)), .fn f caps] (.d (.v (.int .i64 (firstAt p l 0)))) := by
  refine pure_of_body Tryd.func63 rfl rfl rfl fun B hB => ?_
  refine swp_lenT (i := 0) rfl fun hlen => ?_
  rw [V.rows_len] at hlen
  refine swp_seq ?_
  refine swp_region ?_
  refine sops_go rfl (st_assign (v := .d _) rfl rfl rfl ?_)
  refine sops_nil ?_
  refine swp_seq ?_
  refine swp_seq ?_
  refine swp_region ?_
  first | refine sops_go rfl (st_move (v := .d _) rfl rfl rfl ?_) | refine sops_go rfl (st_move (v := .own _ _ _ _ _) rfl rfl rfl ?_)
  refine sops_go rfl (so_lenSl rfl rfl rfl rfl rfl ?_)
  refine sops_go rfl (st_move (v := .d _) rfl rfl rfl ?_)
  refine sops_nil ?_
  refine swp_block ?_
  -- loop
  refine swp_loopF (F := fun k : Nat => { t := upd (upd (upd (upd (fun _ => .any) 0 (.d (.sl s (V.rows l)))) 1 (.fn f caps)) 7 (.d (.v (.int .i64 l.length)))) 8 (.d (.v (.int .i64 k))), n := 19, h := fun _ => .dead, nx := 0 })
    (fun k => k ≤ l.length ∧ (l.take k).any p = false) (fun k => l.length - k) 0 ⟨Nat.zero_le _, rfl⟩ ?_ ?_
  · refine wk_of rfl (Nat.le_of_ble_eq_true rfl) (by rw [hB]; exact Nat.zero_le _) (tle_upd (le_eq rfl rfl) (tle_upd (le_eq (int_eq (by rw [V.rows_len])) rfl) (tle_upd (le_eq rfl hcb) (tle_upd (le_eq rfl rfl) (tle_any _))))) (hle_dead _) (dead_none)
  rintro k ⟨hk, ha⟩
  refine swp_seq ?_
  refine swp_region ?_
  refine sops_go rfl (st_bin rfl rfl rfl rfl rfl ?_)
  refine sops_nil ?_
  refine swp_seq ?_
  -- cond
  refine swp_cond _ rfl (fun hc => ?_) (fun hc => ?_)
  · have hlt : k < l.length := by have := of_decide_eq_true hc; omega
    refine swp_skip ?_
    refine swp_seq ?_
    refine swp_block ?_
    refine swp_seq ?_
    refine swp_region ?_
    refine sops_go rfl (st_move (v := .d _) rfl rfl rfl ?_)
    refine sops_go rfl (st_assign (v := .d _) rfl rfl rfl ?_)
    refine sops_nil ?_
    refine swp_seq ?_
    refine swp_region ?_
    first | refine sops_go rfl (st_move (v := .fn _ _) rfl rfl rfl ?_) | refine sops_go rfl (st_move (v := .d _) rfl rfl rfl ?_)
    first | refine sops_go rfl (st_move (v := .d _) rfl rfl rfl ?_) | refine sops_go rfl (st_move (v := .own _ _ _ _ _) rfl rfl rfl ?_)
    refine sops_go rfl (st_move (v := .d _) rfl rfl rfl ?_)
    -- hand: indexAddr 39 t12 t13
    refine sops_go rfl (so_indexSl rfl rfl rfl rfl rfl rfl rfl (V.rows_all _) (by omega) (by rw [V.rows_len]; omega) (V.rows_get _ _ hlt) ?_)
    have hfx := hf _ (List.getElem_mem hlt)
    have hat := any_take p l k hlt
    have hfi := firstAt_take p l k 0 ha hlt
    generalize l[k] = x at hfx hat hfi ⊢
    obtain ⟨a1, a2, a3, a4, a5, a6, a7, a8, a9⟩ := x
    first | refine sops_go rfl (so_load (v := .d (.agg [_, _, _, _, _, _, _, _, _])) rfl rfl rfl rfl rfl rfl rfl rfl ?_) | refine sops_go rfl (so_load (v := .agg [_, _, _, _, _, _, _, _, _]) rfl rfl rfl rfl rfl rfl rfl rfl ?_)
    -- hand: CALL t11(t15)
    refine sops_go rfl (st_call rfl rfl (hfx) ⟨na_d _, nas_free hcb⟩ rfl ?_)
    refine sops_nil ?_
    -- cond
    refine swp_cond _ rfl (fun hc => ?_) (fun hc => ?_)
    · refine swp_seq ?_
      refine swp_region ?_
      refine sops_go rfl (st_move (v := .d _) rfl rfl rfl ?_)
      refine sops_go rfl (st_assign (v := .d _) rfl rfl rfl ?_)
      refine sops_nil ?_
      refine swp_ret ?_
      with_reducible refine inblk_ret ?_
      with_reducible refine after_ret ?_
      with_reducible refine after_ret ?_
      with_reducible refine inblk_ret ?_
      with_reducible refine after_ret ?_
      -- ret
      refine ⟨.inl rfl, .inl ⟨4, rfl, ?_⟩⟩
      rw [hfi hc, Int.zero_add]
      exact ra_d (keeps_v _)
    · refine swp_skip ?_
      refine swp_region ?_
      refine sops_go rfl (st_bin rfl rfl rfl rfl rfl ?_)
      refine sops_go rfl (st_move (v := .d _) rfl rfl rfl ?_)
      refine sops_nil ?_
      -- loopend
      refine ⟨k + 1, ⟨hlt, by rw [hat, ha, hc]; rfl⟩, by omega, ?_⟩
      refine wk_of rfl (Nat.le_of_ble_eq_true rfl) (by rw [hB]; exact Nat.zero_le _) (tle_upd (le_eq (next_i64 hlt hlen) rfl) (tle_upd (le_eq rfl rfl) (tle_upd (le_eq rfl hcb) (tle_upd (le_eq rfl rfl) (tle_any _))))) (hle_dead _) (dead_none)
  · refine swp_exit ?_
    with_reducible refine after_exit ?_
    with_reducible refine after_exit ?_
    refine inblk_hit ?_
    refine swp_seq ?_
    refine swp_region ?_
    refine sops_go rfl (st_assign (v := .d _) rfl rfl rfl ?_)
    refine sops_nil ?_
    refine swp_ret ?_
    -- ret
    have : k = l.length := by have := of_decide_eq_false hc; omega
    rw [this, List.take_length] at ha
    refine ⟨.inl rfl, .inl ⟨4, rfl, ?_⟩⟩
    rw [firstAt_none p l 0 ha]
    exact ra_d (keeps_v _)

theorem containsFuncV_pure (s : Bool) (l : List V) (f : FuncId) (caps : List AV) (p : V → Bool) (hf : ∀ x ∈ l, Pure env f (.d x.d :: caps) (.d (.v (.bool (p x))))) (hcb : AV.bnds 0 caps = true) :
    Pure env 48 [.d (.sl s (V.rows l)), .fn f caps] (.d (.v (.bool (l.any p)))) := by
  refine pure_of_body Tryd.func48 rfl rfl rfl fun B hB => ?_
  refine swp_seq ?_
  refine swp_region ?_
  refine sops_go rfl (st_assign (v := .d _) rfl rfl rfl ?_)
  refine sops_nil ?_
  refine swp_seq ?_
  refine swp_region ?_
  first | refine sops_go rfl (st_move (v := .d _) rfl rfl rfl ?_) | refine sops_go rfl (st_move (v := .own _ _ _ _ _) rfl rfl rfl ?_)
  first | refine sops_go rfl (st_move (v := .fn _ _) rfl rfl rfl ?_) | refine sops_go rfl (st_move (v := .d _) rfl rfl rfl ?_)
  -- hand: CALL f63(t5, t6)
  refine sops_go rfl (st_call rfl rfl (indexFuncV_pure s l f caps p hf hcb) ⟨na_d _, na_free hcb, trivial⟩ rfl ?_)
  refine sops_go rfl (st_bin rfl rfl rfl rfl rfl ?_)
  refine sops_go rfl (st_assign (v := .d _) rfl rfl rfl ?_)
  refine sops_nil ?_
  refine swp_ret ?_
  -- ret
  refine ⟨.inl rfl, .inl ⟨4, rfl, ?_⟩⟩
  rw [← firstAt_any p l 0 (Int.le_refl _)]
  exact ra_d (keeps_v _)

end Go.Proofs.YtdcpnpcmgfmenaaDoor
