/-
  Walks: slices.Equal and slices.Index on texts, slices.EqualFunc on types. Conditions: none.
-/
import Derived.Test.YtdcpnpcmgfmenaaDoorLt
set_option linter.unusedVariables false
set_option maxRecDepth 100000
namespace Go.Proofs.YtdcpnpcmgfmenaaDoor
open Go Go.Proofs.YtdcpnpcmgfmenaaDoor.Lg

theorem indexS_pure (s : Bool) (l : List ByteArray) (x : ByteArray) :
    Pure env 50 [.d (.sl s (strRows l)), .d (.v (.string x))] (.d (.v (.int .i64 (firstAt (fun y => x.toList == y.toList) l 0)))) := by
  refine pure_of_body Tryd.func50 rfl rfl rfl fun B hB => ?_
  refine swp_lenT (i := 0) rfl fun hlen => ?_
  rw [strRows_len] at hlen
  refine swp_seq ?_
  refine swp_region ?_
  refine sops_go rfl (st_assign (v := .d _) rfl rfl rfl ?_)
  refine sops_nil ?_
  refine swp_seq ?_
  refine swp_seq ?_
  refine swp_region ?_
  first | refine sops_go rfl (st_move (v := .d _) rfl rfl rfl ?_) | refine sops_go rfl (st_move (v := .own _ _ _ _ _) rfl rfl rfl ?_)
  refine sops_go rfl (so_lenSl rfl rfl rfl rfl rfl ?_)
  refine sops_go rfl (st_move (v := .d _) rfl rfl rfl ?_)
  refine sops_nil ?_
  refine swp_block ?_
  -- loop
  refine swp_loopF (F := fun k : Nat => { t := upd (upd (upd (upd (fun _ => .any) 0 (.d (.sl s (strRows l)))) 1 (.d (.v (.string x)))) 7 (.d (.v (.int .i64 l.length)))) 8 (.d (.v (.int .i64 k))), n := 19, h := fun _ => .dead, nx := 0 })
    (fun k => k ≤ l.length ∧ (l.take k).any (fun y => x.toList == y.toList) = false) (fun k => l.length - k) 0 ⟨Nat.zero_le _, rfl⟩ ?_ ?_
  · refine wk_of rfl (Nat.le_of_ble_eq_true rfl) (by rw [hB]; exact Nat.zero_le _) (tle_upd (le_eq rfl rfl) (tle_upd (le_eq (int_eq (by rw [strRows_len])) rfl) (tle_upd (le_eq rfl rfl) (tle_upd (le_eq rfl rfl) (tle_any _))))) (hle_dead _) (dead_none)
  rintro k ⟨hk, ha⟩
  refine swp_seq ?_
  refine swp_region ?_
  refine sops_go rfl (st_bin rfl rfl rfl rfl rfl ?_)
  refine sops_nil ?_
  refine swp_seq ?_
  -- cond
  refine swp_cond _ rfl (fun hc => ?_) (fun hc => ?_)
  · have hlt : k < l.length := by have := of_decide_eq_true hc; omega
    refine swp_skip ?_
    refine swp_seq ?_
    refine swp_block ?_
    refine swp_seq ?_
    refine swp_region ?_
    refine sops_go rfl (st_move (v := .d _) rfl rfl rfl ?_)
    refine sops_go rfl (st_assign (v := .d _) rfl rfl rfl ?_)
    refine sops_nil ?_
    refine swp_seq ?_
    refine swp_region ?_
    refine sops_go rfl (st_move (v := .d _) rfl rfl rfl ?_)
    first | refine sops_go rfl (st_move (v := .d _) rfl rfl rfl ?_) | refine sops_go rfl (st_move (v := .own _ _ _ _ _) rfl rfl rfl ?_)
    refine sops_go rfl (st_move (v := .d _) rfl rfl rfl ?_)
    -- hand: indexAddr 23 t12 t13
    refine sops_go rfl (so_indexSl rfl rfl rfl rfl rfl rfl rfl (strRows_all _) (by omega) (by rw [strRows_len]; omega) (strRows_get _ _ hlt) ?_)
    have hat := any_take (fun y => x.toList == y.toList) l k hlt
    have hfi := firstAt_take (fun y => x.toList == y.toList) l k 0 ha hlt
    refine sops_go rfl (so_load (v := .d _) rfl rfl rfl rfl rfl rfl rfl rfl ?_)
    refine sops_go rfl (st_bin rfl rfl rfl rfl rfl ?_)
    refine sops_nil ?_
    -- cond
    refine swp_cond _ rfl (fun hc => ?_) (fun hc => ?_)
    · refine swp_seq ?_
      refine swp_region ?_
      refine sops_go rfl (st_move (v := .d _) rfl rfl rfl ?_)
      refine sops_go rfl (st_assign (v := .d _) rfl rfl rfl ?_)
      refine sops_nil ?_
      refine swp_ret ?_
      with_reducible refine inblk_ret ?_
      with_reducible refine after_ret ?_
      with_reducible refine after_ret ?_
      with_reducible refine inblk_ret ?_
      with_reducible refine after_ret ?_
      -- ret
      refine ⟨.inl rfl, .inl ⟨4, rfl, ?_⟩⟩
      rw [hfi hc, Int.zero_add]
      exact ra_d (keeps_v _)
    · refine swp_skip ?_
      refine swp_region ?_
      refine sops_go rfl (st_bin rfl rfl rfl rfl rfl ?_)
      refine sops_go rfl (st_move (v := .d _) rfl rfl rfl ?_)
      refine sops_nil ?_
      -- loopend
      refine ⟨k + 1, ⟨hlt, by rw [hat, ha]; exact hc⟩, by omega, ?_⟩
      refine wk_of rfl (Nat.le_of_ble_eq_true rfl) (by rw [hB]; exact Nat.zero_le _) (tle_upd (le_eq (next_i64 hlt hlen) rfl) (tle_upd (le_eq rfl rfl) (tle_upd (le_eq rfl rfl) (tle_upd (le_eq rfl rfl) (tle_any _))))) (hle_dead _) (dead_none)
  · refine swp_exit ?_
    with_reducible refine after_exit ?_
    with_reducible refine after_exit ?_
    refine inblk_hit ?_
    refine swp_seq ?_
    refine swp_region ?_
    refine sops_go rfl (st_assign (v := .d _) rfl rfl rfl ?_)
    refine sops_nil ?_
    refine swp_ret ?_
    -- ret
    have : k = l.length := by have := of_decide_eq_false hc; omega
    rw [this, List.take_length] at ha
    refine ⟨.inl rfl, .inl ⟨4, rfl, ?_⟩⟩
    rw [firstAt_none _ l 0 ha]
    exact ra_d (keeps_v _)

/-- Are two rows alike, place by place? -/
def rowsEq {α : Type} (p : α → α → Bool) : List α → List α → Bool
  | [], [] => true
  | x :: a, y :: b => p x y && rowsEq p a b
  | _, _ => false
theorem rowsEq_len {α : Type} (p : α → α → Bool) : ∀ (a b : List α), a.length ≠ b.length → rowsEq p a b = false
  | [], [], h => absurd rfl h
  | [], _ :: _, _ => rfl
  | _ :: _, [], _ => rfl
  | x :: a, y :: b, h => by simp only [rowsEq, rowsEq_len p a b (by simpa using h), Bool.and_false]
theorem rowsEq_at {α : Type} (p : α → α → Bool) : ∀ (a b : List α), a.length = b.length → ∀ (k : Nat) (h : k < a.length) (h' : k < b.length), p a[k] b[k] = false → rowsEq p a b = false
  | x :: a, y :: b, _, 0, _, _, hp => by simp at hp; simp [rowsEq, hp]
  | x :: a, y :: b, hl, k + 1, h, h', hp => by
    have := rowsEq_at p a b (by simpa using hl) k (by simpa using h) (by simpa using h') (by simpa using hp)
    simp [rowsEq, this]
theorem rowsEq_all {α : Type} (p : α → α → Bool) : ∀ (a b : List α), a.length = b.length → (∀ (k : Nat) (h : k < a.length) (h' : k < b.length), p a[k] b[k] = true) → rowsEq p a b = true
  | [], [], _, _ => rfl
  | x :: a, y :: b, hl, h => by
    have h0 := h 0 (by simp) (by simp)
    have := rowsEq_all p a b (by simpa using hl) fun k hk hk' => by have := h (k + 1) (by simpa using hk) (by simpa using hk'); simpa only [List.getElem_cons_succ] using this
    simp at h0
    simp [rowsEq, h0, this]
def strEq (x y : ByteArray) : Bool := x.toList == y.toList

theorem equalS_pure (s s' : Bool) (a b : List ByteArray) :
    Pure env 33 [.d (.sl s (strRows a)), .d (.sl s' (strRows b))] (.d (.v (.bool (rowsEq strEq a b)))) := by
  refine pure_of_body Tryd.func33 rfl rfl rfl fun B hB => ?_
  refine swp_lenT (i := 0) rfl fun hlen => ?_
  rw [strRows_len] at hlen
  refine swp_seq ?_
  refine swp_region ?_
  refine sops_go rfl (st_assign (v := .d _) rfl rfl rfl ?_)
  refine sops_nil ?_
  refine swp_seq ?_
  refine swp_seq ?_
  refine swp_region ?_
  first | refine sops_go rfl (st_move (v := .d _) rfl rfl rfl ?_) | refine sops_go rfl (st_move (v := .own _ _ _ _ _) rfl rfl rfl ?_)
  refine sops_go rfl (so_lenSl rfl rfl rfl rfl rfl ?_)
  first | refine sops_go rfl (st_move (v := .d _) rfl rfl rfl ?_) | refine sops_go rfl (st_move (v := .own _ _ _ _ _) rfl rfl rfl ?_)
  refine sops_go rfl (so_lenSl rfl rfl rfl rfl rfl ?_)
  refine sops_go rfl (st_bin rfl rfl rfl rfl rfl ?_)
  refine sops_nil ?_
  -- cond
  refine swp_cond _ rfl (fun hc => ?_) (fun hc => ?_)
  · refine swp_seq ?_
    refine swp_region ?_
    refine sops_go rfl (st_assign (v := .d _) rfl rfl rfl ?_)
    refine sops_nil ?_
    refine swp_ret ?_
    with_reducible refine after_ret ?_
    -- ret
    have hne : a.length ≠ b.length := by
      intro h
      have hc : (((strRows a).length : Int) != ((strRows b).length : Int)) = true := hc
      rw [strRows_len, strRows_len, h] at hc
      simp at hc
    refine ⟨.inl rfl, .inl ⟨4, rfl, ?_⟩⟩
    rw [rowsEq_len _ _ _ hne]; exact ra_d (keeps_v _)
  · refine swp_skip ?_
    refine swp_seq ?_
    refine swp_seq ?_
    refine swp_region ?_
    first | refine sops_go rfl (st_move (v := .d _) rfl rfl rfl ?_) | refine sops_go rfl (st_move (v := .own _ _ _ _ _) rfl rfl rfl ?_)
    refine sops_go rfl (so_lenSl rfl rfl rfl rfl rfl ?_)
    refine sops_go rfl (st_move (v := .d _) rfl rfl rfl ?_)
    refine sops_nil ?_
    refine swp_block ?_
    -- loop
    have hl : a.length = b.length := by
      have hc : (((strRows a).length : Int) != ((strRows b).length : Int)) = false := hc
      rw [strRows_len, strRows_len] at hc
      simp at hc; omega
    refine swp_loopF (F := fun k : Nat => { t := upd (upd (upd (upd (fun _ => .any) 0 (.d (.sl s (strRows a)))) 1 (.d (.sl s' (strRows b)))) 12 (.d (.v (.int .i64 a.length)))) 13 (.d (.v (.int .i64 k))), n := 26, h := fun _ => .dead, nx := 0 })
      (fun k => k ≤ a.length ∧ ∀ (j : Nat) (h : j < a.length) (h' : j < b.length), j < k → strEq a[j] b[j] = true) (fun k => a.length - k) 0 ⟨Nat.zero_le _, fun _ _ _ h => by omega⟩ ?_ ?_
    · refine wk_of rfl (Nat.le_of_ble_eq_true rfl) (by rw [hB]; exact Nat.zero_le _) (tle_upd (le_eq rfl rfl) (tle_upd (le_eq (int_eq (by rw [strRows_len])) rfl) (tle_upd (le_eq rfl rfl) (tle_upd (le_eq rfl rfl) (tle_any _))))) (hle_dead _) (dead_none)
    rintro k ⟨hk, ha⟩
    refine swp_seq ?_
    refine swp_region ?_
    refine sops_go rfl (st_bin rfl rfl rfl rfl rfl ?_)
    refine sops_nil ?_
    refine swp_seq ?_
    -- cond
    refine swp_cond _ rfl (fun hc => ?_) (fun hc => ?_)
    · have hlt : k < a.length := by have := of_decide_eq_true hc; omega
      have hlt' : k < b.length := by omega
      refine swp_skip ?_
      refine swp_seq ?_
      refine swp_block ?_
      refine swp_seq ?_
      refine swp_region ?_
      refine sops_go rfl (st_move (v := .d _) rfl rfl rfl ?_)
      refine sops_go rfl (st_assign (v := .d _) rfl rfl rfl ?_)
      refine sops_nil ?_
      refine swp_seq ?_
      refine swp_regionQ 8 (by kernel_rfl) rfl rfl rfl ?_
      first | refine h0_go rfl (st_move (v := .d _) rfl rfl rfl ⟨_, rfl, ?_⟩) | refine h0_go rfl (st_move (v := .own _ _ _ _ _) rfl rfl rfl ⟨_, rfl, ?_⟩)
      refine h0_go rfl (st_move (v := .d _) rfl rfl rfl ⟨_, rfl, ?_⟩)
      -- hand: indexAddr 23 t16 t17
      refine h0_go rfl (so_indexSl rfl rfl rfl rfl rfl rfl rfl (strRows_all _) (by omega) (by rw [strRows_len]; omega) (strRows_get _ _ hlt) ⟨_, rfl, ?_⟩)
      refine h0_go rfl (so_load (v := .d _) rfl rfl rfl rfl rfl rfl rfl rfl ⟨_, rfl, ?_⟩)
      first | refine h0_go rfl (st_move (v := .d _) rfl rfl rfl ⟨_, rfl, ?_⟩) | refine h0_go rfl (st_move (v := .own _ _ _ _ _) rfl rfl rfl ⟨_, rfl, ?_⟩)
      refine h0_go rfl (st_move (v := .d _) rfl rfl rfl ⟨_, rfl, ?_⟩)
      -- hand: indexAddr 23 t20 t21
      refine h0_go rfl (so_indexSl rfl rfl rfl rfl rfl rfl rfl (strRows_all _) (by omega) (by rw [strRows_len]; omega) (strRows_get _ _ hlt') ⟨_, rfl, ?_⟩)
      refine h0_go rfl (so_load (v := .d _) rfl rfl rfl rfl rfl rfl rfl rfl ⟨_, rfl, ?_⟩)
      refine h0_nil ?_
      refine sops_go rfl (st_bin rfl rfl rfl rfl rfl ?_)
      refine sops_nil ?_
      -- cond
      refine swp_cond _ rfl (fun hc => ?_) (fun hc => ?_)
      · refine swp_seq ?_
        refine swp_region ?_
        refine sops_go rfl (st_assign (v := .d _) rfl rfl rfl ?_)
        refine sops_nil ?_
        refine swp_ret ?_
        with_reducible refine inblk_ret ?_
        with_reducible refine after_ret ?_
        with_reducible refine after_ret ?_
        with_reducible refine inblk_ret ?_
        with_reducible refine after_ret ?_
        -- ret
        refine ⟨.inl rfl, .inl ⟨4, rfl, ?_⟩⟩
        rw [rowsEq_at strEq a b hl k hlt hlt' (by simpa [strEq] using hc)]
        exact ra_d (keeps_v _)
      · refine swp_skip ?_
        refine swp_region ?_
        refine sops_go rfl (st_bin rfl rfl rfl rfl rfl ?_)
        refine sops_go rfl (st_move (v := .d _) rfl rfl rfl ?_)
        refine sops_nil ?_
        -- loopend
        refine ⟨k + 1, ⟨hlt, fun j h h' hj => ?_⟩, by omega, ?_⟩
        · rcases Nat.lt_or_ge j k with h1 | h1
          · exact ha j h h' h1
          · obtain rfl : j = k := by omega
            simpa [strEq] using hc
        refine wk_of rfl (Nat.le_of_ble_eq_true rfl) (by rw [hB]; exact Nat.zero_le _) (tle_upd (le_eq (next_i64 hlt hlen) rfl) (tle_upd (le_eq rfl rfl) (tle_upd (le_eq rfl rfl) (tle_upd (le_eq rfl rfl) (tle_any _))))) (hle_dead _) (dead_none)
    · refine swp_exit ?_
      with_reducible refine after_exit ?_
      with_reducible refine after_exit ?_
      refine inblk_hit ?_
      refine swp_seq ?_
      refine swp_region ?_
      refine sops_go rfl (st_assign (v := .d _) rfl rfl rfl ?_)
      refine sops_nil ?_
      refine swp_ret ?_
      -- ret
      refine ⟨.inl rfl, .inl ⟨4, rfl, ?_⟩⟩
      rw [rowsEq_all strEq a b hl fun j h h' => ha j h h' (by have := of_decide_eq_false hc; omega)]
      exact ra_d (keeps_v _)

theorem equalFuncT_pure (s s' : Bool) (a b : List T) (f : FuncId) (caps : List AV) (p : T → T → Bool) (hf : ∀ x ∈ a, ∀ y ∈ b, Pure env f (.d x.d :: .d y.d :: caps) (.d (.v (.bool (p x y))))) (hcb : AV.bnds 0 caps = true) :
    Pure env 34 [.d (.sl s (T.rows a)), .d (.sl s' (T.rows b)), .fn f caps] (.d (.v (.bool (rowsEq p a b)))) := by
  refine pure_of_body Tryd.func34 rfl rfl rfl fun B hB => ?_
  refine swp_lenT (i := 0) rfl fun hlen => ?_
  rw [T.rows_len] at hlen
  refine swp_seq ?_
  refine swp_region ?_
  refine sops_go rfl (st_assign (v := .d _) rfl rfl rfl ?_)
  refine sops_nil ?_
  refine swp_seq ?_
  refine swp_seq ?_
  refine swp_region ?_
  first | refine sops_go rfl (st_move (v := .d _) rfl rfl rfl ?_) | refine sops_go rfl (st_move (v := .own _ _ _ _ _) rfl rfl rfl ?_)
  refine sops_go rfl (so_lenSl rfl rfl rfl rfl rfl ?_)
  first | refine sops_go rfl (st_move (v := .d _) rfl rfl rfl ?_) | refine sops_go rfl (st_move (v := .own _ _ _ _ _) rfl rfl rfl ?_)
  refine sops_go rfl (so_lenSl rfl rfl rfl rfl rfl ?_)
  refine sops_go rfl (st_bin rfl rfl rfl rfl rfl ?_)
  refine sops_nil ?_
  -- cond
  refine swp_cond _ rfl (fun hc => ?_) (fun hc => ?_)
  · refine swp_seq ?_
    refine swp_region ?_
    refine sops_go rfl (st_assign (v := .d _) rfl rfl rfl ?_)
    refine sops_nil ?_
    refine swp_ret ?_
    with_reducible refine after_ret ?_
    -- ret
    have hne : a.length ≠ b.length := by
      intro h
      have hc : (((T.rows a).length : Int) != ((T.rows b).length : Int)) = true := hc
      rw [T.rows_len, T.rows_len, h] at hc
      simp at hc
    refine ⟨.inl rfl, .inl ⟨6, rfl, ?_⟩⟩
    rw [rowsEq_len _ _ _ hne]; exact ra_d (keeps_v _)
  · refine swp_skip ?_
    refine swp_seq ?_
    refine swp_seq ?_
    refine swp_region ?_
    first | refine sops_go rfl (st_move (v := .d _) rfl rfl rfl ?_) | refine sops_go rfl (st_move (v := .own _ _ _ _ _) rfl rfl rfl ?_)
    refine sops_go rfl (so_lenSl rfl rfl rfl rfl rfl ?_)
    refine sops_go rfl (st_move (v := .d _) rfl rfl rfl ?_)
    refine sops_nil ?_
    refine swp_block ?_
    -- loop
    have hl : a.length = b.length := by
      have hc : (((T.rows a).length : Int) != ((T.rows b).length : Int)) = false := hc
      rw [T.rows_len, T.rows_len] at hc
      simp at hc; omega
    refine swp_loopF (F := fun k : Nat => { t := upd (upd (upd (upd (upd (fun _ => .any) 1 (.d (.sl s' (T.rows b)))) 2 (.fn f caps)) 15 (.d (.sl s (T.rows a)))) 16 (.d (.v (.int .i64 a.length)))) 17 (.d (.v (.int .i64 k))), n := 32, h := fun _ => .dead, nx := 0 })
      (fun k => k ≤ a.length ∧ ∀ (j : Nat) (h : j < a.length) (h' : j < b.length), j < k → p a[j] b[j] = true) (fun k => a.length - k) 0 ⟨Nat.zero_le _, fun _ _ _ h => by omega⟩ ?_ ?_
    · refine wk_of rfl (Nat.le_of_ble_eq_true rfl) (by rw [hB]; exact Nat.zero_le _) (tle_upd (le_eq rfl rfl) (tle_upd (le_eq (int_eq (by rw [T.rows_len])) rfl) (tle_upd (le_eq rfl rfl) (tle_upd (le_eq rfl hcb) (tle_upd (le_eq rfl rfl) (tle_any _)))))) (hle_dead _) (dead_none)
    rintro k ⟨hk, ha⟩
    refine swp_seq ?_
    refine swp_region ?_
    refine sops_go rfl (st_bin rfl rfl rfl rfl rfl ?_)
    refine sops_nil ?_
    refine swp_seq ?_
    -- cond
    refine swp_cond _ rfl (fun hc => ?_) (fun hc => ?_)
    · have hlt : k < a.length := by have := of_decide_eq_true hc; omega
      have hlt' : k < b.length := by omega
      refine swp_skip ?_
      refine swp_seq ?_
      refine swp_block ?_
      refine swp_seq ?_
      refine swp_region ?_
      refine sops_go rfl (st_move (v := .d _) rfl rfl rfl ?_)
      -- hand: indexAddr 24 t15 t17
      refine sops_go rfl (so_indexSl rfl rfl rfl rfl rfl rfl rfl (T.rows_all _) (by omega) (by rw [T.rows_len]; omega) (T.rows_get _ _ hlt) ?_)
      have hfx := hf _ (List.getElem_mem hlt) _ (List.getElem_mem hlt')
      have hat := rowsEq_at p a b hl k hlt hlt'
      have hgo : p a[k] b[k] = true → ∀ (j : Nat) (h : j < a.length) (h' : j < b.length), j < k + 1 → p a[j] b[j] = true := fun hp j h h' hj => by
        rcases Nat.lt_or_ge j k with h1 | h1
        · exact ha j h h' h1
        · obtain rfl : j = k := by omega
          exact hp
      have gy := T.rows_get b k hlt'
      generalize b[k] = y at hfx hat hgo gy
      generalize a[k] = x at hfx hat hgo ⊢
      obtain ⟨a1, a2, a3⟩ := x
      obtain ⟨b1, b2, b3⟩ := y
      first | refine sops_go rfl (so_load (v := .d (.agg [_, _, _])) rfl rfl rfl rfl rfl rfl rfl rfl ?_) | refine sops_go rfl (so_load (v := .agg [_, _, _]) rfl rfl rfl rfl rfl rfl rfl rfl ?_)
      refine sops_go rfl (so_alloc (cs := [_, _, _]) rfl rfl rfl rfl ?_)
      refine sops_go rfl (st_assign (v := .d _) rfl rfl rfl ?_)
      refine sops_go rfl (so_store rfl rfl rfl rfl rfl rfl rfl rfl rfl (zs := [_, _, _]) rfl ?_)
      refine sops_nil ?_
      refine swp_seq ?_
      refine swp_region ?_
      first | refine sops_go rfl (st_move (v := .d _) rfl rfl rfl ?_) | refine sops_go rfl (st_move (v := .own _ _ _ _ _) rfl rfl rfl ?_)
      refine sops_go rfl (st_move (v := .d _) rfl rfl rfl ?_)
      -- hand: indexAddr 24 t22 t23
      refine sops_go rfl (so_indexSl rfl rfl rfl rfl rfl rfl rfl (T.rows_all _) (by omega) (by rw [T.rows_len]; omega) gy ?_)
      first | refine sops_go rfl (so_load (v := .d (.agg [_, _, _])) rfl rfl rfl rfl rfl rfl rfl rfl ?_) | refine sops_go rfl (so_load (v := .agg [_, _, _]) rfl rfl rfl rfl rfl rfl rfl rfl ?_)
      refine sops_go rfl (so_alloc (cs := [_, _, _]) rfl rfl rfl rfl ?_)
      refine sops_go rfl (so_store rfl rfl rfl rfl rfl rfl rfl rfl rfl (zs := [_, _, _]) rfl ?_)
      refine sops_nil ?_
      refine swp_seq ?_
      refine swp_region ?_
      first | refine sops_go rfl (st_move (v := .fn _ _) rfl rfl rfl ?_) | refine sops_go rfl (st_move (v := .d _) rfl rfl rfl ?_)
      first | refine sops_go rfl (so_load (v := .d (.agg [_, _, _])) rfl rfl rfl rfl rfl rfl rfl rfl ?_) | refine sops_go rfl (so_load (v := .agg [_, _, _]) rfl rfl rfl rfl rfl rfl rfl rfl ?_)
      first | refine sops_go rfl (so_load (v := .d (.agg [_, _, _])) rfl rfl rfl rfl rfl rfl rfl rfl ?_) | refine sops_go rfl (so_load (v := .agg [_, _, _]) rfl rfl rfl rfl rfl rfl rfl rfl ?_)
      -- hand: CALL t26(t27, t28)
      refine sops_go rfl (st_call rfl rfl (hfx) ⟨na_d _, na_d _, nas_free hcb⟩ rfl ?_)
      refine sops_go rfl (st_not rfl rfl rfl ?_)
      refine sops_nil ?_
      -- cond
      refine swp_cond _ rfl (fun hc => ?_) (fun hc => ?_)
      · refine swp_seq ?_
        refine swp_region ?_
        refine sops_go rfl (st_assign (v := .d _) rfl rfl rfl ?_)
        refine sops_nil ?_
        refine swp_ret ?_
        with_reducible refine inblk_ret ?_
        with_reducible refine after_ret ?_
        with_reducible refine after_ret ?_
        with_reducible refine inblk_ret ?_
        with_reducible refine after_ret ?_
        -- ret
        refine ⟨.inl rfl, .inl ⟨6, rfl, ?_⟩⟩
        rw [hat (by simpa using hc)]
        exact ra_d (keeps_v _)
      · refine swp_skip ?_
        refine swp_region ?_
        refine sops_go rfl (st_bin rfl rfl rfl rfl rfl ?_)
        refine sops_go rfl (st_move (v := .d _) rfl rfl rfl ?_)
        refine sops_nil ?_
        -- loopend
        refine ⟨k + 1, ⟨hlt, hgo (by simpa using hc)⟩, by omega, ?_⟩
        refine wk_of rfl (Nat.le_of_ble_eq_true rfl) (by rw [hB]; exact Nat.zero_le _) (tle_upd (le_eq (next_i64 hlt hlen) rfl) (tle_upd (le_eq rfl rfl) (tle_upd (le_eq rfl rfl) (tle_upd (le_eq rfl hcb) (tle_upd (le_eq rfl rfl) (tle_any _)))))) (hle_dead _) (dead_none)
    · refine swp_exit ?_
      with_reducible refine after_exit ?_
      with_reducible refine after_exit ?_
      refine inblk_hit ?_
      refine swp_seq ?_
      refine swp_region ?_
      refine sops_go rfl (st_assign (v := .d _) rfl rfl rfl ?_)
      refine sops_nil ?_
      refine swp_ret ?_
      -- ret
      refine ⟨.inl rfl, .inl ⟨6, rfl, ?_⟩⟩
      rw [rowsEq_all p a b hl fun j h h' => ha j h h' (by have := of_decide_eq_false hc; omega)]
      exact ra_d (keeps_v _)
end Go.Proofs.YtdcpnpcmgfmenaaDoor
