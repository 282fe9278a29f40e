/-
  Walks: how big and how deep a value is. Conditions: none.
-/
import Derived.Test.YtdcpnpcmgfmenaaDoorNb
import Derived.Test.YtdcpnpcmgfmenaaDoorLt
set_option linter.unusedVariables false
set_option maxRecDepth 100000
namespace Go.Proofs.YtdcpnpcmgfmenaaDoor
open Go Go.Proofs.YtdcpnpcmgfmenaaDoor.Lg

/-- A value as a struct, its rows lent (false) or there for good (true). -/
def V.df (s : Bool) : V → D
  | .mk kind flag neg digits exp bits text names list => .agg [.v (.int .i64 kind), .v (.bool flag), .v (.bool neg), .v (.string digits), .v (.int .i64 exp), .v (.int .u64 bits), .v (.string text), .sl s (strRows names), .sl s (V.rows list)]
theorem V.df_d (t : V) : t.d = t.df true := by cases t; rfl

mutual
def V.sizeW : V → Int
  | .mk _ _ _ _ _ _ _ _ list => V.sizeF list 1
def V.sizeF : List V → Int → Int
  | [], a => a
  | x :: r, a => V.sizeF r (IntKind.i64.wrap (a + x.sizeW))
end
theorem V.sizeF_take : ∀ (l : List V) (a : Int) (k : Nat) (h : k < l.length), V.sizeF (l.take (k + 1)) a = IntKind.i64.wrap (V.sizeF (l.take k) a + l[k].sizeW)
  | x :: r, a, 0, _ => by simp [V.sizeF]
  | x :: r, a, k + 1, h => by
    simp only [List.take_succ_cons, V.sizeF, List.getElem_cons_succ]
    exact V.sizeF_take r _ k (by simpa using h)

theorem size_pure (t : V) : ∀ s, Pure env 47 [.d (t.df s)] (.d (.v (.int .i64 t.sizeW))) := by
  revert t
  apply V.ind
  intro kind flag neg digits exp bits text names list ih s
  refine pure_of_body Tryd.func47 rfl rfl rfl fun B hB => ?_
  refine swp_seq ?_
  refine swp_region ?_
  refine sops_go rfl (so_box (cs := [_, _, _, _, _, _, _, _, _]) rfl rfl rfl ?_)
  refine sops_go rfl (st_assign (v := .d _) rfl rfl rfl ?_)
  refine sops_nil ?_
  -- stop
  refine swp_len (l := 0) (i := 8) rfl rfl rfl fun hll => ?_
  rw [V.rows_len] at hll
  refine swp_seq ?_
  refine swp_region ?_
  refine sops_go rfl (st_assign (v := .d _) rfl rfl rfl ?_)
  refine sops_nil ?_
  refine swp_seq ?_
  refine swp_seq ?_
  refine swp_region ?_
  first | refine sops_go rfl (so_fieldAddr (v := .p _ _ _) rfl rfl rfl rfl rfl rfl rfl rfl rfl rfl ?_) | refine sops_go rfl (so_fieldAddr (v := .dp _ _) rfl rfl rfl rfl rfl rfl rfl rfl rfl rfl ?_) | refine sops_go rfl (so_fieldAddr (v := .pe _ _ _ _ _) rfl rfl rfl rfl rfl rfl rfl rfl rfl rfl ?_)
  first | refine sops_go rfl (so_load (v := .d _) rfl rfl rfl rfl rfl rfl rfl rfl ?_) | refine sops_go rfl (so_load (v := .own _ _ _ _ _) rfl rfl rfl rfl rfl rfl rfl rfl ?_)
  refine sops_go rfl (so_lenSl rfl rfl rfl rfl rfl ?_)
  refine sops_go rfl (st_move (v := .d _) rfl rfl rfl ?_)
  refine sops_nil ?_
  refine swp_block ?_
  -- loop
  let a : Nat → Int := fun k => V.sizeF (list.take k) 1
  refine swp_loopF (F := fun k : Nat => { t := upd (upd (upd (upd (fun _ => .any) 3 (.d (.v (.int .i64 (a k))))) 7 (.d (.sl s (V.rows list)))) 8 (.d (.v (.int .i64 list.length)))) 9 (.d (.v (.int .i64 k))), n := 19, h := fun _ => .dead, nx := 0 })
    (fun k => k ≤ list.length) (fun k => list.length - k) 0 (Nat.zero_le _) ?_ ?_
  · refine wk_of rfl (Nat.le_of_ble_eq_true rfl) (by rw [hB]; exact Nat.zero_le _) (tle_upd (le_eq rfl rfl) (tle_upd (le_eq (int_eq (by rw [V.rows_len])) rfl) (tle_upd (le_eq rfl rfl) (tle_upd (le_eq rfl rfl) (tle_any _))))) (hle_dead _) (dead_none)
  intro k hk
  refine swp_seq ?_
  refine swp_region ?_
  refine sops_go rfl (st_bin rfl rfl rfl rfl rfl ?_)
  refine sops_nil ?_
  refine swp_seq ?_
  -- cond
  refine swp_cond _ rfl (fun hc => ?_) (fun hc => ?_)
  · have hlt : k < list.length := by have := of_decide_eq_true hc; omega
    refine swp_skip ?_
    refine swp_seq ?_
    refine swp_block ?_
    refine swp_seq ?_
    refine swp_region ?_
    -- hand: indexAddr 39 t7 t9
    refine sops_go rfl (so_indexSl rfl rfl rfl rfl rfl rfl rfl (V.rows_all _) (by omega) (by rw [V.rows_len]; omega) (V.rows_get _ _ hlt) ?_)
    have ihk := ih _ (List.getElem_mem hlt) true
    have hak := V.sizeF_take list 1 k hlt
    generalize list[k] = x at ihk hak ⊢
    obtain ⟨a1, a2, a3, a4, a5, a6, a7, a8, a9⟩ := x
    first | refine sops_go rfl (so_load (v := .d (.agg [_, _, _, _, _, _, _, _, _])) rfl rfl rfl rfl rfl rfl rfl rfl ?_) | refine sops_go rfl (so_load (v := .agg [_, _, _, _, _, _, _, _, _]) rfl rfl rfl rfl rfl rfl rfl rfl ?_)
    refine sops_go rfl (so_alloc (cs := [_, _, _, _, _, _, _, _, _]) rfl rfl rfl rfl ?_)
    refine sops_go rfl (so_store rfl rfl rfl rfl rfl rfl rfl rfl rfl (zs := [_, _, _, _, _, _, _, _, _]) rfl ?_)
    refine sops_nil ?_
    refine swp_region ?_
    refine sops_go rfl (st_move (v := .d _) rfl rfl rfl ?_)
    first | refine sops_go rfl (so_load (v := .d (.agg [_, _, _, _, _, _, _, _, _])) rfl rfl rfl rfl rfl rfl rfl rfl ?_) | refine sops_go rfl (so_load (v := .agg [_, _, _, _, _, _, _, _, _]) rfl rfl rfl rfl rfl rfl rfl rfl ?_)
    -- hand: CALL f47(t14)
    refine sops_go rfl (st_call rfl rfl (ihk) ⟨na_d _, trivial⟩ rfl ?_)
    refine sops_go rfl (st_bin rfl rfl rfl rfl rfl ?_)
    refine sops_go rfl (st_assign (v := .d _) rfl rfl rfl ?_)
    refine sops_nil ?_
    refine swp_region ?_
    refine sops_go rfl (st_bin rfl rfl rfl rfl rfl ?_)
    refine sops_go rfl (st_move (v := .d _) rfl rfl rfl ?_)
    refine sops_nil ?_
    -- loopend
    have e : a (k + 1) = IntKind.i64.wrap (a k + (V.mk a1 a2 a3 a4 a5 a6 a7 a8 a9).sizeW) := hak
    refine ⟨k + 1, hlt, by omega, ?_⟩
    simp only [e]
    refine wk_of rfl (Nat.le_of_ble_eq_true rfl) (by rw [hB]; exact Nat.zero_le _) (tle_upd (le_eq (next_i64 hlt hll) rfl) (tle_upd (le_eq rfl rfl) (tle_upd (le_eq rfl rfl) (tle_upd (le_eq rfl rfl) (tle_any _))))) (hle_dead _) (dead_none)
  · refine swp_exit ?_
    with_reducible refine after_exit ?_
    with_reducible refine after_exit ?_
    refine inblk_hit ?_
    refine swp_seq ?_
    refine swp_region ?_
    refine sops_go rfl (st_move (v := .d _) rfl rfl rfl ?_)
    refine sops_go rfl (st_assign (v := .d _) rfl rfl rfl ?_)
    refine sops_nil ?_
    refine swp_ret ?_
    -- ret
    have : k = list.length := by have := of_decide_eq_false hc; omega
    have e : V.sizeF list 1 = a k := by show _ = V.sizeF (list.take k) _; rw [this, List.take_length]
    refine ⟨.inl rfl, .inl ⟨2, rfl, ?_⟩⟩
    simp only [V.sizeW, e]; exact ra_d (keeps_v _)

mutual
def V.short : V → Bool
  | .mk kind _ _ _ _ _ text names list =>
    (!(decide ((text.size : Int) > (if kind = 9 then 64 else 4096)) || (decide ((list.length : Int) > 256) || names.any fun s => decide ((s.size : Int) > 64)))) && V.shortL list
def V.shortL : List V → Bool
  | [] => true
  | x :: r => x.short && V.shortL r
end
theorem V.shortL_any : ∀ l : List V, V.shortL l = !(l.any fun x => !x.short)
  | [] => rfl
  | x :: r => by rw [V.shortL, V.shortL_any r]; simp

theorem short1_pure (s : ByteArray) : Pure env 61 [.d (.v (.string s))] (.d (.v (.bool (decide ((s.size : Int) > 64))))) := by
  refine pure_of_body Tryd.func61 rfl rfl rfl fun B hB => ?_
  refine swp_seq ?_
  refine swp_region ?_
  refine sops_go rfl (st_assign (v := .d _) rfl rfl rfl ?_)
  refine sops_nil ?_
  refine swp_seq ?_
  refine swp_region ?_
  refine sops_go rfl (st_move (v := .d _) rfl rfl rfl ?_)
  refine sops_go rfl (so_lenStr rfl rfl rfl rfl rfl ?_)
  refine sops_go rfl (st_bin rfl rfl rfl rfl rfl ?_)
  refine sops_go rfl (st_assign (v := .d _) rfl rfl rfl ?_)
  refine sops_nil ?_
  refine swp_ret ?_
  -- ret
  exact ⟨.inl rfl, .inl ⟨2, rfl, ra_d (keeps_v _)⟩⟩
theorem short2_pure (x : V) (hx : Pure env 45 [.d x.d] (.d (.v (.bool x.short)))) : Pure env 62 [.d x.d] (.d (.v (.bool (!x.short)))) := by
  obtain ⟨a1, a2, a3, a4, a5, a6, a7, a8, a9⟩ := x
  refine pure_of_body Tryd.func62 rfl rfl rfl fun B hB => ?_
  refine swp_seq ?_
  refine swp_region ?_
  refine sops_go rfl (so_box (cs := [_, _, _, _, _, _, _, _, _]) rfl rfl rfl ?_)
  refine sops_go rfl (st_assign (v := .d _) rfl rfl rfl ?_)
  refine sops_nil ?_
  refine swp_seq ?_
  refine swp_region ?_
  first | refine sops_go rfl (so_load (v := .d (.agg [_, _, _, _, _, _, _, _, _])) rfl rfl rfl rfl rfl rfl rfl rfl ?_) | refine sops_go rfl (so_load (v := .agg [_, _, _, _, _, _, _, _, _]) rfl rfl rfl rfl rfl rfl rfl rfl ?_)
  -- hand: CALL f45(t3)
  refine sops_go rfl (st_call rfl rfl (hx) ⟨na_d _, trivial⟩ rfl ?_)
  refine sops_go rfl (st_not rfl rfl rfl ?_)
  refine sops_go rfl (st_assign (v := .d _) rfl rfl rfl ?_)
  refine sops_nil ?_
  refine swp_ret ?_
  -- ret
  exact ⟨.inl rfl, .inl ⟨2, rfl, ra_d (keeps_v _)⟩⟩
end Go.Proofs.YtdcpnpcmgfmenaaDoor
