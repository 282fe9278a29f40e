/-
  The law TypesChecks of the given program: for every input that the row speaks of the call returns true, and each argument reads afterwards as it read before. Conditions: the row's own (the listed variables read as the program's text lays them).
-/
import Derived.Test.YtdcpnpcmgfmenaaGreatDoorM4
import Derived.Deep.Slices
import Derived.LaidMore
import Derived.OpenShut
import Derived.SizedLaws
import Derived.Test.YtdcpnpcmgfmenaaGreatDoorRows
import Derived.ProofKit
import Derived.Lay
import Derived.Below
import Derived.SevenTiedAt
import Derived.Stop.Joined
import Derived.Test.YtdcpnpcmgfmenaaGreatDoorTie
import Derived.Test.YtdcpnpcmgfmenaaGreatDoorCards
set_option linter.unusedVariables false
set_option linter.unusedSimpArgs false
/-
  Walks: the document's own answer on values: depth, size, short, numbers. Conditions: none.
-/
set_option linter.unusedVariables false
set_option maxRecDepth 100000
namespace Go.Proofs.YtdcpnpcmgfmenaaGreatDoor
open Go Go.Proofs.YtdcpnpcmgfmenaaGreatDoor.Lg

theorem vdepth_pure (t : V) : ∀ s, Pure env 67 [.d (t.df s)] (.d (.v (.int .i64 t.depthW))) := by
  revert t
  apply V.ind
  intro kind flag neg digits exp bits text names list ih s
  have hS : (V.mk kind flag neg digits exp bits text names list).depthW = IntKind.i64.wrap (V.depthF (list.take list.length) 0 + 1) := by rw [List.take_length, V.depthW]
  refine pure_of_body Tryz.func67 rfl rfl rfl fun B hB => ?_
  refine swp_seq ?_
  refine swp_region ?_
  refine sops_go rfl (so_box (cs := [_, _, _, _, _, _, _, _, _]) rfl rfl rfl ?_)
  refine sops_go rfl (st_assign (v := .d _) rfl rfl rfl ?_)
  refine sops_nil ?_
  refine swp_seq ?_
  refine swp_region ?_
  refine sops_go rfl (st_assign (v := .d _) rfl rfl rfl ?_)
  refine sops_nil ?_
  refine swp_seq ?_
  refine swp_seq ?_
  refine swp_region ?_
  refine sops_go rfl (st_assign (v := .d _) rfl rfl rfl ?_)
  refine sops_nil ?_
  refine swp_block ?_
  refine swp_len (l := 0) (i := 8) rfl rfl rfl fun hll => ?_
  rw [V.rows_len] at hll
  refine swp_loopF (F := fun k : Nat => { t := upd (upd (upd (fun _ => .any) 1 (.p 0 0 0)) 3 (.d (.v (.int .i64 (V.depthF (list.take k) 0))))) 4 (.d (.v (.int .i64 k))), n := 22, h := upd (fun _ => .dead) 0 (.cells [.any, .any, .any, .any, .any, .any, .any, .any, .d (.sl s (V.rows list))]), nx := 1 })
    (fun k => k ≤ list.length) (fun k => list.length - k) 0 (Nat.zero_le _) ?_ ?_
  · refine wk_of rfl (Nat.le_of_ble_eq_true rfl) (by rw [hB]; exact Nat.zero_le _) (tle_upd (le_eq rfl rfl) (tle_upd (le_eq rfl rfl) (tle_upd (le_eq rfl rfl) (tle_any _)))) (hle_upd (.cells _ _ ⟨le_any _, le_any _, le_any _, le_any _, le_any _, le_any _, le_any _, le_any _, le_eq rfl rfl, trivial⟩) (hle_dead _)) (dead_upd (Nat.le_of_ble_eq_true rfl) (dead_none))
  intro k hk
  have hk : k ≤ list.length := hk
  refine swp_seq ?_
  refine swp_seq ?_
  refine swp_region ?_
  refine sops_go rfl (st_move (v := .d _) rfl rfl rfl ?_)
  first | refine sops_go rfl (so_fieldAddr (v := .p _ _ _) rfl rfl rfl rfl rfl rfl rfl rfl rfl rfl ?_) | refine sops_go rfl (so_fieldAddr (v := .dp _ _) rfl rfl rfl rfl rfl rfl rfl rfl rfl rfl ?_) | refine sops_go rfl (so_fieldAddr (v := .pe _ _ _ _ _) rfl rfl rfl rfl rfl rfl rfl rfl rfl rfl ?_)
  first | refine sops_go rfl (so_load (v := .d _) rfl rfl rfl rfl rfl rfl rfl rfl ?_) | refine sops_go rfl (so_load (v := .own _ _ _ _ _) rfl rfl rfl rfl rfl rfl rfl rfl ?_)
  refine sops_go rfl (so_lenSl rfl rfl rfl rfl rfl ?_)
  refine sops_go rfl (st_bin rfl rfl rfl rfl rfl ?_)
  refine sops_nil ?_
  refine swp_cond _ rfl (fun hc9 => ?_) (fun hc9 => ?_)
  · have hlt : k < list.length := by have := of_decide_eq_true hc9; rw [V.rows_len] at this; omega
    have ihk := ih _ (List.getElem_mem hlt) true
    have hak := V.depthF_take list 0 k hlt
    refine swp_skip ?_
    refine swp_seq ?_
    refine swp_block ?_
    refine swp_region ?_
    refine sops_go rfl (st_move (v := .d _) rfl rfl rfl ?_)
    first | refine sops_go rfl (so_fieldAddr (v := .p _ _ _) rfl rfl rfl rfl rfl rfl rfl rfl rfl rfl ?_) | refine sops_go rfl (so_fieldAddr (v := .dp _ _) rfl rfl rfl rfl rfl rfl rfl rfl rfl rfl ?_) | refine sops_go rfl (so_fieldAddr (v := .pe _ _ _ _ _) rfl rfl rfl rfl rfl rfl rfl rfl rfl rfl ?_)
    first | refine sops_go rfl (so_load (v := .d _) rfl rfl rfl rfl rfl rfl rfl rfl ?_) | refine sops_go rfl (so_load (v := .own _ _ _ _ _) rfl rfl rfl rfl rfl rfl rfl rfl ?_)
    refine sops_go rfl (st_move (v := .d _) rfl rfl rfl ?_)
    refine sops_go rfl (so_indexSl rfl rfl rfl rfl rfl rfl rfl (V.rows_all _) (by omega) (by rw [V.rows_len]; omega) (V.rows_get _ _ hlt) ?_)
    generalize list[k] = x at ihk hak ⊢
    obtain ⟨x1, x2, x3, x4, x5, x6, x7, x8, x9⟩ := x
    first | refine sops_go rfl (so_load (v := .d (.agg [_, _, _, _, _, _, _, _, _])) rfl rfl rfl rfl rfl rfl rfl rfl ?_) | refine sops_go rfl (so_load (v := .agg [_, _, _, _, _, _, _, _, _]) rfl rfl rfl rfl rfl rfl rfl rfl ?_)
    refine sops_go rfl (st_call rfl rfl (ihk) ⟨na_d _, trivial⟩ rfl ?_)
    refine sops_go rfl (so_max rfl rfl rfl rfl rfl ?_)
    refine sops_go rfl (st_assign (v := .d _) rfl rfl rfl ?_)
    refine sops_nil ?_
    refine swp_region ?_
    refine sops_go rfl (st_move (v := .d _) rfl rfl rfl ?_)
    refine sops_go rfl (st_bin rfl rfl rfl rfl rfl ?_)
    refine sops_go rfl (st_assign (v := .d _) rfl rfl rfl ?_)
    refine sops_nil ?_
    refine ⟨k + 1, hlt, by omega, ?_⟩
    simp only [hak]
    refine wk_of rfl (Nat.le_of_ble_eq_true rfl) (by rw [hB]; exact Nat.zero_le _) (tle_upd (le_eq (next_i64 hlt hll) rfl) (tle_upd (le_eq rfl rfl) (tle_upd (le_eq rfl rfl) (tle_any _)))) (hle_upd (.cells _ _ ⟨le_any _, le_any _, le_any _, le_any _, le_any _, le_any _, le_any _, le_any _, le_eq rfl rfl, trivial⟩) (hle_dead _)) (dead_upd (Nat.le_of_ble_eq_true rfl) (dead_none))
  · have he : k = list.length := by have := of_decide_eq_false hc9; rw [V.rows_len] at this; omega
    refine swp_exit ?_
    with_reducible refine after_exit ?_
    with_reducible refine after_exit ?_
    refine inblk_hit ?_
    refine swp_seq ?_
    refine swp_region ?_
    refine sops_go rfl (st_move (v := .d _) rfl rfl rfl ?_)
    refine sops_go rfl (st_bin rfl rfl rfl rfl rfl ?_)
    refine sops_go rfl (st_assign (v := .d _) rfl rfl rfl ?_)
    refine sops_nil ?_
    refine swp_ret ?_
    exact fin_i rfl rfl (by rw [hS, he])

theorem vsize_pure (t : V) : ∀ s, Pure env 68 [.d (t.df s)] (.d (.v (.int .i64 t.sizeW))) := by
  revert t
  apply V.ind
  intro kind flag neg digits exp bits text names list ih s
  have hS : (V.mk kind flag neg digits exp bits text names list).sizeW = V.sizeF (list.take list.length) 1 := by rw [List.take_length, V.sizeW]
  refine pure_of_body Tryz.func68 rfl rfl rfl fun B hB => ?_
  refine swp_seq ?_
  refine swp_region ?_
  refine sops_go rfl (so_box (cs := [_, _, _, _, _, _, _, _, _]) rfl rfl rfl ?_)
  refine sops_go rfl (st_assign (v := .d _) rfl rfl rfl ?_)
  refine sops_nil ?_
  refine swp_seq ?_
  refine swp_region ?_
  refine sops_go rfl (st_assign (v := .d _) rfl rfl rfl ?_)
  refine sops_nil ?_
  refine swp_seq ?_
  refine swp_seq ?_
  refine swp_region ?_
  refine sops_go rfl (st_assign (v := .d _) rfl rfl rfl ?_)
  refine sops_nil ?_
  refine swp_block ?_
  refine swp_len (l := 0) (i := 8) rfl rfl rfl fun hll => ?_
  rw [V.rows_len] at hll
  refine swp_loopF (F := fun k : Nat => { t := upd (upd (upd (fun _ => .any) 1 (.p 0 0 0)) 3 (.d (.v (.int .i64 (V.sizeF (list.take k) 1))))) 4 (.d (.v (.int .i64 k))), n := 21, h := upd (fun _ => .dead) 0 (.cells [.any, .any, .any, .any, .any, .any, .any, .any, .d (.sl s (V.rows list))]), nx := 1 })
    (fun k => k ≤ list.length) (fun k => list.length - k) 0 (Nat.zero_le _) ?_ ?_
  · refine wk_of rfl (Nat.le_of_ble_eq_true rfl) (by rw [hB]; exact Nat.zero_le _) (tle_upd (le_eq rfl rfl) (tle_upd (le_eq rfl rfl) (tle_upd (le_eq rfl rfl) (tle_any _)))) (hle_upd (.cells _ _ ⟨le_any _, le_any _, le_any _, le_any _, le_any _, le_any _, le_any _, le_any _, le_eq rfl rfl, trivial⟩) (hle_dead _)) (dead_upd (Nat.le_of_ble_eq_true rfl) (dead_none))
  intro k hk
  have hk : k ≤ list.length := hk
  refine swp_seq ?_
  refine swp_seq ?_
  refine swp_region ?_
  refine sops_go rfl (st_move (v := .d _) rfl rfl rfl ?_)
  first | refine sops_go rfl (so_fieldAddr (v := .p _ _ _) rfl rfl rfl rfl rfl rfl rfl rfl rfl rfl ?_) | refine sops_go rfl (so_fieldAddr (v := .dp _ _) rfl rfl rfl rfl rfl rfl rfl rfl rfl rfl ?_) | refine sops_go rfl (so_fieldAddr (v := .pe _ _ _ _ _) rfl rfl rfl rfl rfl rfl rfl rfl rfl rfl ?_)
  first | refine sops_go rfl (so_load (v := .d _) rfl rfl rfl rfl rfl rfl rfl rfl ?_) | refine sops_go rfl (so_load (v := .own _ _ _ _ _) rfl rfl rfl rfl rfl rfl rfl rfl ?_)
  refine sops_go rfl (so_lenSl rfl rfl rfl rfl rfl ?_)
  refine sops_go rfl (st_bin rfl rfl rfl rfl rfl ?_)
  refine sops_nil ?_
  refine swp_cond _ rfl (fun hc9 => ?_) (fun hc9 => ?_)
  · have hlt : k < list.length := by have := of_decide_eq_true hc9; rw [V.rows_len] at this; omega
    have ihk := ih _ (List.getElem_mem hlt) true
    have hak := V.sizeF_take list 1 k hlt
    refine swp_skip ?_
    refine swp_seq ?_
    refine swp_block ?_
    refine swp_region ?_
    refine sops_go rfl (st_move (v := .d _) rfl rfl rfl ?_)
    first | refine sops_go rfl (so_fieldAddr (v := .p _ _ _) rfl rfl rfl rfl rfl rfl rfl rfl rfl rfl ?_) | refine sops_go rfl (so_fieldAddr (v := .dp _ _) rfl rfl rfl rfl rfl rfl rfl rfl rfl rfl ?_) | refine sops_go rfl (so_fieldAddr (v := .pe _ _ _ _ _) rfl rfl rfl rfl rfl rfl rfl rfl rfl rfl ?_)
    first | refine sops_go rfl (so_load (v := .d _) rfl rfl rfl rfl rfl rfl rfl rfl ?_) | refine sops_go rfl (so_load (v := .own _ _ _ _ _) rfl rfl rfl rfl rfl rfl rfl rfl ?_)
    refine sops_go rfl (st_move (v := .d _) rfl rfl rfl ?_)
    refine sops_go rfl (so_indexSl rfl rfl rfl rfl rfl rfl rfl (V.rows_all _) (by omega) (by rw [V.rows_len]; omega) (V.rows_get _ _ hlt) ?_)
    generalize list[k] = x at ihk hak ⊢
    obtain ⟨x1, x2, x3, x4, x5, x6, x7, x8, x9⟩ := x
    first | refine sops_go rfl (so_load (v := .d (.agg [_, _, _, _, _, _, _, _, _])) rfl rfl rfl rfl rfl rfl rfl rfl ?_) | refine sops_go rfl (so_load (v := .agg [_, _, _, _, _, _, _, _, _]) rfl rfl rfl rfl rfl rfl rfl rfl ?_)
    refine sops_go rfl (st_call rfl rfl (ihk) ⟨na_d _, trivial⟩ rfl ?_)
    refine sops_go rfl (st_bin rfl rfl rfl rfl rfl ?_)
    refine sops_go rfl (st_assign (v := .d _) rfl rfl rfl ?_)
    refine sops_nil ?_
    refine swp_region ?_
    refine sops_go rfl (st_move (v := .d _) rfl rfl rfl ?_)
    refine sops_go rfl (st_bin rfl rfl rfl rfl rfl ?_)
    refine sops_go rfl (st_assign (v := .d _) rfl rfl rfl ?_)
    refine sops_nil ?_
    refine ⟨k + 1, hlt, by omega, ?_⟩
    simp only [hak]
    refine wk_of rfl (Nat.le_of_ble_eq_true rfl) (by rw [hB]; exact Nat.zero_le _) (tle_upd (le_eq (next_i64 hlt hll) rfl) (tle_upd (le_eq rfl rfl) (tle_upd (le_eq rfl rfl) (tle_any _)))) (hle_upd (.cells _ _ ⟨le_any _, le_any _, le_any _, le_any _, le_any _, le_any _, le_any _, le_any _, le_eq rfl rfl, trivial⟩) (hle_dead _)) (dead_upd (Nat.le_of_ble_eq_true rfl) (dead_none))
  · have he : k = list.length := by have := of_decide_eq_false hc9; rw [V.rows_len] at this; omega
    refine swp_exit ?_
    with_reducible refine after_exit ?_
    with_reducible refine after_exit ?_
    refine inblk_hit ?_
    refine swp_seq ?_
    refine swp_region ?_
    refine sops_go rfl (st_move (v := .d _) rfl rfl rfl ?_)
    refine sops_go rfl (st_assign (v := .d _) rfl rfl rfl ?_)
    refine sops_nil ?_
    refine swp_ret ?_
    exact fin_i rfl rfl (by rw [hS, he])

theorem vshort_pure (t : V) : ∀ s, Pure env 66 [.d (t.df s)] (.d (.v (.bool t.short))) := by
  revert t
  apply V.ind
  intro kind flag neg digits exp bits text names list ih s
  have hS : (V.mk kind flag neg digits exp bits text names list).short = ((!(decide ((text.size : Int) > (if kind = 9 then 64 else 4096)) || (decide ((list.length : Int) > 256) || names.any fun s => decide ((s.size : Int) > 64)))) && V.shortL list) := by rw [V.short]
  refine pure_of_body Tryz.func66 rfl rfl rfl fun B hB => ?_
  refine swp_seq ?_
  refine swp_region ?_
  refine sops_go rfl (so_box (cs := [_, _, _, _, _, _, _, _, _]) rfl rfl rfl ?_)
  refine sops_go rfl (st_assign (v := .d _) rfl rfl rfl ?_)
  refine sops_nil ?_
  refine swp_seq ?_
  refine swp_region ?_
  refine sops_go rfl (st_assign (v := .d _) rfl rfl rfl ?_)
  refine sops_nil ?_
  refine swp_seqF (F := fun most : Int => ({ t := upd (upd (fun _ => .any) 1 (.p 0 0 0)) 3 (.d (.v (.int .i64 most))), n := 48, h := upd (fun _ => .dead) 0 (.cells [.any, .any, .any, .any, .any, .any, .d (.v (.string text)), .d (.sl s (strRows names)), .d (.sl s (V.rows list))]), nx := 1 } : St)) (P := fun most => (V.mk kind flag neg digits exp bits text names list).short = ((!(decide ((text.size : Int) > most) || (decide ((list.length : Int) > 256) || names.any fun s => decide ((s.size : Int) > 64)))) && V.shortL list)) ?_ ?_
  · refine swp_seq ?_
    refine swp_region ?_
    first | refine sops_go rfl (so_fieldAddr (v := .p _ _ _) rfl rfl rfl rfl rfl rfl rfl rfl rfl rfl ?_) | refine sops_go rfl (so_fieldAddr (v := .dp _ _) rfl rfl rfl rfl rfl rfl rfl rfl rfl rfl ?_) | refine sops_go rfl (so_fieldAddr (v := .pe _ _ _ _ _) rfl rfl rfl rfl rfl rfl rfl rfl rfl rfl ?_)
    refine sops_go rfl (so_load (v := .d _) rfl rfl rfl rfl rfl rfl rfl rfl ?_)
    refine sops_go rfl (st_bin rfl rfl rfl rfl rfl ?_)
    refine sops_nil ?_
    refine swp_cond _ rfl (fun hc8 => ?_) (fun hc8 => ?_)
    · rw [if_pos (show kind = 9 by simpa using hc8)] at hS
      refine swp_region ?_
      refine sops_go rfl (st_assign (v := .d _) rfl rfl rfl ?_)
      refine sops_nil ?_
      refine ⟨_, hS, ?_⟩
      refine wk_of rfl (Nat.le_of_ble_eq_true rfl) (by rw [hB]; exact Nat.zero_le _) (tle_upd (le_eq rfl rfl) (tle_upd (le_eq rfl rfl) (tle_any _))) (hle_upd (.cells _ _ ⟨le_any _, le_any _, le_any _, le_any _, le_any _, le_any _, le_eq rfl rfl, le_eq rfl rfl, le_eq rfl rfl, trivial⟩) (hle_dead _)) (dead_upd (Nat.le_of_ble_eq_true rfl) (dead_none))
    · rw [if_neg (show ¬ kind = 9 by simpa using hc8)] at hS
      refine swp_skip ?_
      refine ⟨_, hS, ?_⟩
      refine wk_of rfl (Nat.le_of_ble_eq_true rfl) (by rw [hB]; exact Nat.zero_le _) (tle_upd (le_eq rfl rfl) (tle_upd (le_eq rfl rfl) (tle_any _))) (hle_upd (.cells _ _ ⟨le_any _, le_any _, le_any _, le_any _, le_any _, le_any _, le_eq rfl rfl, le_eq rfl rfl, le_eq rfl rfl, trivial⟩) (hle_dead _)) (dead_upd (Nat.le_of_ble_eq_true rfl) (dead_none))
  · intro most hS
    have hS : (V.mk kind flag neg digits exp bits text names list).short = ((!((decide ((text.size : Int) > most) || decide ((list.length : Int) > 256)) || names.any fun s => decide ((s.size : Int) > 64))) && V.shortL list) := by rw [Bool.or_assoc]; exact hS
    refine swp_seq ?_
    refine swp_seq ?_
    refine swp_region ?_
    first | refine sops_go rfl (so_fieldAddr (v := .p _ _ _) rfl rfl rfl rfl rfl rfl rfl rfl rfl rfl ?_) | refine sops_go rfl (so_fieldAddr (v := .dp _ _) rfl rfl rfl rfl rfl rfl rfl rfl rfl rfl ?_) | refine sops_go rfl (so_fieldAddr (v := .pe _ _ _ _ _) rfl rfl rfl rfl rfl rfl rfl rfl rfl rfl ?_)
    refine sops_go rfl (so_load (v := .d _) rfl rfl rfl rfl rfl rfl rfl rfl ?_)
    refine sops_go rfl (so_lenStr rfl rfl rfl rfl rfl ?_)
    refine sops_go rfl (st_move (v := .d _) rfl rfl rfl ?_)
    refine sops_go rfl (st_bin rfl rfl rfl rfl rfl ?_)
    refine sops_go rfl (st_move (v := .d _) rfl rfl rfl ?_)
    refine' sops_or (d := 14) (p := 19) [15, 16, 17, 18] 5 rfl rfl rfl (fun hb14 => ?a14) (fun hb14 => ?b14) ?_
    case a14 =>
      first | refine sops_yes rfl rfl rfl rfl (so_fieldAddr (v := .p _ _ _) rfl rfl rfl rfl rfl rfl rfl rfl rfl rfl ?_) | refine sops_yes rfl rfl rfl rfl (so_fieldAddr (v := .dp _ _) rfl rfl rfl rfl rfl rfl rfl rfl rfl rfl ?_) | refine sops_yes rfl rfl rfl rfl (so_fieldAddr (v := .pe _ _ _ _ _) rfl rfl rfl rfl rfl rfl rfl rfl rfl rfl ?_)
      first | refine sops_yes rfl rfl rfl rfl (so_load (v := .d _) rfl rfl rfl rfl rfl rfl rfl rfl ?_) | refine sops_yes rfl rfl rfl rfl (so_load (v := .own _ _ _ _ _) rfl rfl rfl rfl rfl rfl rfl rfl ?_)
      refine sops_yes rfl rfl rfl rfl (so_lenSl rfl rfl rfl rfl rfl ?_)
      refine sops_yes rfl rfl rfl rfl (st_bin rfl rfl rfl rfl rfl ?_)
      refine sops_go rfl (st_pick (v := .d _) rfl rfl rfl rfl ?_)
      refine sops_nil ?_
      exact ⟨rfl, rfl, rfl, rfl, [_, _, _, _], rfl, rfl⟩
    case b14 =>
      refine sops_no rfl rfl rfl rfl rfl ?_
      refine sops_no rfl rfl rfl rfl rfl ?_
      refine sops_no rfl rfl rfl rfl rfl ?_
      refine sops_no rfl rfl rfl rfl rfl ?_
      refine sops_go rfl (st_pick (v := .d _) rfl rfl rfl rfl ?_)
      refine sops_nil ?_
      exact ⟨rfl, rfl, rfl, rfl, [_, _, _, _], rfl, rfl⟩
    refine sops_nil ?_
    refine swp_cond _ rfl (fun hc19 => ?_) (fun hc19 => ?_)
    · have h1 : (decide ((text.size : Int) > most) || decide ((list.length : Int) > 256)) = true := by rw [← V.rows_len list]; exact hc19
      rw [h1] at hS
      refine swp_seq ?_
      refine swp_region ?_
      refine sops_go rfl (st_assign (v := .d _) rfl rfl rfl ?_)
      refine sops_nil ?_
      refine swp_ret ?_
      with_reducible refine after_ret ?_
      exact fin_b rfl rfl hS
    · have h1 : (decide ((text.size : Int) > most) || decide ((list.length : Int) > 256)) = false := by rw [← V.rows_len list]; exact hc19
      rw [h1, Bool.false_or] at hS
      refine swp_skip ?_
      refine swp_seq ?_
      refine swp_seq ?_
      refine swp_region ?_
      refine sops_go rfl (st_assign (v := .d _) rfl rfl rfl ?_)
      refine sops_nil ?_
      refine swp_block ?_
      refine swp_len (l := 0) (i := 8) rfl rfl rfl fun hll => ?_
      rw [V.rows_len] at hll
      refine swp_len (l := 0) (i := 7) rfl rfl rfl fun hnl => ?_
      rw [strRows_len] at hnl
      refine swp_loopF (F := fun k : Nat => { t := upd (upd (fun _ => .any) 1 (.p 0 0 0)) 4 (.d (.v (.int .i64 k))), n := 48, h := upd (fun _ => .dead) 0 (.cells [.any, .any, .any, .any, .any, .any, .any, .d (.sl s (strRows names)), .d (.sl s (V.rows list))]), nx := 1 })
        (fun k => k ≤ names.length ∧ (names.take k).any (fun s => decide ((s.size : Int) > 64)) = false) (fun k => names.length - k) 0 ⟨Nat.zero_le _, rfl⟩ ?_ ?_
      · refine wk_of rfl (Nat.le_of_ble_eq_true rfl) (by rw [hB]; exact Nat.zero_le _) (tle_upd (le_eq rfl rfl) (tle_upd (le_eq rfl rfl) (tle_any _))) (hle_upd (.cells _ _ ⟨le_any _, le_any _, le_any _, le_any _, le_any _, le_any _, le_any _, le_eq rfl rfl, le_eq rfl rfl, trivial⟩) (hle_dead _)) (dead_upd (Nat.le_of_ble_eq_true rfl) (dead_none))
      rintro k ⟨hk, ha⟩
      refine swp_seq ?_
      refine swp_seq ?_
      refine swp_region ?_
      refine sops_go rfl (st_move (v := .d _) rfl rfl rfl ?_)
      first | refine sops_go rfl (so_fieldAddr (v := .p _ _ _) rfl rfl rfl rfl rfl rfl rfl rfl rfl rfl ?_) | refine sops_go rfl (so_fieldAddr (v := .dp _ _) rfl rfl rfl rfl rfl rfl rfl rfl rfl rfl ?_) | refine sops_go rfl (so_fieldAddr (v := .pe _ _ _ _ _) rfl rfl rfl rfl rfl rfl rfl rfl rfl rfl ?_)
      first | refine sops_go rfl (so_load (v := .d _) rfl rfl rfl rfl rfl rfl rfl rfl ?_) | refine sops_go rfl (so_load (v := .own _ _ _ _ _) rfl rfl rfl rfl rfl rfl rfl rfl ?_)
      refine sops_go rfl (so_lenSl rfl rfl rfl rfl rfl ?_)
      refine sops_go rfl (st_bin rfl rfl rfl rfl rfl ?_)
      refine sops_nil ?_
      refine swp_cond _ rfl (fun hc24 => ?_) (fun hc24 => ?_)
      · have hlt : k < names.length := by have := of_decide_eq_true hc24; rw [strRows_len] at this; omega
        have hat := any_take (fun s : ByteArray => decide ((s.size : Int) > 64)) names k hlt
        have hge := any_get (fun s : ByteArray => decide ((s.size : Int) > 64)) names k hlt
        refine swp_skip ?_
        refine swp_seq ?_
        refine swp_block ?_
        refine swp_seq ?_
        refine swp_region ?_
        first | refine sops_go rfl (so_fieldAddr (v := .p _ _ _) rfl rfl rfl rfl rfl rfl rfl rfl rfl rfl ?_) | refine sops_go rfl (so_fieldAddr (v := .dp _ _) rfl rfl rfl rfl rfl rfl rfl rfl rfl rfl ?_) | refine sops_go rfl (so_fieldAddr (v := .pe _ _ _ _ _) rfl rfl rfl rfl rfl rfl rfl rfl rfl rfl ?_)
        first | refine sops_go rfl (so_load (v := .d _) rfl rfl rfl rfl rfl rfl rfl rfl ?_) | refine sops_go rfl (so_load (v := .own _ _ _ _ _) rfl rfl rfl rfl rfl rfl rfl rfl ?_)
        refine sops_go rfl (st_move (v := .d _) rfl rfl rfl ?_)
        refine sops_go rfl (so_indexSl rfl rfl rfl rfl rfl rfl rfl (strRows_all _) (by omega) (by rw [strRows_len]; omega) (strRows_get _ _ hlt) ?_)
        refine sops_go rfl (so_load (v := .d _) rfl rfl rfl rfl rfl rfl rfl rfl ?_)
        refine sops_go rfl (so_lenStr rfl rfl rfl rfl rfl ?_)
        refine sops_go rfl (st_bin rfl rfl rfl rfl rfl ?_)
        refine sops_nil ?_
        refine swp_cond _ rfl (fun hc33 => ?_) (fun hc33 => ?_)
        · refine swp_seq ?_
          refine swp_region ?_
          refine sops_go rfl (st_assign (v := .d _) rfl rfl rfl ?_)
          refine sops_nil ?_
          refine swp_ret ?_
          with_reducible refine inblk_ret ?_
          with_reducible refine after_ret ?_
          with_reducible refine after_ret ?_
          with_reducible refine inblk_ret ?_
          with_reducible refine after_ret ?_
          exact fin_b rfl rfl (by rw [hS, hge hc33]; rfl)
        · refine swp_skip ?_
          refine swp_region ?_
          refine sops_go rfl (st_move (v := .d _) rfl rfl rfl ?_)
          refine sops_go rfl (st_bin rfl rfl rfl rfl rfl ?_)
          refine sops_go rfl (st_assign (v := .d _) rfl rfl rfl ?_)
          refine sops_nil ?_
          refine ⟨k + 1, ⟨hlt, by rw [hat, ha]; exact hc33⟩, by omega, ?_⟩
          refine wk_of rfl (Nat.le_of_ble_eq_true rfl) (by rw [hB]; exact Nat.zero_le _) (tle_upd (le_eq (next_i64 hlt hnl) rfl) (tle_upd (le_eq rfl rfl) (tle_any _))) (hle_upd (.cells _ _ ⟨le_any _, le_any _, le_any _, le_any _, le_any _, le_any _, le_any _, le_eq rfl rfl, le_eq rfl rfl, trivial⟩) (hle_dead _)) (dead_upd (Nat.le_of_ble_eq_true rfl) (dead_none))
      · have he : k = names.length := by have := of_decide_eq_false hc24; rw [strRows_len] at this; omega
        rw [he, List.take_length] at ha
        rw [ha] at hS
        have hS : (V.mk kind flag neg digits exp bits text names list).short = list.all V.short := by
          rw [hS, V.shortL_any, List.all_eq_not_any_not]; simp
        refine swp_exit ?_
        with_reducible refine after_exit ?_
        with_reducible refine after_exit ?_
        refine inblk_hit ?_
        refine swp_seq ?_
        refine swp_seq ?_
        refine swp_region ?_
        refine sops_go rfl (st_assign (v := .d _) rfl rfl rfl ?_)
        refine sops_nil ?_
        refine swp_block ?_
        refine swp_loopF (F := fun k : Nat => { t := upd (upd (fun _ => .any) 1 (.p 0 0 0)) 5 (.d (.v (.int .i64 k))), n := 48, h := upd (fun _ => .dead) 0 (.cells [.any, .any, .any, .any, .any, .any, .any, .any, .d (.sl s (V.rows list))]), nx := 1 })
          (fun k => k ≤ list.length ∧ (list.take k).all V.short = true) (fun k => list.length - k) 0 ⟨Nat.zero_le _, rfl⟩ ?_ ?_
        · refine wk_of rfl (Nat.le_of_ble_eq_true rfl) (by rw [hB]; exact Nat.zero_le _) (tle_upd (le_eq rfl rfl) (tle_upd (le_eq rfl rfl) (tle_any _))) (hle_upd (.cells _ _ ⟨le_any _, le_any _, le_any _, le_any _, le_any _, le_any _, le_any _, le_any _, le_eq rfl rfl, trivial⟩) (hle_dead _)) (dead_upd (Nat.le_of_ble_eq_true rfl) (dead_none))
        rintro j ⟨hj, hb⟩
        refine swp_seq ?_
        refine swp_seq ?_
        refine swp_region ?_
        refine sops_go rfl (st_move (v := .d _) rfl rfl rfl ?_)
        first | refine sops_go rfl (so_fieldAddr (v := .p _ _ _) rfl rfl rfl rfl rfl rfl rfl rfl rfl rfl ?_) | refine sops_go rfl (so_fieldAddr (v := .dp _ _) rfl rfl rfl rfl rfl rfl rfl rfl rfl rfl ?_) | refine sops_go rfl (so_fieldAddr (v := .pe _ _ _ _ _) rfl rfl rfl rfl rfl rfl rfl rfl rfl rfl ?_)
        first | refine sops_go rfl (so_load (v := .d _) rfl rfl rfl rfl rfl rfl rfl rfl ?_) | refine sops_go rfl (so_load (v := .own _ _ _ _ _) rfl rfl rfl rfl rfl rfl rfl rfl ?_)
        refine sops_go rfl (so_lenSl rfl rfl rfl rfl rfl ?_)
        refine sops_go rfl (st_bin rfl rfl rfl rfl rfl ?_)
        refine sops_nil ?_
        refine swp_cond _ rfl (fun hc38 => ?_) (fun hc38 => ?_)
        · have hlt : j < list.length := by have := of_decide_eq_true hc38; rw [V.rows_len] at this; omega
          have hat := all_take V.short list j hlt
          have ihk := ih _ (List.getElem_mem hlt) true
          have hmem := List.getElem_mem hlt
          refine swp_skip ?_
          refine swp_seq ?_
          refine swp_block ?_
          refine swp_seq ?_
          refine swp_region ?_
          first | refine sops_go rfl (so_fieldAddr (v := .p _ _ _) rfl rfl rfl rfl rfl rfl rfl rfl rfl rfl ?_) | refine sops_go rfl (so_fieldAddr (v := .dp _ _) rfl rfl rfl rfl rfl rfl rfl rfl rfl rfl ?_) | refine sops_go rfl (so_fieldAddr (v := .pe _ _ _ _ _) rfl rfl rfl rfl rfl rfl rfl rfl rfl rfl ?_)
          first | refine sops_go rfl (so_load (v := .d _) rfl rfl rfl rfl rfl rfl rfl rfl ?_) | refine sops_go rfl (so_load (v := .own _ _ _ _ _) rfl rfl rfl rfl rfl rfl rfl rfl ?_)
          refine sops_go rfl (st_move (v := .d _) rfl rfl rfl ?_)
          refine sops_go rfl (so_indexSl rfl rfl rfl rfl rfl rfl rfl (V.rows_all _) (by omega) (by rw [V.rows_len]; omega) (V.rows_get _ _ hlt) ?_)
          generalize list[j] = x at ihk hat hmem ⊢
          obtain ⟨x1, x2, x3, x4, x5, x6, x7, x8, x9⟩ := x
          first | refine sops_go rfl (so_load (v := .d (.agg [_, _, _, _, _, _, _, _, _])) rfl rfl rfl rfl rfl rfl rfl rfl ?_) | refine sops_go rfl (so_load (v := .agg [_, _, _, _, _, _, _, _, _]) rfl rfl rfl rfl rfl rfl rfl rfl ?_)
          refine sops_go rfl (st_call rfl rfl (ihk) ⟨na_d _, trivial⟩ rfl ?_)
          refine sops_go rfl (st_not rfl rfl rfl ?_)
          refine sops_nil ?_
          refine swp_cond _ rfl (fun hc47 => ?_) (fun hc47 => ?_)
          · refine swp_seq ?_
            refine swp_region ?_
            refine sops_go rfl (st_assign (v := .d _) rfl rfl rfl ?_)
            refine sops_nil ?_
            refine swp_ret ?_
            with_reducible refine inblk_ret ?_
            with_reducible refine after_ret ?_
            with_reducible refine after_ret ?_
            with_reducible refine inblk_ret ?_
            with_reducible refine after_ret ?_
            refine fin_b rfl rfl ?_
            rw [hS]
            refine Bool.eq_false_iff.2 fun h => ?_
            have := List.all_eq_true.1 h _ hmem
            rw [this] at hc47
            cases hc47
          · refine swp_skip ?_
            refine swp_region ?_
            refine sops_go rfl (st_move (v := .d _) rfl rfl rfl ?_)
            refine sops_go rfl (st_bin rfl rfl rfl rfl rfl ?_)
            refine sops_go rfl (st_assign (v := .d _) rfl rfl rfl ?_)
            refine sops_nil ?_
            refine ⟨j + 1, ⟨hlt, by rw [hat, hb]; simpa using hc47⟩, by omega, ?_⟩
            refine wk_of rfl (Nat.le_of_ble_eq_true rfl) (by rw [hB]; exact Nat.zero_le _) (tle_upd (le_eq (next_i64 hlt hll) rfl) (tle_upd (le_eq rfl rfl) (tle_any _))) (hle_upd (.cells _ _ ⟨le_any _, le_any _, le_any _, le_any _, le_any _, le_any _, le_any _, le_any _, le_eq rfl rfl, trivial⟩) (hle_dead _)) (dead_upd (Nat.le_of_ble_eq_true rfl) (dead_none))
        · have he : j = list.length := by have := of_decide_eq_false hc38; rw [V.rows_len] at this; omega
          rw [he, List.take_length] at hb
          refine swp_exit ?_
          with_reducible refine after_exit ?_
          with_reducible refine after_exit ?_
          refine inblk_hit ?_
          refine swp_seq ?_
          refine swp_region ?_
          refine sops_go rfl (st_assign (v := .d _) rfl rfl rfl ?_)
          refine sops_nil ?_
          refine swp_ret ?_
          exact fin_b rfl rfl (by rw [hS, hb])

def allDig (s : ByteArray) : Nat → Bool
  | 0 => true
  | k + 1 => allDig s k && !(decide (byteAt s k < 48) || decide (byteAt s k > 57))
theorem allDig_le (s : ByteArray) : ∀ (k j : Nat), j ≤ k → allDig s k = true → allDig s j = true
  | 0, j, h, _ => by have : j = 0 := by omega
                     subst this; rfl
  | k + 1, j, h, ha => by
    rw [allDig, Bool.and_eq_true] at ha
    rcases Nat.lt_or_ge j (k + 1) with h1 | h1
    · exact allDig_le s k j (by omega) ha.1
    · have : j = k + 1 := by omega
      subst this; rw [allDig, ha.1, ha.2]; rfl
theorem rall_pure (s : ByteArray) (hs : fits s) : Pure env 81 [.d (.v (.string s))] (.d (.v (.bool (allDig s s.size && decide ((s.size : Int) > 0))))) := by
  have hs' : s.size ≤ 9223372036854775807 := by unfold fits at hs; omega
  refine pure_of_body Tryz.func81 rfl rfl rfl fun B hB => ?_
  refine swp_seq ?_
  refine swp_region ?_
  refine sops_go rfl (st_assign (v := .d _) rfl rfl rfl ?_)
  refine sops_nil ?_
  refine swp_seq ?_
  refine swp_seq ?_
  refine swp_region ?_
  refine sops_go rfl (st_assign (v := .d _) rfl rfl rfl ?_)
  refine sops_nil ?_
  refine swp_block ?_
  refine swp_loopF (F := fun k : Nat => { t := upd (upd (fun _ => .any) 0 (.d (.v (.string s)))) 3 (.d (.v (.int .i64 k))), n := 23, h := fun _ => .dead, nx := 0 })
    (fun k => k ≤ s.size ∧ allDig s k = true) (fun k => s.size - k) 0 ⟨Nat.zero_le _, rfl⟩ ?_ ?_
  · refine wk_of rfl (Nat.le_of_ble_eq_true rfl) (by rw [hB]; exact Nat.zero_le _) (tle_upd (le_eq rfl rfl) (tle_upd (le_eq rfl rfl) (tle_any _))) (hle_dead _) (dead_none)
  rintro k ⟨hk, ha⟩
  have hk : k ≤ s.size := hk
  refine swp_seq ?_
  refine swp_seq ?_
  refine swp_region ?_
  refine sops_go rfl (st_move (v := .d _) rfl rfl rfl ?_)
  refine sops_go rfl (st_move (v := .d _) rfl rfl rfl ?_)
  refine sops_go rfl (so_lenStr rfl rfl rfl rfl rfl ?_)
  refine sops_go rfl (st_bin rfl rfl rfl rfl rfl ?_)
  refine sops_nil ?_
  refine swp_cond _ rfl (fun hc7 => ?_) (fun hc7 => ?_)
  · have hlt : k < s.size := by simp at hc7; omega
    refine swp_skip ?_
    refine swp_seq ?_
    refine swp_block ?_
    refine swp_seq ?_
    refine swp_region ?_
    refine sops_go rfl (st_move (v := .d _) rfl rfl rfl ?_)
    refine sops_go rfl (st_move (v := .d _) rfl rfl rfl ?_)
    refine sops_go rfl (so_indexStr rfl rfl rfl rfl rfl rfl (by omega) (by omega) ?_)
    refine sops_go rfl (st_bin rfl rfl rfl rfl rfl ?_)
    refine sops_go rfl (st_move (v := .d _) rfl rfl rfl ?_)
    refine' sops_or (d := 14) (p := 19) [15, 16, 17, 18] 5 rfl rfl rfl (fun hb14 => ?a14) (fun hb14 => ?b14) ?_
    case a14 =>
      refine sops_yes rfl rfl rfl rfl (st_move (v := .d _) rfl rfl rfl ?_)
      refine sops_yes rfl rfl rfl rfl (st_move (v := .d _) rfl rfl rfl ?_)
      refine sops_yes rfl rfl rfl rfl (so_indexStr rfl rfl rfl rfl rfl rfl (by omega) (by omega) ?_)
      refine sops_yes rfl rfl rfl rfl (st_bin rfl rfl rfl rfl rfl ?_)
      refine sops_go rfl (st_pick (v := .d _) rfl rfl rfl rfl ?_)
      refine sops_nil ?_
      exact ⟨rfl, rfl, rfl, rfl, [_, _, _, _], rfl, rfl⟩
    case b14 =>
      refine sops_no rfl rfl rfl rfl rfl ?_
      refine sops_no rfl rfl rfl rfl rfl ?_
      refine sops_no rfl rfl rfl rfl rfl ?_
      refine sops_no rfl rfl rfl rfl rfl ?_
      refine sops_go rfl (st_pick (v := .d _) rfl rfl rfl rfl ?_)
      refine sops_nil ?_
      exact ⟨rfl, rfl, rfl, rfl, [_, _, _, _], rfl, rfl⟩
    refine sops_nil ?_
    refine swp_cond _ rfl (fun hc19 => ?_) (fun hc19 => ?_)
    · refine swp_seq ?_
      refine swp_region ?_
      refine sops_go rfl (st_assign (v := .d _) rfl rfl rfl ?_)
      refine sops_nil ?_
      refine swp_ret ?_
      with_reducible refine inblk_ret ?_
      with_reducible refine after_ret ?_
      with_reducible refine after_ret ?_
      with_reducible refine inblk_ret ?_
      with_reducible refine after_ret ?_
      refine fin_b rfl rfl ?_
      have h1 : (decide (byteAt s k < 48) || decide (byteAt s k > 57)) = true := hc19
      have : allDig s s.size = false := Bool.eq_false_iff.2 fun h => by
        have := allDig_le s s.size (k + 1) (by omega) h
        rw [allDig, h1] at this; simp at this
      rw [this]; rfl
    · refine swp_skip ?_
      refine swp_region ?_
      refine sops_go rfl (st_move (v := .d _) rfl rfl rfl ?_)
      refine sops_go rfl (st_bin rfl rfl rfl rfl rfl ?_)
      refine sops_go rfl (st_assign (v := .d _) rfl rfl rfl ?_)
      refine sops_nil ?_
      have h1 : (decide (byteAt s k < 48) || decide (byteAt s k > 57)) = false := hc19
      refine ⟨k + 1, ⟨hlt, by rw [allDig, ha, h1]; rfl⟩, by omega, ?_⟩
      refine wk_of rfl (Nat.le_of_ble_eq_true rfl) (by rw [hB]; exact Nat.zero_le _) (tle_upd (le_eq (next_i64 hlt hs') rfl) (tle_upd (le_eq rfl rfl) (tle_any _))) (hle_dead _) (dead_none)
  · have he : k = s.size := by simp at hc7; omega
    rw [he] at ha
    refine swp_exit ?_
    with_reducible refine after_exit ?_
    with_reducible refine after_exit ?_
    refine inblk_hit ?_
    refine swp_seq ?_
    refine swp_region ?_
    refine sops_go rfl (st_move (v := .d _) rfl rfl rfl ?_)
    refine sops_go rfl (so_lenStr rfl rfl rfl rfl rfl ?_)
    refine sops_go rfl (st_bin rfl rfl rfl rfl rfl ?_)
    refine sops_go rfl (st_assign (v := .d _) rfl rfl rfl ?_)
    refine sops_nil ?_
    refine swp_ret ?_
    exact fin_b rfl rfl (by rw [ha]; rfl)

def isNum (neg : Bool) (d : ByteArray) (exp : Int) : Bool :=
  if (d.toList == zeroText.toList) = true then !neg && (exp == 0)
  else (((((allDig d d.size && decide ((d.size : Int) > 0)) && decide ((d.size : Int) ≤ 40)) && (byteAt d 0 != 48)) && (byteAt d (d.size - 1) != 48)) && decide (exp ≥ -400)) && decide (exp ≤ 400)
theorem isNum_pure (neg : Bool) (d : ByteArray) (exp : Int) (hs : fits d) : Pure env 76 [.d (.agg [.v (.bool neg), .v (.string d), .v (.int .i64 exp)])] (.d (.v (.bool (isNum neg d exp)))) := by
  have hs' : d.size ≤ 9223372036854775807 := by unfold fits at hs; omega
  have hall := rall_pure d hs
  have hpos : (allDig d d.size && decide ((d.size : Int) > 0)) = true → 0 < d.size := fun h => by
    have := (Bool.and_eq_true_iff.1 h).2
    simp at this; omega
  refine pure_of_body Tryz.func76 rfl rfl rfl fun B hB => ?_
  refine swp_seq ?_
  refine swp_region ?_
  refine sops_go rfl (so_box (cs := [_, _, _]) rfl rfl rfl ?_)
  refine sops_go rfl (st_assign (v := .d _) rfl rfl rfl ?_)
  refine sops_nil ?_
  refine swp_seq ?_
  refine swp_region ?_
  first | refine sops_go rfl (so_fieldAddr (v := .p _ _ _) rfl rfl rfl rfl rfl rfl rfl rfl rfl rfl ?_) | refine sops_go rfl (so_fieldAddr (v := .dp _ _) rfl rfl rfl rfl rfl rfl rfl rfl rfl rfl ?_) | refine sops_go rfl (so_fieldAddr (v := .pe _ _ _ _ _) rfl rfl rfl rfl rfl rfl rfl rfl rfl rfl ?_)
  refine sops_go rfl (so_load (v := .d _) rfl rfl rfl rfl rfl rfl rfl rfl ?_)
  refine sops_go rfl (st_assign (v := .d _) rfl rfl rfl ?_)
  refine sops_nil ?_
  refine swp_seq ?_
  refine swp_seq ?_
  refine swp_region ?_
  refine sops_go rfl (st_move (v := .d _) rfl rfl rfl ?_)
  refine sops_go rfl (st_bin rfl rfl rfl rfl rfl ?_)
  refine sops_nil ?_
  refine swp_cond _ rfl (fun hc7 => ?_) (fun hc7 => ?_)
  · refine swp_seq ?_
    refine swp_region ?_
    first | refine sops_go rfl (so_fieldAddr (v := .p _ _ _) rfl rfl rfl rfl rfl rfl rfl rfl rfl rfl ?_) | refine sops_go rfl (so_fieldAddr (v := .dp _ _) rfl rfl rfl rfl rfl rfl rfl rfl rfl rfl ?_) | refine sops_go rfl (so_fieldAddr (v := .pe _ _ _ _ _) rfl rfl rfl rfl rfl rfl rfl rfl rfl rfl ?_)
    refine sops_go rfl (so_load (v := .d _) rfl rfl rfl rfl rfl rfl rfl rfl ?_)
    refine sops_go rfl (st_not rfl rfl rfl ?_)
    refine sops_go rfl (st_move (v := .d _) rfl rfl rfl ?_)
    refine' sops_and (d := 11) (p := 15) [12, 13, 14] 4 rfl rfl rfl (fun hb11 => ?a11) (fun hb11 => ?b11) ?_
    case a11 =>
      first | refine sops_yes rfl rfl rfl rfl (so_fieldAddr (v := .p _ _ _) rfl rfl rfl rfl rfl rfl rfl rfl rfl rfl ?_) | refine sops_yes rfl rfl rfl rfl (so_fieldAddr (v := .dp _ _) rfl rfl rfl rfl rfl rfl rfl rfl rfl rfl ?_) | refine sops_yes rfl rfl rfl rfl (so_fieldAddr (v := .pe _ _ _ _ _) rfl rfl rfl rfl rfl rfl rfl rfl rfl rfl ?_)
      refine sops_yes rfl rfl rfl rfl (so_load (v := .d _) rfl rfl rfl rfl rfl rfl rfl rfl ?_)
      refine sops_yes rfl rfl rfl rfl (st_bin rfl rfl rfl rfl rfl ?_)
      refine sops_go rfl (st_pick (v := .d _) rfl rfl rfl rfl ?_)
      refine sops_nil ?_
      exact ⟨rfl, rfl, rfl, rfl, [_, _, _], rfl, rfl⟩
    case b11 =>
      refine sops_no rfl rfl rfl rfl rfl ?_
      refine sops_no rfl rfl rfl rfl rfl ?_
      refine sops_no rfl rfl rfl rfl rfl ?_
      refine sops_go rfl (st_pick (v := .d _) rfl rfl rfl rfl ?_)
      refine sops_nil ?_
      exact ⟨rfl, rfl, rfl, rfl, [_, _, _], rfl, rfl⟩
    refine sops_go rfl (st_assign (v := .d _) rfl rfl rfl ?_)
    refine sops_nil ?_
    refine swp_ret ?_
    with_reducible refine after_ret ?_
    exact fin_b rfl rfl (by unfold isNum; rw [if_pos (show (d.toList == zeroText.toList) = true from hc7)])
  · refine swp_skip ?_
    refine swp_seq ?_
    refine swp_region ?_
    refine sops_go rfl (st_move (v := .d _) rfl rfl rfl ?_)
    refine sops_go rfl (st_call rfl rfl (hall) ⟨na_d _, trivial⟩ rfl ?_)
    refine sops_go rfl (st_move (v := .d _) rfl rfl rfl ?_)
    refine' sops_and (d := 18) (p := 22) [19, 20, 21] 4 rfl rfl rfl (fun hb18 => ?a18) (fun hb18 => ?b18) ?_
    case a18 =>
      refine sops_yes rfl rfl rfl rfl (st_move (v := .d _) rfl rfl rfl ?_)
      refine sops_yes rfl rfl rfl rfl (so_lenStr rfl rfl rfl rfl rfl ?_)
      refine sops_yes rfl rfl rfl rfl (st_bin rfl rfl rfl rfl rfl ?_)
      refine sops_go rfl (st_pick (v := .d _) rfl rfl rfl rfl ?_)
      refine sops_nil ?_
      exact ⟨rfl, rfl, rfl, rfl, [_, _, _], rfl, rfl⟩
    case b18 =>
      refine sops_no rfl rfl rfl rfl rfl ?_
      refine sops_no rfl rfl rfl rfl rfl ?_
      refine sops_no rfl rfl rfl rfl rfl ?_
      refine sops_go rfl (st_pick (v := .d _) rfl rfl rfl rfl ?_)
      refine sops_nil ?_
      exact ⟨rfl, rfl, rfl, rfl, [_, _, _], rfl, rfl⟩
    refine sops_go rfl (st_move (v := .d _) rfl rfl rfl ?_)
    refine' sops_and (d := 23) (p := 27) [24, 25, 26] 4 rfl rfl rfl (fun hb23 => ?a23) (fun hb23 => ?b23) ?_
    case a23 =>
      have hp := hpos (Bool.and_eq_true_iff.1 hb23).1
      refine sops_yes rfl rfl rfl rfl (st_move (v := .d _) rfl rfl rfl ?_)
      refine sops_yes rfl rfl rfl rfl (so_indexStr rfl rfl rfl rfl rfl rfl (by omega) (by omega) ?_)
      refine sops_yes rfl rfl rfl rfl (st_bin rfl rfl rfl rfl rfl ?_)
      refine sops_go rfl (st_pick (v := .d _) rfl rfl rfl rfl ?_)
      refine sops_nil ?_
      exact ⟨rfl, rfl, rfl, rfl, [_, _, _], rfl, rfl⟩
    case b23 =>
      refine sops_no rfl rfl rfl rfl rfl ?_
      refine sops_no rfl rfl rfl rfl rfl ?_
      refine sops_no rfl rfl rfl rfl rfl ?_
      refine sops_go rfl (st_pick (v := .d _) rfl rfl rfl rfl ?_)
      refine sops_nil ?_
      exact ⟨rfl, rfl, rfl, rfl, [_, _, _], rfl, rfl⟩
    refine sops_go rfl (st_move (v := .d _) rfl rfl rfl ?_)
    refine' sops_and (d := 28) (p := 35) [29, 30, 31, 32, 33, 34] 7 rfl rfl rfl (fun hb28 => ?a28) (fun hb28 => ?b28) ?_
    case a28 =>
      have hp := hpos (Bool.and_eq_true_iff.1 (Bool.and_eq_true_iff.1 hb28).1).1
      refine sops_yes rfl rfl rfl rfl (st_move (v := .d _) rfl rfl rfl ?_)
      refine sops_yes rfl rfl rfl rfl (st_move (v := .d _) rfl rfl rfl ?_)
      refine sops_yes rfl rfl rfl rfl (so_lenStr rfl rfl rfl rfl rfl ?_)
      refine sops_yes rfl rfl rfl rfl (st_bin rfl rfl rfl rfl rfl ?_)
      rw [i64_in (x := (d.size : Int) - 1) (by omega) (by omega), show ((d.size : Int) - 1) = ((d.size - 1 : Nat) : Int) by omega]
      refine sops_yes rfl rfl rfl rfl (so_indexStr rfl rfl rfl rfl rfl rfl (by omega) (by omega) ?_)
      refine sops_yes rfl rfl rfl rfl (st_bin rfl rfl rfl rfl rfl ?_)
      refine sops_go rfl (st_pick (v := .d _) rfl rfl rfl rfl ?_)
      refine sops_nil ?_
      exact ⟨rfl, rfl, rfl, rfl, [_, _, _, _, _, _], rfl, rfl⟩
    case b28 =>
      refine sops_no rfl rfl rfl rfl rfl ?_
      refine sops_no rfl rfl rfl rfl rfl ?_
      refine sops_no rfl rfl rfl rfl rfl ?_
      refine sops_no rfl rfl rfl rfl rfl ?_
      refine sops_no rfl rfl rfl rfl rfl ?_
      refine sops_no rfl rfl rfl rfl rfl ?_
      refine sops_go rfl (st_pick (v := .d _) rfl rfl rfl rfl ?_)
      refine sops_nil ?_
      exact ⟨rfl, rfl, rfl, rfl, [_, _, _, _, _, _], rfl, rfl⟩
    refine sops_go rfl (st_move (v := .d _) rfl rfl rfl ?_)
    refine' sops_and (d := 36) (p := 40) [37, 38, 39] 4 rfl rfl rfl (fun hb36 => ?a36) (fun hb36 => ?b36) ?_
    case a36 =>
      first | refine sops_yes rfl rfl rfl rfl (so_fieldAddr (v := .p _ _ _) rfl rfl rfl rfl rfl rfl rfl rfl rfl rfl ?_) | refine sops_yes rfl rfl rfl rfl (so_fieldAddr (v := .dp _ _) rfl rfl rfl rfl rfl rfl rfl rfl rfl rfl ?_) | refine sops_yes rfl rfl rfl rfl (so_fieldAddr (v := .pe _ _ _ _ _) rfl rfl rfl rfl rfl rfl rfl rfl rfl rfl ?_)
      refine sops_yes rfl rfl rfl rfl (so_load (v := .d _) rfl rfl rfl rfl rfl rfl rfl rfl ?_)
      refine sops_yes rfl rfl rfl rfl (st_bin rfl rfl rfl rfl rfl ?_)
      refine sops_go rfl (st_pick (v := .d _) rfl rfl rfl rfl ?_)
      refine sops_nil ?_
      exact ⟨rfl, rfl, rfl, rfl, [_, _, _], rfl, rfl⟩
    case b36 =>
      refine sops_no rfl rfl rfl rfl rfl ?_
      refine sops_no rfl rfl rfl rfl rfl ?_
      refine sops_no rfl rfl rfl rfl rfl ?_
      refine sops_go rfl (st_pick (v := .d _) rfl rfl rfl rfl ?_)
      refine sops_nil ?_
      exact ⟨rfl, rfl, rfl, rfl, [_, _, _], rfl, rfl⟩
    refine sops_go rfl (st_move (v := .d _) rfl rfl rfl ?_)
    refine' sops_and (d := 41) (p := 45) [42, 43, 44] 4 rfl rfl rfl (fun hb41 => ?a41) (fun hb41 => ?b41) ?_
    case a41 =>
      first | refine sops_yes rfl rfl rfl rfl (so_fieldAddr (v := .p _ _ _) rfl rfl rfl rfl rfl rfl rfl rfl rfl rfl ?_) | refine sops_yes rfl rfl rfl rfl (so_fieldAddr (v := .dp _ _) rfl rfl rfl rfl rfl rfl rfl rfl rfl rfl ?_) | refine sops_yes rfl rfl rfl rfl (so_fieldAddr (v := .pe _ _ _ _ _) rfl rfl rfl rfl rfl rfl rfl rfl rfl rfl ?_)
      refine sops_yes rfl rfl rfl rfl (so_load (v := .d _) rfl rfl rfl rfl rfl rfl rfl rfl ?_)
      refine sops_yes rfl rfl rfl rfl (st_bin rfl rfl rfl rfl rfl ?_)
      refine sops_go rfl (st_pick (v := .d _) rfl rfl rfl rfl ?_)
      refine sops_nil ?_
      exact ⟨rfl, rfl, rfl, rfl, [_, _, _], rfl, rfl⟩
    case b41 =>
      refine sops_no rfl rfl rfl rfl rfl ?_
      refine sops_no rfl rfl rfl rfl rfl ?_
      refine sops_no rfl rfl rfl rfl rfl ?_
      refine sops_go rfl (st_pick (v := .d _) rfl rfl rfl rfl ?_)
      refine sops_nil ?_
      exact ⟨rfl, rfl, rfl, rfl, [_, _, _], rfl, rfl⟩
    refine sops_go rfl (st_assign (v := .d _) rfl rfl rfl ?_)
    refine sops_nil ?_
    refine swp_ret ?_
    exact fin_b rfl rfl (by unfold isNum; rw [if_neg (by rw [show (d.toList == zeroText.toList) = false from hc7]; simp)]; rfl)
end Go.Proofs.YtdcpnpcmgfmenaaGreatDoor
/-
  Walks: the document's own answer on values: unlike, plain, own. Conditions: none.
-/
set_option linter.unusedVariables false
set_option maxRecDepth 100000
namespace Go.Proofs.YtdcpnpcmgfmenaaGreatDoor
open Go Go.Proofs.YtdcpnpcmgfmenaaGreatDoor.Lg

def apart (l : List ByteArray) : Bool := (placesOf l).length == l.length
theorem apart_no {l : List ByteArray} {i k : Nat} (hi : i < l.length) (hk : k < i) (h : strEq l[i] (l[k]'(by omega)) = true) : apart l = false := by
  refine Bool.eq_false_iff.2 fun e => ?_
  have hn := placesOf_nd (by simpa [apart] using e : (placesOf l).length = l.length)
  have he := (strEq_iff _ _).1 h
  have := nd_inj hn (List.getElem?_eq_getElem hi) (List.getElem?_eq_some_iff.2 ⟨by omega, he.symm⟩)
  omega
theorem apart_yes {l : List ByteArray} (h : ∀ (i k : Nat) (hi : i < l.length) (hk : k < i), strEq l[i] (l[k]'(by omega)) = false) : apart l = true := by
  have hn : l.Nodup := by
    refine List.pairwise_iff_getElem.2 fun i j hi hj hij e => ?_
    have := h j i hj hij
    rw [(strEq_iff _ _).2 e.symm] at this; cases this
  unfold apart; rw [placesOf_full hn]; exact beq_self_eq_true _

theorem unlike_pure (s : Bool) (l : List ByteArray) : Pure env 77 [.d (.sl s (strRows l))] (.d (.v (.bool (apart l)))) := by
  refine pure_of_body Tryz.func77 rfl rfl rfl fun B hB => ?_
  refine swp_seq ?_
  refine swp_region ?_
  refine sops_go rfl (st_assign (v := .d _) rfl rfl rfl ?_)
  refine sops_nil ?_
  refine swp_seq ?_
  refine swp_seq ?_
  refine swp_region ?_
  refine sops_go rfl (st_assign (v := .d _) rfl rfl rfl ?_)
  refine sops_nil ?_
  refine swp_block ?_
  refine swp_lenT (i := 0) rfl fun hlen => ?_
  rw [strRows_len] at hlen
  refine swp_loopF (F := fun i : Nat => { t := upd (upd (fun _ => .any) 0 (.d (.sl s (strRows l)))) 3 (.d (.v (.int .i64 i))), n := 25, h := fun _ => .dead, nx := 0 })
    (fun i => i ≤ l.length ∧ ∀ (a b : Nat) (ha : a < l.length) (hb : b < a), a < i → strEq l[a] (l[b]'(by omega)) = false) (fun i => l.length - i) 0 ⟨Nat.zero_le _, fun _ _ _ _ h => by omega⟩ ?_ ?_
  · refine wk_of rfl (Nat.le_of_ble_eq_true rfl) (by rw [hB]; exact Nat.zero_le _) (tle_upd (le_eq rfl rfl) (tle_upd (le_eq rfl rfl) (tle_any _))) (hle_dead _) (dead_none)
  rintro i ⟨hi, ha⟩
  have hi : i ≤ l.length := hi
  refine swp_seq ?_
  refine swp_seq ?_
  refine swp_region ?_
  refine sops_go rfl (st_move (v := .d _) rfl rfl rfl ?_)
  first | refine sops_go rfl (st_move (v := .d _) rfl rfl rfl ?_) | refine sops_go rfl (st_move (v := .own _ _ _ _ _) rfl rfl rfl ?_)
  refine sops_go rfl (so_lenSl rfl rfl rfl rfl rfl ?_)
  refine sops_go rfl (st_bin rfl rfl rfl rfl rfl ?_)
  refine sops_nil ?_
  refine swp_cond _ rfl (fun hc8 => ?_) (fun hc8 => ?_)
  · have hlt : i < l.length := by have := of_decide_eq_true hc8; rw [strRows_len] at this; omega
    refine swp_skip ?_
    refine swp_seq ?_
    refine swp_block ?_
    refine swp_seq ?_
    refine swp_region ?_
    refine sops_go rfl (st_assign (v := .d _) rfl rfl rfl ?_)
    refine sops_nil ?_
    refine swp_block ?_
    refine swp_loopF (F := fun k : Nat => { t := upd (upd (upd (fun _ => .any) 0 (.d (.sl s (strRows l)))) 3 (.d (.v (.int .i64 i)))) 4 (.d (.v (.int .i64 k))), n := 25, h := fun _ => .dead, nx := 0 })
      (fun k => k ≤ i ∧ ∀ (b : Nat) (hb : b < i), b < k → strEq l[i] (l[b]'(by omega)) = false) (fun k => i - k) 0 ⟨Nat.zero_le _, fun _ _ h => by omega⟩ ?_ ?_
    · refine wk_of rfl (Nat.le_of_ble_eq_true rfl) (by rw [hB]; exact Nat.zero_le _) (tle_upd (le_eq rfl rfl) (tle_upd (le_eq rfl rfl) (tle_upd (le_eq rfl rfl) (tle_any _)))) (hle_dead _) (dead_none)
    rintro k ⟨hk, hb⟩
    have hk : k ≤ i := hk
    refine swp_seq ?_
    refine swp_seq ?_
    refine swp_region ?_
    refine sops_go rfl (st_move (v := .d _) rfl rfl rfl ?_)
    refine sops_go rfl (st_move (v := .d _) rfl rfl rfl ?_)
    refine sops_go rfl (st_bin rfl rfl rfl rfl rfl ?_)
    refine sops_nil ?_
    refine swp_cond _ rfl (fun hc13 => ?_) (fun hc13 => ?_)
    · have hki : k < i := by simp at hc13; omega
      have hkl : k < l.length := by omega
      refine swp_skip ?_
      refine swp_seq ?_
      refine swp_block ?_
      refine swp_seq ?_
      refine swp_regionQ 8 (by kernel_rfl) rfl rfl rfl ?_
      first | refine h0_go rfl (st_move (v := .d _) rfl rfl rfl ⟨_, rfl, ?_⟩) | refine h0_go rfl (st_move (v := .own _ _ _ _ _) rfl rfl rfl ⟨_, rfl, ?_⟩)
      refine h0_go rfl (st_move (v := .d _) rfl rfl rfl ⟨_, rfl, ?_⟩)
      refine h0_go rfl (so_indexSl rfl rfl rfl rfl rfl rfl rfl (strRows_all _) (by omega) (by rw [strRows_len]; omega) (strRows_get _ _ hlt) ⟨_, rfl, ?_⟩)
      refine h0_go rfl (so_load (v := .d _) rfl rfl rfl rfl rfl rfl rfl rfl ⟨_, rfl, ?_⟩)
      first | refine h0_go rfl (st_move (v := .d _) rfl rfl rfl ⟨_, rfl, ?_⟩) | refine h0_go rfl (st_move (v := .own _ _ _ _ _) rfl rfl rfl ⟨_, rfl, ?_⟩)
      refine h0_go rfl (st_move (v := .d _) rfl rfl rfl ⟨_, rfl, ?_⟩)
      refine h0_go rfl (so_indexSl rfl rfl rfl rfl rfl rfl rfl (strRows_all _) (by omega) (by rw [strRows_len]; omega) (strRows_get _ _ hkl) ⟨_, rfl, ?_⟩)
      refine h0_go rfl (so_load (v := .d _) rfl rfl rfl rfl rfl rfl rfl rfl ⟨_, rfl, ?_⟩)
      refine h0_nil ?_
      refine sops_go rfl (st_bin rfl rfl rfl rfl rfl ?_)
      refine sops_nil ?_
      refine swp_cond _ rfl (fun hc24 => ?_) (fun hc24 => ?_)
      · refine swp_seq ?_
        refine swp_region ?_
        refine sops_go rfl (st_assign (v := .d _) rfl rfl rfl ?_)
        refine sops_nil ?_
        refine swp_ret ?_
        with_reducible refine inblk_ret ?_
        with_reducible refine after_ret ?_
        with_reducible refine after_ret ?_
        with_reducible refine inblk_ret ?_
        with_reducible refine inblk_ret ?_
        with_reducible refine after_ret ?_
        with_reducible refine after_ret ?_
        with_reducible refine inblk_ret ?_
        with_reducible refine after_ret ?_
        exact fin_b rfl rfl (apart_no hlt hki hc24)
      · refine swp_skip ?_
        refine swp_region ?_
        refine sops_go rfl (st_move (v := .d _) rfl rfl rfl ?_)
        refine sops_go rfl (st_bin rfl rfl rfl rfl rfl ?_)
        refine sops_go rfl (st_assign (v := .d _) rfl rfl rfl ?_)
        refine sops_nil ?_
        refine ⟨k + 1, ⟨hki, fun b hb' h => ?_⟩, by omega, ?_⟩
        · rcases Nat.lt_or_ge b k with h1 | h1
          · exact hb b hb' h1
          · obtain rfl : b = k := by omega
            exact hc24
        refine wk_of rfl (Nat.le_of_ble_eq_true rfl) (by rw [hB]; exact Nat.zero_le _) (tle_upd (le_eq (next_i64 hki (by omega)) rfl) (tle_upd (le_eq rfl rfl) (tle_upd (le_eq rfl rfl) (tle_any _)))) (hle_dead _) (dead_none)
    · have hke : i ≤ k := by simp at hc13; omega
      refine swp_exit ?_
      with_reducible refine after_exit ?_
      with_reducible refine after_exit ?_
      refine inblk_hit ?_
      refine swp_region ?_
      refine sops_go rfl (st_move (v := .d _) rfl rfl rfl ?_)
      refine sops_go rfl (st_bin rfl rfl rfl rfl rfl ?_)
      refine sops_go rfl (st_assign (v := .d _) rfl rfl rfl ?_)
      refine sops_nil ?_
      refine ⟨i + 1, ⟨hlt, fun a b ha' hb' h => ?_⟩, by omega, ?_⟩
      · rcases Nat.lt_or_ge a i with h1 | h1
        · exact ha a b ha' hb' h1
        · obtain rfl : a = i := by omega
          exact hb b hb' (by omega)
      refine wk_of rfl (Nat.le_of_ble_eq_true rfl) (by rw [hB]; exact Nat.zero_le _) (tle_upd (le_eq (next_i64 hlt hlen) rfl) (tle_upd (le_eq rfl rfl) (tle_any _))) (hle_dead _) (dead_none)
  · have he : l.length ≤ i := by have := of_decide_eq_false hc8; rw [strRows_len] at this; omega
    refine swp_exit ?_
    with_reducible refine after_exit ?_
    with_reducible refine after_exit ?_
    refine inblk_hit ?_
    refine swp_seq ?_
    refine swp_region ?_
    refine sops_go rfl (st_assign (v := .d _) rfl rfl rfl ?_)
    refine sops_nil ?_
    refine swp_ret ?_
    exact fin_b rfl rfl (apart_yes fun a b ha' hb' => ha a b ha' hb' (by omega))

def zNum (neg : Bool) (digits : ByteArray) (exp : Int) : Bool := (neg == false) && ((digits.toList == noText.toList) && ((exp == 0) && true))
def V.rplain : V → Bool
  | .mk kind flag neg digits exp bits text names list =>
    if (decide (kind < 1) || decide (kind > 9)) = true then false
    else if ((((kind != 2) && flag) || ((kind != 3) && !(zNum neg digits exp))) || ((kind != 4) && (bits != 0))) = true then false
    else if (((((kind != 5) && (kind != 6)) && (kind != 9)) && !(text.toList == noText.toList)) || ((kind != 8) && decide ((names.length : Int) > 0))) = true then false
    else (decide (kind ≥ 7) || ((list.length : Int) == 0))
theorem rplain_pure (t : V) (s : Bool) : Pure env 64 [.d (t.df s)] (.d (.v (.bool t.rplain))) := by
  obtain ⟨kind, flag, neg, digits, exp, bits, text, names, list⟩ := t
  have hS : (V.mk kind flag neg digits exp bits text names list).rplain = if (decide (kind < 1) || decide (kind > 9)) = true then false
    else if ((((kind != 2) && flag) || ((kind != 3) && !(zNum neg digits exp))) || ((kind != 4) && (bits != 0))) = true then false
    else if (((((kind != 5) && (kind != 6)) && (kind != 9)) && !(text.toList == noText.toList)) || ((kind != 8) && decide ((names.length : Int) > 0))) = true then false
    else (decide (kind ≥ 7) || ((list.length : Int) == 0)) := rfl
  rw [← strRows_len names, ← V.rows_len list] at hS
  refine pure_of_body Tryz.func64 rfl rfl rfl fun B hB => ?_
  refine swp_seq ?_
  refine swp_region ?_
  refine sops_go rfl (so_box (cs := [_, _, _, _, _, _, _, _, _]) rfl rfl rfl ?_)
  refine sops_go rfl (st_assign (v := .d _) rfl rfl rfl ?_)
  refine sops_nil ?_
  refine swp_seq ?_
  refine swp_region ?_
  first | refine sops_go rfl (so_build (v := .d (.agg [_, _, _])) rfl rfl rfl rfl rfl rfl rfl ?_) | refine sops_go rfl (so_build (v := .agg [_, _, _]) rfl rfl rfl rfl rfl rfl rfl ?_)
  refine sops_go rfl (so_alloc (cs := [_, _, _]) rfl rfl rfl rfl ?_)
  refine sops_go rfl (so_store rfl rfl rfl rfl rfl rfl rfl rfl rfl (zs := [_, _, _]) rfl ?_)
  refine sops_nil ?_
  refine swp_seq ?_
  refine swp_region ?_
  first | refine sops_go rfl (so_fieldAddr (v := .p _ _ _) rfl rfl rfl rfl rfl rfl rfl rfl rfl rfl ?_) | refine sops_go rfl (so_fieldAddr (v := .dp _ _) rfl rfl rfl rfl rfl rfl rfl rfl rfl rfl ?_) | refine sops_go rfl (so_fieldAddr (v := .pe _ _ _ _ _) rfl rfl rfl rfl rfl rfl rfl rfl rfl rfl ?_)
  refine sops_go rfl (so_load (v := .d _) rfl rfl rfl rfl rfl rfl rfl rfl ?_)
  refine sops_go rfl (st_assign (v := .d _) rfl rfl rfl ?_)
  refine sops_nil ?_
  refine swp_seq ?_
  refine swp_seq ?_
  refine swp_region ?_
  refine sops_go rfl (st_move (v := .d _) rfl rfl rfl ?_)
  refine sops_go rfl (st_bin rfl rfl rfl rfl rfl ?_)
  refine sops_go rfl (st_move (v := .d _) rfl rfl rfl ?_)
  refine' sops_or (d := 10) (p := 13) [11, 12] 3 rfl rfl rfl (fun hb10 => ?a10) (fun hb10 => ?b10) ?_
  case a10 =>
    refine sops_yes rfl rfl rfl rfl (st_move (v := .d _) rfl rfl rfl ?_)
    refine sops_yes rfl rfl rfl rfl (st_bin rfl rfl rfl rfl rfl ?_)
    refine sops_go rfl (st_pick (v := .d _) rfl rfl rfl rfl ?_)
    refine sops_nil ?_
    exact ⟨rfl, rfl, rfl, rfl, [_, _], rfl, rfl⟩
  case b10 =>
    refine sops_no rfl rfl rfl rfl rfl ?_
    refine sops_no rfl rfl rfl rfl rfl ?_
    refine sops_go rfl (st_pick (v := .d _) rfl rfl rfl rfl ?_)
    refine sops_nil ?_
    exact ⟨rfl, rfl, rfl, rfl, [_, _], rfl, rfl⟩
  refine sops_nil ?_
  refine swp_cond _ rfl (fun hc13 => ?_) (fun hc13 => ?_)
  · rw [if_pos hc13] at hS
    refine swp_seq ?_
    refine swp_region ?_
    refine sops_go rfl (st_assign (v := .d _) rfl rfl rfl ?_)
    refine sops_nil ?_
    refine swp_ret ?_
    with_reducible refine after_ret ?_
    exact fin_b rfl rfl hS
  · rw [if_neg (by rw [hc13]; simp)] at hS
    refine swp_skip ?_
    refine swp_seq ?_
    refine swp_seq ?_
    refine swp_region ?_
    refine sops_go rfl (st_move (v := .d _) rfl rfl rfl ?_)
    refine sops_go rfl (st_bin rfl rfl rfl rfl rfl ?_)
    refine sops_go rfl (st_move (v := .d _) rfl rfl rfl ?_)
    refine' sops_and (d := 16) (p := 19) [17, 18] 3 rfl rfl rfl (fun hb16 => ?a16) (fun hb16 => ?b16) ?_
    case a16 =>
      first | refine sops_yes rfl rfl rfl rfl (so_fieldAddr (v := .p _ _ _) rfl rfl rfl rfl rfl rfl rfl rfl rfl rfl ?_) | refine sops_yes rfl rfl rfl rfl (so_fieldAddr (v := .dp _ _) rfl rfl rfl rfl rfl rfl rfl rfl rfl rfl ?_) | refine sops_yes rfl rfl rfl rfl (so_fieldAddr (v := .pe _ _ _ _ _) rfl rfl rfl rfl rfl rfl rfl rfl rfl rfl ?_)
      refine sops_yes rfl rfl rfl rfl (so_load (v := .d _) rfl rfl rfl rfl rfl rfl rfl rfl ?_)
      refine sops_go rfl (st_pick (v := .d _) rfl rfl rfl rfl ?_)
      refine sops_nil ?_
      exact ⟨rfl, rfl, rfl, rfl, [_, _], rfl, rfl⟩
    case b16 =>
      refine sops_no rfl rfl rfl rfl rfl ?_
      refine sops_no rfl rfl rfl rfl rfl ?_
      refine sops_go rfl (st_pick (v := .d _) rfl rfl rfl rfl ?_)
      refine sops_nil ?_
      exact ⟨rfl, rfl, rfl, rfl, [_, _], rfl, rfl⟩
    refine sops_go rfl (st_move (v := .d _) rfl rfl rfl ?_)
    refine' sops_or (d := 20) (p := 29) [21, 22, 23, 24, 25, 26, 27, 28] 9 rfl rfl rfl (fun hb20 => ?a20) (fun hb20 => ?b20) ?_
    case a20 =>
      refine sops_yes rfl rfl rfl rfl (st_move (v := .d _) rfl rfl rfl ?_)
      refine sops_yes rfl rfl rfl rfl (st_bin rfl rfl rfl rfl rfl ?_)
      refine sops_yes rfl rfl rfl rfl (st_move (v := .d _) rfl rfl rfl ?_)
      refine' sops_and (d := 23) (p := 28) [24, 25, 26, 27] 5 rfl rfl rfl (fun hb23 => ?a23) (fun hb23 => ?b23) ?_
      case a23 =>
        first | refine sops_yes rfl rfl rfl rfl (so_fieldAddr (v := .p _ _ _) rfl rfl rfl rfl rfl rfl rfl rfl rfl rfl ?_) | refine sops_yes rfl rfl rfl rfl (so_fieldAddr (v := .dp _ _) rfl rfl rfl rfl rfl rfl rfl rfl rfl rfl ?_) | refine sops_yes rfl rfl rfl rfl (so_fieldAddr (v := .pe _ _ _ _ _) rfl rfl rfl rfl rfl rfl rfl rfl rfl rfl ?_)
        first | refine sops_yes rfl rfl rfl rfl (so_load (v := .d (.agg [_, _, _])) rfl rfl rfl rfl rfl rfl rfl rfl ?_) | refine sops_yes rfl rfl rfl rfl (so_load (v := .agg [_, _, _]) rfl rfl rfl rfl rfl rfl rfl rfl ?_)
        first | refine sops_yes rfl rfl rfl rfl (so_load (v := .d (.agg [_, _, _])) rfl rfl rfl rfl rfl rfl rfl rfl ?_) | refine sops_yes rfl rfl rfl rfl (so_load (v := .agg [_, _, _]) rfl rfl rfl rfl rfl rfl rfl rfl ?_)
        refine sops_yes rfl rfl rfl rfl (so_neT rfl [29] (by kernel_rfl) fitsAll (by kernel_rfl) rfl rfl rfl rfl rfl rfl rfl rfl rfl rfl (b := zNum neg digits exp) rfl ?_)
        refine sops_yes rfl rfl rfl rfl (st_pick (v := .d _) rfl rfl rfl rfl ?_)
        refine sops_nil ?_
        exact ⟨rfl, rfl, rfl, rfl, [_, _, _, _], rfl, rfl⟩
      case b23 =>
        refine sops_no rfl rfl rfl rfl rfl ?_
        refine sops_no rfl rfl rfl rfl rfl ?_
        refine sops_no rfl rfl rfl rfl rfl ?_
        refine sops_no rfl rfl rfl rfl rfl ?_
        refine sops_yes rfl rfl rfl rfl (st_pick (v := .d _) rfl rfl rfl rfl ?_)
        refine sops_nil ?_
        exact ⟨rfl, rfl, rfl, rfl, [_, _, _, _], rfl, rfl⟩
      refine sops_go rfl (st_pick (v := .d _) rfl rfl rfl rfl ?_)
      refine sops_nil ?_
      exact ⟨rfl, rfl, rfl, rfl, [_, _, _, _, _, _, _, _], rfl, rfl⟩
    case b20 =>
      refine sops_no rfl rfl rfl rfl rfl ?_
      refine sops_no rfl rfl rfl rfl rfl ?_
      refine sops_no rfl rfl rfl rfl rfl ?_
      refine sops_un rfl rfl rfl rfl rfl ?_
      refine sops_un rfl rfl rfl rfl rfl ?_
      refine sops_un rfl rfl rfl rfl rfl ?_
      refine sops_un rfl rfl rfl rfl rfl ?_
      refine sops_no rfl rfl rfl rfl rfl ?_
      refine sops_go rfl (st_pick (v := .d _) rfl rfl rfl rfl ?_)
      refine sops_nil ?_
      exact ⟨rfl, rfl, rfl, rfl, [_, _, _, _, _, _, _, _], rfl, rfl⟩
    refine sops_go rfl (st_move (v := .d _) rfl rfl rfl ?_)
    refine' sops_or (d := 30) (p := 38) [31, 32, 33, 34, 35, 36, 37] 8 rfl rfl rfl (fun hb30 => ?a30) (fun hb30 => ?b30) ?_
    case a30 =>
      refine sops_yes rfl rfl rfl rfl (st_move (v := .d _) rfl rfl rfl ?_)
      refine sops_yes rfl rfl rfl rfl (st_bin rfl rfl rfl rfl rfl ?_)
      refine sops_yes rfl rfl rfl rfl (st_move (v := .d _) rfl rfl rfl ?_)
      refine' sops_and (d := 33) (p := 37) [34, 35, 36] 4 rfl rfl rfl (fun hb33 => ?a33) (fun hb33 => ?b33) ?_
      case a33 =>
        first | refine sops_yes rfl rfl rfl rfl (so_fieldAddr (v := .p _ _ _) rfl rfl rfl rfl rfl rfl rfl rfl rfl rfl ?_) | refine sops_yes rfl rfl rfl rfl (so_fieldAddr (v := .dp _ _) rfl rfl rfl rfl rfl rfl rfl rfl rfl rfl ?_) | refine sops_yes rfl rfl rfl rfl (so_fieldAddr (v := .pe _ _ _ _ _) rfl rfl rfl rfl rfl rfl rfl rfl rfl rfl ?_)
        refine sops_yes rfl rfl rfl rfl (so_load (v := .d _) rfl rfl rfl rfl rfl rfl rfl rfl ?_)
        refine sops_yes rfl rfl rfl rfl (st_bin rfl rfl rfl rfl rfl ?_)
        refine sops_yes rfl rfl rfl rfl (st_pick (v := .d _) rfl rfl rfl rfl ?_)
        refine sops_nil ?_
        exact ⟨rfl, rfl, rfl, rfl, [_, _, _], rfl, rfl⟩
      case b33 =>
        refine sops_no rfl rfl rfl rfl rfl ?_
        refine sops_no rfl rfl rfl rfl rfl ?_
        refine sops_no rfl rfl rfl rfl rfl ?_
        refine sops_yes rfl rfl rfl rfl (st_pick (v := .d _) rfl rfl rfl rfl ?_)
        refine sops_nil ?_
        exact ⟨rfl, rfl, rfl, rfl, [_, _, _], rfl, rfl⟩
      refine sops_go rfl (st_pick (v := .d _) rfl rfl rfl rfl ?_)
      refine sops_nil ?_
      exact ⟨rfl, rfl, rfl, rfl, [_, _, _, _, _, _, _], rfl, rfl⟩
    case b30 =>
      refine sops_no rfl rfl rfl rfl rfl ?_
      refine sops_no rfl rfl rfl rfl rfl ?_
      refine sops_no rfl rfl rfl rfl rfl ?_
      refine sops_un rfl rfl rfl rfl rfl ?_
      refine sops_un rfl rfl rfl rfl rfl ?_
      refine sops_un rfl rfl rfl rfl rfl ?_
      refine sops_no rfl rfl rfl rfl rfl ?_
      refine sops_go rfl (st_pick (v := .d _) rfl rfl rfl rfl ?_)
      refine sops_nil ?_
      exact ⟨rfl, rfl, rfl, rfl, [_, _, _, _, _, _, _], rfl, rfl⟩
    refine sops_nil ?_
    refine swp_cond _ rfl (fun hc38 => ?_) (fun hc38 => ?_)
    · rw [if_pos hc38] at hS
      refine swp_seq ?_
      refine swp_region ?_
      refine sops_go rfl (st_assign (v := .d _) rfl rfl rfl ?_)
      refine sops_nil ?_
      refine swp_ret ?_
      with_reducible refine after_ret ?_
      exact fin_b rfl rfl hS
    · rw [if_neg (by rw [hc38]; simp)] at hS
      refine swp_skip ?_
      refine swp_seq ?_
      refine swp_seq ?_
      refine swp_region ?_
      refine sops_go rfl (st_move (v := .d _) rfl rfl rfl ?_)
      refine sops_go rfl (st_bin rfl rfl rfl rfl rfl ?_)
      refine sops_go rfl (st_move (v := .d _) rfl rfl rfl ?_)
      refine' sops_and (d := 41) (p := 44) [42, 43] 3 rfl rfl rfl (fun hb41 => ?a41) (fun hb41 => ?b41) ?_
      case a41 =>
        refine sops_yes rfl rfl rfl rfl (st_move (v := .d _) rfl rfl rfl ?_)
        refine sops_yes rfl rfl rfl rfl (st_bin rfl rfl rfl rfl rfl ?_)
        refine sops_go rfl (st_pick (v := .d _) rfl rfl rfl rfl ?_)
        refine sops_nil ?_
        exact ⟨rfl, rfl, rfl, rfl, [_, _], rfl, rfl⟩
      case b41 =>
        refine sops_no rfl rfl rfl rfl rfl ?_
        refine sops_no rfl rfl rfl rfl rfl ?_
        refine sops_go rfl (st_pick (v := .d _) rfl rfl rfl rfl ?_)
        refine sops_nil ?_
        exact ⟨rfl, rfl, rfl, rfl, [_, _], rfl, rfl⟩
      refine sops_go rfl (st_move (v := .d _) rfl rfl rfl ?_)
      refine' sops_and (d := 45) (p := 48) [46, 47] 3 rfl rfl rfl (fun hb45 => ?a45) (fun hb45 => ?b45) ?_
      case a45 =>
        refine sops_yes rfl rfl rfl rfl (st_move (v := .d _) rfl rfl rfl ?_)
        refine sops_yes rfl rfl rfl rfl (st_bin rfl rfl rfl rfl rfl ?_)
        refine sops_go rfl (st_pick (v := .d _) rfl rfl rfl rfl ?_)
        refine sops_nil ?_
        exact ⟨rfl, rfl, rfl, rfl, [_, _], rfl, rfl⟩
      case b45 =>
        refine sops_no rfl rfl rfl rfl rfl ?_
        refine sops_no rfl rfl rfl rfl rfl ?_
        refine sops_go rfl (st_pick (v := .d _) rfl rfl rfl rfl ?_)
        refine sops_nil ?_
        exact ⟨rfl, rfl, rfl, rfl, [_, _], rfl, rfl⟩
      refine sops_go rfl (st_move (v := .d _) rfl rfl rfl ?_)
      refine' sops_and (d := 49) (p := 53) [50, 51, 52] 4 rfl rfl rfl (fun hb49 => ?a49) (fun hb49 => ?b49) ?_
      case a49 =>
        first | refine sops_yes rfl rfl rfl rfl (so_fieldAddr (v := .p _ _ _) rfl rfl rfl rfl rfl rfl rfl rfl rfl rfl ?_) | refine sops_yes rfl rfl rfl rfl (so_fieldAddr (v := .dp _ _) rfl rfl rfl rfl rfl rfl rfl rfl rfl rfl ?_) | refine sops_yes rfl rfl rfl rfl (so_fieldAddr (v := .pe _ _ _ _ _) rfl rfl rfl rfl rfl rfl rfl rfl rfl rfl ?_)
        refine sops_yes rfl rfl rfl rfl (so_load (v := .d _) rfl rfl rfl rfl rfl rfl rfl rfl ?_)
        refine sops_yes rfl rfl rfl rfl (st_bin rfl rfl rfl rfl rfl ?_)
        refine sops_go rfl (st_pick (v := .d _) rfl rfl rfl rfl ?_)
        refine sops_nil ?_
        exact ⟨rfl, rfl, rfl, rfl, [_, _, _], rfl, rfl⟩
      case b49 =>
        refine sops_no rfl rfl rfl rfl rfl ?_
        refine sops_no rfl rfl rfl rfl rfl ?_
        refine sops_no rfl rfl rfl rfl rfl ?_
        refine sops_go rfl (st_pick (v := .d _) rfl rfl rfl rfl ?_)
        refine sops_nil ?_
        exact ⟨rfl, rfl, rfl, rfl, [_, _, _], rfl, rfl⟩
      refine sops_go rfl (st_move (v := .d _) rfl rfl rfl ?_)
      refine' sops_or (d := 54) (p := 63) [55, 56, 57, 58, 59, 60, 61, 62] 9 rfl rfl rfl (fun hb54 => ?a54) (fun hb54 => ?b54) ?_
      case a54 =>
        refine sops_yes rfl rfl rfl rfl (st_move (v := .d _) rfl rfl rfl ?_)
        refine sops_yes rfl rfl rfl rfl (st_bin rfl rfl rfl rfl rfl ?_)
        refine sops_yes rfl rfl rfl rfl (st_move (v := .d _) rfl rfl rfl ?_)
        refine' sops_and (d := 57) (p := 62) [58, 59, 60, 61] 5 rfl rfl rfl (fun hb57 => ?a57) (fun hb57 => ?b57) ?_
        case a57 =>
          first | refine sops_yes rfl rfl rfl rfl (so_fieldAddr (v := .p _ _ _) rfl rfl rfl rfl rfl rfl rfl rfl rfl rfl ?_) | refine sops_yes rfl rfl rfl rfl (so_fieldAddr (v := .dp _ _) rfl rfl rfl rfl rfl rfl rfl rfl rfl rfl ?_) | refine sops_yes rfl rfl rfl rfl (so_fieldAddr (v := .pe _ _ _ _ _) rfl rfl rfl rfl rfl rfl rfl rfl rfl rfl ?_)
          first | refine sops_yes rfl rfl rfl rfl (so_load (v := .d _) rfl rfl rfl rfl rfl rfl rfl rfl ?_) | refine sops_yes rfl rfl rfl rfl (so_load (v := .own _ _ _ _ _) rfl rfl rfl rfl rfl rfl rfl rfl ?_)
          refine sops_yes rfl rfl rfl rfl (so_lenSl rfl rfl rfl rfl rfl ?_)
          refine sops_yes rfl rfl rfl rfl (st_bin rfl rfl rfl rfl rfl ?_)
          refine sops_yes rfl rfl rfl rfl (st_pick (v := .d _) rfl rfl rfl rfl ?_)
          refine sops_nil ?_
          exact ⟨rfl, rfl, rfl, rfl, [_, _, _, _], rfl, rfl⟩
        case b57 =>
          refine sops_no rfl rfl rfl rfl rfl ?_
          refine sops_no rfl rfl rfl rfl rfl ?_
          refine sops_no rfl rfl rfl rfl rfl ?_
          refine sops_no rfl rfl rfl rfl rfl ?_
          refine sops_yes rfl rfl rfl rfl (st_pick (v := .d _) rfl rfl rfl rfl ?_)
          refine sops_nil ?_
          exact ⟨rfl, rfl, rfl, rfl, [_, _, _, _], rfl, rfl⟩
        refine sops_go rfl (st_pick (v := .d _) rfl rfl rfl rfl ?_)
        refine sops_nil ?_
        exact ⟨rfl, rfl, rfl, rfl, [_, _, _, _, _, _, _, _], rfl, rfl⟩
      case b54 =>
        refine sops_no rfl rfl rfl rfl rfl ?_
        refine sops_no rfl rfl rfl rfl rfl ?_
        refine sops_no rfl rfl rfl rfl rfl ?_
        refine sops_un rfl rfl rfl rfl rfl ?_
        refine sops_un rfl rfl rfl rfl rfl ?_
        refine sops_un rfl rfl rfl rfl rfl ?_
        refine sops_un rfl rfl rfl rfl rfl ?_
        refine sops_no rfl rfl rfl rfl rfl ?_
        refine sops_go rfl (st_pick (v := .d _) rfl rfl rfl rfl ?_)
        refine sops_nil ?_
        exact ⟨rfl, rfl, rfl, rfl, [_, _, _, _, _, _, _, _], rfl, rfl⟩
      refine sops_nil ?_
      refine swp_cond _ rfl (fun hc63 => ?_) (fun hc63 => ?_)
      · rw [if_pos (show (((((kind != 5) && (kind != 6)) && (kind != 9)) && !(text.toList == noText.toList)) || ((kind != 8) && decide (((strRows names).length : Int) > 0))) = true from hc63)] at hS
        refine swp_seq ?_
        refine swp_region ?_
        refine sops_go rfl (st_assign (v := .d _) rfl rfl rfl ?_)
        refine sops_nil ?_
        refine swp_ret ?_
        with_reducible refine after_ret ?_
        exact fin_b rfl rfl hS
      · rw [if_neg (Bool.eq_false_iff.1 (show (((((kind != 5) && (kind != 6)) && (kind != 9)) && !(text.toList == noText.toList)) || ((kind != 8) && decide (((strRows names).length : Int) > 0))) = false from hc63))] at hS
        refine swp_skip ?_
        refine swp_seq ?_
        refine swp_region ?_
        refine sops_go rfl (st_move (v := .d _) rfl rfl rfl ?_)
        refine sops_go rfl (st_bin rfl rfl rfl rfl rfl ?_)
        refine sops_go rfl (st_move (v := .d _) rfl rfl rfl ?_)
        refine' sops_or (d := 66) (p := 71) [67, 68, 69, 70] 5 rfl rfl rfl (fun hb66 => ?a66) (fun hb66 => ?b66) ?_
        case a66 =>
          first | refine sops_yes rfl rfl rfl rfl (so_fieldAddr (v := .p _ _ _) rfl rfl rfl rfl rfl rfl rfl rfl rfl rfl ?_) | refine sops_yes rfl rfl rfl rfl (so_fieldAddr (v := .dp _ _) rfl rfl rfl rfl rfl rfl rfl rfl rfl rfl ?_) | refine sops_yes rfl rfl rfl rfl (so_fieldAddr (v := .pe _ _ _ _ _) rfl rfl rfl rfl rfl rfl rfl rfl rfl rfl ?_)
          first | refine sops_yes rfl rfl rfl rfl (so_load (v := .d _) rfl rfl rfl rfl rfl rfl rfl rfl ?_) | refine sops_yes rfl rfl rfl rfl (so_load (v := .own _ _ _ _ _) rfl rfl rfl rfl rfl rfl rfl rfl ?_)
          refine sops_yes rfl rfl rfl rfl (so_lenSl rfl rfl rfl rfl rfl ?_)
          refine sops_yes rfl rfl rfl rfl (st_bin rfl rfl rfl rfl rfl ?_)
          refine sops_go rfl (st_pick (v := .d _) rfl rfl rfl rfl ?_)
          refine sops_nil ?_
          exact ⟨rfl, rfl, rfl, rfl, [_, _, _, _], rfl, rfl⟩
        case b66 =>
          refine sops_no rfl rfl rfl rfl rfl ?_
          refine sops_no rfl rfl rfl rfl rfl ?_
          refine sops_no rfl rfl rfl rfl rfl ?_
          refine sops_no rfl rfl rfl rfl rfl ?_
          refine sops_go rfl (st_pick (v := .d _) rfl rfl rfl rfl ?_)
          refine sops_nil ?_
          exact ⟨rfl, rfl, rfl, rfl, [_, _, _, _], rfl, rfl⟩
        refine sops_go rfl (st_assign (v := .d _) rfl rfl rfl ?_)
        refine sops_nil ?_
        refine swp_ret ?_
        exact fin_b rfl rfl hS

def V.rown : V → Bool
  | .mk kind flag neg digits exp bits text names list =>
    if (kind == 3) = true then isNum neg digits exp
    else if (kind == 5) = true then utfOk text
    else if (kind == 9) = true then (utfOk text && ((list.length : Int) == 1))
    else if (kind == 8) = true then (names.all utfOk && (((names.length : Int) == (list.length : Int)) && apart names))
    else true
theorem rown_pure (t : V) (hf : t.fit) (s : Bool) : Pure env 65 [.d (t.df s)] (.d (.v (.bool t.rown))) := by
  obtain ⟨kind, flag, neg, digits, exp, bits, text, names, list⟩ := t
  obtain ⟨hf1, hf2, hf3, hf4⟩ := hf
  have hS : (V.mk kind flag neg digits exp bits text names list).rown = if (kind == 3) = true then isNum neg digits exp
    else if (kind == 5) = true then utfOk text
    else if (kind == 9) = true then (utfOk text && ((list.length : Int) == 1))
    else if (kind == 8) = true then (names.all utfOk && (((names.length : Int) == (list.length : Int)) && apart names))
    else true := rfl
  rw [← strRows_len names, ← V.rows_len list] at hS
  have c1 := isNum_pure neg digits exp hf1
  have c2 := uvalid_pure text hf2
  rw [uvalid_utf] at c2
  have c3 := unlike_pure s names
  refine pure_of_body Tryz.func65 rfl rfl rfl fun B hB => ?_
  refine swp_seq ?_
  refine swp_region ?_
  refine sops_go rfl (so_box (cs := [_, _, _, _, _, _, _, _, _]) rfl rfl rfl ?_)
  refine sops_go rfl (st_assign (v := .d _) rfl rfl rfl ?_)
  refine sops_nil ?_
  refine swp_seq ?_
  refine swp_seq ?_
  refine swp_region ?_
  first | refine sops_go rfl (so_fieldAddr (v := .p _ _ _) rfl rfl rfl rfl rfl rfl rfl rfl rfl rfl ?_) | refine sops_go rfl (so_fieldAddr (v := .dp _ _) rfl rfl rfl rfl rfl rfl rfl rfl rfl rfl ?_) | refine sops_go rfl (so_fieldAddr (v := .pe _ _ _ _ _) rfl rfl rfl rfl rfl rfl rfl rfl rfl rfl ?_)
  refine sops_go rfl (so_load (v := .d _) rfl rfl rfl rfl rfl rfl rfl rfl ?_)
  refine sops_nil ?_
  refine swp_block ?_
  refine swp_seq ?_
  refine swp_region ?_
  refine sops_go rfl (st_bin rfl rfl rfl rfl rfl ?_)
  refine sops_go rfl (st_assign (v := .d _) rfl rfl rfl ?_)
  refine sops_nil ?_
  refine swp_cond _ rfl (fun hc6 => ?_) (fun hc6 => ?_)
  · rw [if_pos hc6] at hS
    refine swp_seq ?_
    refine swp_region ?_
    first | refine sops_go rfl (so_fieldAddr (v := .p _ _ _) rfl rfl rfl rfl rfl rfl rfl rfl rfl rfl ?_) | refine sops_go rfl (so_fieldAddr (v := .dp _ _) rfl rfl rfl rfl rfl rfl rfl rfl rfl rfl ?_) | refine sops_go rfl (so_fieldAddr (v := .pe _ _ _ _ _) rfl rfl rfl rfl rfl rfl rfl rfl rfl rfl ?_)
    first | refine sops_go rfl (so_load (v := .d (.agg [_, _, _])) rfl rfl rfl rfl rfl rfl rfl rfl ?_) | refine sops_go rfl (so_load (v := .agg [_, _, _]) rfl rfl rfl rfl rfl rfl rfl rfl ?_)
    refine sops_go rfl (st_call rfl rfl (c1) ⟨na_d _, trivial⟩ rfl ?_)
    refine sops_go rfl (st_assign (v := .d _) rfl rfl rfl ?_)
    refine sops_nil ?_
    refine swp_ret ?_
    with_reducible refine inblk_ret ?_
    with_reducible refine after_ret ?_
    exact fin_b rfl rfl hS
  · rw [if_neg (by rw [hc6]; simp)] at hS
    refine swp_seq ?_
    refine swp_region ?_
    refine sops_go rfl (st_bin rfl rfl rfl rfl rfl ?_)
    refine sops_go rfl (st_assign (v := .d _) rfl rfl rfl ?_)
    refine sops_nil ?_
    refine swp_cond _ rfl (fun hc11 => ?_) (fun hc11 => ?_)
    · rw [if_pos hc11] at hS
      refine swp_seq ?_
      refine swp_region ?_
      first | refine sops_go rfl (so_fieldAddr (v := .p _ _ _) rfl rfl rfl rfl rfl rfl rfl rfl rfl rfl ?_) | refine sops_go rfl (so_fieldAddr (v := .dp _ _) rfl rfl rfl rfl rfl rfl rfl rfl rfl rfl ?_) | refine sops_go rfl (so_fieldAddr (v := .pe _ _ _ _ _) rfl rfl rfl rfl rfl rfl rfl rfl rfl rfl ?_)
      refine sops_go rfl (so_load (v := .d _) rfl rfl rfl rfl rfl rfl rfl rfl ?_)
      refine sops_go rfl (st_call rfl rfl (c2) ⟨na_d _, trivial⟩ rfl ?_)
      refine sops_go rfl (st_assign (v := .d _) rfl rfl rfl ?_)
      refine sops_nil ?_
      refine swp_ret ?_
      with_reducible refine inblk_ret ?_
      with_reducible refine after_ret ?_
      exact fin_b rfl rfl hS
    · rw [if_neg (by rw [hc11]; simp)] at hS
      refine swp_seq ?_
      refine swp_region ?_
      refine sops_go rfl (st_bin rfl rfl rfl rfl rfl ?_)
      refine sops_go rfl (st_assign (v := .d _) rfl rfl rfl ?_)
      refine sops_nil ?_
      refine swp_cond _ rfl (fun hc16 => ?_) (fun hc16 => ?_)
      · rw [if_pos hc16] at hS
        refine swp_seq ?_
        refine swp_region ?_
        first | refine sops_go rfl (so_fieldAddr (v := .p _ _ _) rfl rfl rfl rfl rfl rfl rfl rfl rfl rfl ?_) | refine sops_go rfl (so_fieldAddr (v := .dp _ _) rfl rfl rfl rfl rfl rfl rfl rfl rfl rfl ?_) | refine sops_go rfl (so_fieldAddr (v := .pe _ _ _ _ _) rfl rfl rfl rfl rfl rfl rfl rfl rfl rfl ?_)
        refine sops_go rfl (so_load (v := .d _) rfl rfl rfl rfl rfl rfl rfl rfl ?_)
        refine sops_go rfl (st_call rfl rfl (c2) ⟨na_d _, trivial⟩ rfl ?_)
        refine sops_go rfl (st_move (v := .d _) rfl rfl rfl ?_)
        refine' sops_and (d := 21) (p := 26) [22, 23, 24, 25] 5 rfl rfl rfl (fun hb21 => ?a21) (fun hb21 => ?b21) ?_
        case a21 =>
          first | refine sops_yes rfl rfl rfl rfl (so_fieldAddr (v := .p _ _ _) rfl rfl rfl rfl rfl rfl rfl rfl rfl rfl ?_) | refine sops_yes rfl rfl rfl rfl (so_fieldAddr (v := .dp _ _) rfl rfl rfl rfl rfl rfl rfl rfl rfl rfl ?_) | refine sops_yes rfl rfl rfl rfl (so_fieldAddr (v := .pe _ _ _ _ _) rfl rfl rfl rfl rfl rfl rfl rfl rfl rfl ?_)
          first | refine sops_yes rfl rfl rfl rfl (so_load (v := .d _) rfl rfl rfl rfl rfl rfl rfl rfl ?_) | refine sops_yes rfl rfl rfl rfl (so_load (v := .own _ _ _ _ _) rfl rfl rfl rfl rfl rfl rfl rfl ?_)
          refine sops_yes rfl rfl rfl rfl (so_lenSl rfl rfl rfl rfl rfl ?_)
          refine sops_yes rfl rfl rfl rfl (st_bin rfl rfl rfl rfl rfl ?_)
          refine sops_go rfl (st_pick (v := .d _) rfl rfl rfl rfl ?_)
          refine sops_nil ?_
          exact ⟨rfl, rfl, rfl, rfl, [_, _, _, _], rfl, rfl⟩
        case b21 =>
          refine sops_no rfl rfl rfl rfl rfl ?_
          refine sops_no rfl rfl rfl rfl rfl ?_
          refine sops_no rfl rfl rfl rfl rfl ?_
          refine sops_no rfl rfl rfl rfl rfl ?_
          refine sops_go rfl (st_pick (v := .d _) rfl rfl rfl rfl ?_)
          refine sops_nil ?_
          exact ⟨rfl, rfl, rfl, rfl, [_, _, _, _], rfl, rfl⟩
        refine sops_go rfl (st_assign (v := .d _) rfl rfl rfl ?_)
        refine sops_nil ?_
        refine swp_ret ?_
        with_reducible refine inblk_ret ?_
        with_reducible refine after_ret ?_
        exact fin_b rfl rfl hS
      · rw [if_neg (by rw [hc16]; simp)] at hS
        refine swp_seq ?_
        refine swp_region ?_
        refine sops_go rfl (st_bin rfl rfl rfl rfl rfl ?_)
        refine sops_go rfl (st_assign (v := .d _) rfl rfl rfl ?_)
        refine sops_nil ?_
        refine swp_cond _ rfl (fun hc27 => ?_) (fun hc27 => ?_)
        · rw [if_pos hc27] at hS
          refine swp_seq ?_
          refine swp_seq ?_
          refine swp_region ?_
          refine sops_go rfl (st_assign (v := .d _) rfl rfl rfl ?_)
          refine sops_nil ?_
          refine swp_block ?_
          refine swp_len (l := 0) (i := 7) rfl rfl rfl fun hnl => ?_
          rw [strRows_len] at hnl
          refine swp_loopF (F := fun k : Nat => { t := upd (upd (fun _ => .any) 1 (.p 0 0 0)) 3 (.d (.v (.int .i64 k))), n := 55, h := upd (fun _ => .dead) 0 (.cells [.any, .any, .any, .any, .any, .any, .any, .d (.sl s (strRows names)), .d (.sl s (V.rows list))]), nx := 1 })
            (fun k => k ≤ names.length ∧ (names.take k).all utfOk = true) (fun k => names.length - k) 0 ⟨Nat.zero_le _, rfl⟩ ?_ ?_
          · refine wk_of rfl (Nat.le_of_ble_eq_true rfl) (by rw [hB]; exact Nat.zero_le _) (tle_upd (le_eq rfl rfl) (tle_upd (le_eq rfl rfl) (tle_any _))) (hle_upd (.cells _ _ ⟨le_any _, le_any _, le_any _, le_any _, le_any _, le_any _, le_any _, le_eq rfl rfl, le_eq rfl rfl, trivial⟩) (hle_dead _)) (dead_upd (Nat.le_of_ble_eq_true rfl) (dead_none))
          rintro k ⟨hk, ha⟩
          refine swp_seq ?_
          refine swp_seq ?_
          refine swp_region ?_
          refine sops_go rfl (st_move (v := .d _) rfl rfl rfl ?_)
          first | refine sops_go rfl (so_fieldAddr (v := .p _ _ _) rfl rfl rfl rfl rfl rfl rfl rfl rfl rfl ?_) | refine sops_go rfl (so_fieldAddr (v := .dp _ _) rfl rfl rfl rfl rfl rfl rfl rfl rfl rfl ?_) | refine sops_go rfl (so_fieldAddr (v := .pe _ _ _ _ _) rfl rfl rfl rfl rfl rfl rfl rfl rfl rfl ?_)
          first | refine sops_go rfl (so_load (v := .d _) rfl rfl rfl rfl rfl rfl rfl rfl ?_) | refine sops_go rfl (so_load (v := .own _ _ _ _ _) rfl rfl rfl rfl rfl rfl rfl rfl ?_)
          refine sops_go rfl (so_lenSl rfl rfl rfl rfl rfl ?_)
          refine sops_go rfl (st_bin rfl rfl rfl rfl rfl ?_)
          refine sops_nil ?_
          refine swp_cond _ rfl (fun hc33 => ?_) (fun hc33 => ?_)
          · have hlt : k < names.length := by have := of_decide_eq_true hc33; rw [strRows_len] at this; omega
            have hat := all_take utfOk names k hlt
            have hmem := List.getElem_mem hlt
            have cv := uvalid_pure _ (hf3 _ hmem)
            rw [uvalid_utf] at cv
            refine swp_skip ?_
            refine swp_seq ?_
            refine swp_block ?_
            refine swp_seq ?_
            refine swp_region ?_
            first | refine sops_go rfl (so_fieldAddr (v := .p _ _ _) rfl rfl rfl rfl rfl rfl rfl rfl rfl rfl ?_) | refine sops_go rfl (so_fieldAddr (v := .dp _ _) rfl rfl rfl rfl rfl rfl rfl rfl rfl rfl ?_) | refine sops_go rfl (so_fieldAddr (v := .pe _ _ _ _ _) rfl rfl rfl rfl rfl rfl rfl rfl rfl rfl ?_)
            first | refine sops_go rfl (so_load (v := .d _) rfl rfl rfl rfl rfl rfl rfl rfl ?_) | refine sops_go rfl (so_load (v := .own _ _ _ _ _) rfl rfl rfl rfl rfl rfl rfl rfl ?_)
            refine sops_go rfl (st_move (v := .d _) rfl rfl rfl ?_)
            refine sops_go rfl (so_indexSl rfl rfl rfl rfl rfl rfl rfl (strRows_all _) (by omega) (by rw [strRows_len]; omega) (strRows_get _ _ hlt) ?_)
            refine sops_go rfl (so_load (v := .d _) rfl rfl rfl rfl rfl rfl rfl rfl ?_)
            refine sops_go rfl (st_call rfl rfl (cv) ⟨na_d _, trivial⟩ rfl ?_)
            refine sops_go rfl (st_not rfl rfl rfl ?_)
            refine sops_nil ?_
            refine swp_cond _ rfl (fun hc42 => ?_) (fun hc42 => ?_)
            · refine swp_seq ?_
              refine swp_region ?_
              refine sops_go rfl (st_assign (v := .d _) rfl rfl rfl ?_)
              refine sops_nil ?_
              refine swp_ret ?_
              with_reducible refine inblk_ret ?_
              with_reducible refine after_ret ?_
              with_reducible refine after_ret ?_
              with_reducible refine inblk_ret ?_
              with_reducible refine after_ret ?_
              with_reducible refine inblk_ret ?_
              with_reducible refine after_ret ?_
              refine fin_b rfl rfl ?_
              rw [hS]
              have : names.all utfOk = false := Bool.eq_false_iff.2 fun h => by
                have := List.all_eq_true.1 h _ hmem
                rw [this] at hc42; cases hc42
              rw [this]; rfl
            · refine swp_skip ?_
              refine swp_region ?_
              refine sops_go rfl (st_move (v := .d _) rfl rfl rfl ?_)
              refine sops_go rfl (st_bin rfl rfl rfl rfl rfl ?_)
              refine sops_go rfl (st_assign (v := .d _) rfl rfl rfl ?_)
              refine sops_nil ?_
              refine ⟨k + 1, ⟨hlt, by rw [hat, ha]; simpa using hc42⟩, by omega, ?_⟩
              refine wk_of rfl (Nat.le_of_ble_eq_true rfl) (by rw [hB]; exact Nat.zero_le _) (tle_upd (le_eq (next_i64 hlt hnl) rfl) (tle_upd (le_eq rfl rfl) (tle_any _))) (hle_upd (.cells _ _ ⟨le_any _, le_any _, le_any _, le_any _, le_any _, le_any _, le_any _, le_eq rfl rfl, le_eq rfl rfl, trivial⟩) (hle_dead _)) (dead_upd (Nat.le_of_ble_eq_true rfl) (dead_none))
          · have he : k = names.length := by have := of_decide_eq_false hc33; rw [strRows_len] at this; omega
            rw [he, List.take_length] at ha
            rw [ha, Bool.true_and] at hS
            refine swp_exit ?_
            with_reducible refine after_exit ?_
            with_reducible refine after_exit ?_
            refine inblk_hit ?_
            refine swp_seq ?_
            refine swp_region ?_
            first | refine sops_go rfl (so_fieldAddr (v := .p _ _ _) rfl rfl rfl rfl rfl rfl rfl rfl rfl rfl ?_) | refine sops_go rfl (so_fieldAddr (v := .dp _ _) rfl rfl rfl rfl rfl rfl rfl rfl rfl rfl ?_) | refine sops_go rfl (so_fieldAddr (v := .pe _ _ _ _ _) rfl rfl rfl rfl rfl rfl rfl rfl rfl rfl ?_)
            first | refine sops_go rfl (so_load (v := .d _) rfl rfl rfl rfl rfl rfl rfl rfl ?_) | refine sops_go rfl (so_load (v := .own _ _ _ _ _) rfl rfl rfl rfl rfl rfl rfl rfl ?_)
            refine sops_go rfl (so_lenSl rfl rfl rfl rfl rfl ?_)
            first | refine sops_go rfl (so_fieldAddr (v := .p _ _ _) rfl rfl rfl rfl rfl rfl rfl rfl rfl rfl ?_) | refine sops_go rfl (so_fieldAddr (v := .dp _ _) rfl rfl rfl rfl rfl rfl rfl rfl rfl rfl ?_) | refine sops_go rfl (so_fieldAddr (v := .pe _ _ _ _ _) rfl rfl rfl rfl rfl rfl rfl rfl rfl rfl ?_)
            first | refine sops_go rfl (so_load (v := .d _) rfl rfl rfl rfl rfl rfl rfl rfl ?_) | refine sops_go rfl (so_load (v := .own _ _ _ _ _) rfl rfl rfl rfl rfl rfl rfl rfl ?_)
            refine sops_go rfl (so_lenSl rfl rfl rfl rfl rfl ?_)
            refine sops_go rfl (st_bin rfl rfl rfl rfl rfl ?_)
            refine sops_go rfl (st_move (v := .d _) rfl rfl rfl ?_)
            refine' sops_and (d := 50) (p := 54) [51, 52, 53] 4 rfl rfl rfl (fun hb50 => ?a50) (fun hb50 => ?b50) ?_
            case a50 =>
              first | refine sops_yes rfl rfl rfl rfl (so_fieldAddr (v := .p _ _ _) rfl rfl rfl rfl rfl rfl rfl rfl rfl rfl ?_) | refine sops_yes rfl rfl rfl rfl (so_fieldAddr (v := .dp _ _) rfl rfl rfl rfl rfl rfl rfl rfl rfl rfl ?_) | refine sops_yes rfl rfl rfl rfl (so_fieldAddr (v := .pe _ _ _ _ _) rfl rfl rfl rfl rfl rfl rfl rfl rfl rfl ?_)
              first | refine sops_yes rfl rfl rfl rfl (so_load (v := .d _) rfl rfl rfl rfl rfl rfl rfl rfl ?_) | refine sops_yes rfl rfl rfl rfl (so_load (v := .own _ _ _ _ _) rfl rfl rfl rfl rfl rfl rfl rfl ?_)
              refine sops_yes rfl rfl rfl rfl (st_call rfl rfl (c3) ⟨na_d _, trivial⟩ rfl ?_)
              refine sops_go rfl (st_pick (v := .d _) rfl rfl rfl rfl ?_)
              refine sops_nil ?_
              exact ⟨rfl, rfl, rfl, rfl, [_, _, _], rfl, rfl⟩
            case b50 =>
              refine sops_no rfl rfl rfl rfl rfl ?_
              refine sops_no rfl rfl rfl rfl rfl ?_
              refine sops_no rfl rfl rfl rfl rfl ?_
              refine sops_go rfl (st_pick (v := .d _) rfl rfl rfl rfl ?_)
              refine sops_nil ?_
              exact ⟨rfl, rfl, rfl, rfl, [_, _, _], rfl, rfl⟩
            refine sops_go rfl (st_assign (v := .d _) rfl rfl rfl ?_)
            refine sops_nil ?_
            refine swp_ret ?_
            with_reducible refine inblk_ret ?_
            with_reducible refine after_ret ?_
            exact fin_b rfl rfl hS
        · rw [if_neg (by rw [hc27]; simp)] at hS
          refine swp_skip ?_
          refine swp_seq ?_
          refine swp_region ?_
          refine sops_go rfl (st_assign (v := .d _) rfl rfl rfl ?_)
          refine sops_nil ?_
          refine swp_ret ?_
          exact fin_b rfl rfl hS
end Go.Proofs.YtdcpnpcmgfmenaaGreatDoor
/-
  The document's values are the program's. No program in sight. Conditions: none.
-/
set_option linter.unusedVariables false
set_option maxRecDepth 100000
namespace Go.Proofs.YtdcpnpcmgfmenaaGreatDoor
open Go Go.Proofs.YtdcpnpcmgfmenaaGreatDoor.Lg

theorem toList_nil (s : ByteArray) : (s.toList == noText.toList) = decide (s.size = 0) := by
  rw [ByteArray.toList_eq, Bool.eq_iff_iff, beq_iff_eq, decide_eq_true_eq]
  have h2 : noText.toList = [] := by rw [ByteArray.toList_eq]; rfl
  rw [h2]
  constructor
  · intro h; have := congrArg List.length h; simpa using this
  · intro h; exact List.eq_nil_of_length_eq_zero (by simpa using h)
theorem dw_nil {α : Type} (p : α → Bool) : ∀ l : List α, l.dropWhile p = [] ↔ ∀ x ∈ l, p x = true
  | [] => by simp
  | a :: l => by
    by_cases h : p a = true
    · simp [List.dropWhile_cons, h, dw_nil p l]
    · simp [List.dropWhile_cons, h]
theorem tw_mem {α : Type} (p : α → Bool) : ∀ (l : List α) (x : α), x ∈ l.takeWhile p → p x = true
  | a :: l, x, h => by
    by_cases hp : p a = true
    · rw [List.takeWhile_cons, if_pos hp] at h
      rcases List.mem_cons.1 h with rfl | h
      · exact hp
      · exact tw_mem p l x h
    · rw [List.takeWhile_cons, if_neg hp] at h; simp at h
theorem trimS_nil (l cs : List UInt8) : Lib.trimS l cs = [] ↔ ∀ b ∈ l, cs.contains b = true := by
  unfold Lib.trimS Lib.trimLeftS Lib.trimRightS
  rw [dw_nil]
  constructor
  · intro h b hb
    by_cases hc : cs.contains b = true
    · exact hc
    · refine h b ?_
      rw [List.mem_reverse]
      have hm : b ∈ l.reverse := List.mem_reverse.2 hb
      rw [← List.takeWhile_append_dropWhile (p := (cs.contains ·)) (l := l.reverse)] at hm
      rcases List.mem_append.1 hm with h1 | h1
      · exact absurd (tw_mem _ _ _ h1) hc
      · exact h1
  · intro h b hb
    rw [List.mem_reverse] at hb
    exact h b (List.mem_reverse.1 ((List.dropWhile_sublist _).mem hb))
theorem allDig_iff (s : ByteArray) : ∀ k, allDig s k = true ↔ ∀ i, i < k → 48 ≤ byteAt s i ∧ byteAt s i ≤ 57
  | 0 => by simp [allDig]
  | k + 1 => by
    rw [allDig, Bool.and_eq_true, allDig_iff s k]
    constructor
    · rintro ⟨h1, h2⟩ i hi
      rcases Nat.lt_or_ge i k with h | h
      · exact h1 i h
      · obtain rfl : i = k := by omega
        simp at h2; omega
    · intro h
      refine ⟨fun i hi => h i (by omega), ?_⟩
      have := h k (by omega)
      simp; omega
theorem ten_has (b : UInt8) : tenDigits.data.toList.contains b = true ↔ 48 ≤ b.toNat ∧ b.toNat ≤ 57 := by
  have e : tenDigits.data.toList = [48, 49, 50, 51, 52, 53, 54, 55, 56, 57] := rfl
  rw [e]
  simp only [List.contains_eq_mem, List.mem_cons, List.not_mem_nil, or_false, decide_eq_true_eq, ← UInt8.toNat_inj]
  simp
  omega
theorem byteAt_get (s : ByteArray) (i : Nat) (h : i < s.data.toList.length) : byteAt s i = (s.data.toList[i]).toNat := by
  unfold byteAt
  have h' : i < s.data.size := by simpa using h
  rw [Array.getElem?_eq_getElem h']; simp
theorem numDigits_eq (s : ByteArray) : numDigits s = (allDig s s.size && decide ((s.size : Int) > 0)) := by
  unfold numDigits
  rw [toList_nil, toList_nil, Bool.eq_iff_iff]
  have hsz : s.data.toList.length = s.size := rfl
  have h1 : ((⟨(Lib.trimS s.data.toList tenDigits.data.toList).toArray⟩ : ByteArray).size = 0) ↔ allDig s s.size = true := by
    rw [allDig_iff]
    have : (⟨(Lib.trimS s.data.toList tenDigits.data.toList).toArray⟩ : ByteArray).size = (Lib.trimS s.data.toList tenDigits.data.toList).length := by show Array.size _ = _; simp
    rw [this, List.length_eq_zero_iff, trimS_nil]
    constructor
    · intro h i hi
      have := (ten_has _).1 (h _ (List.getElem_mem (by omega : i < s.data.toList.length)))
      rw [byteAt_get s i (by omega)]; omega
    · intro h b hb
      obtain ⟨i, hi, rfl⟩ := List.mem_iff_getElem.1 hb
      have := h i (by omega)
      rw [byteAt_get s i hi] at this
      exact (ten_has _).2 (by omega)
  simp only [Bool.and_eq_true, Bool.not_eq_true', decide_eq_false_iff_not, decide_eq_true_eq, h1]
  constructor
  · rintro ⟨a, b⟩; exact ⟨b, by omega⟩
  · rintro ⟨a, b⟩; exact ⟨by omega, a⟩
theorem suffix_last (s : ByteArray) (h : 0 < s.size) : Lib.hasSuffix s.data.toList zeroText.data.toList = (byteAt s (s.size - 1) == 48) := by
  have hsz : s.data.toList.length = s.size := rfl
  have hz : zeroText.data.toList = [48] := rfl
  unfold Lib.hasSuffix
  rw [hz, Bool.eq_iff_iff, List.isSuffixOf_iff_suffix, beq_iff_eq, byteAt_get s _ (by omega)]
  have hne : s.data.toList ≠ [] := fun e => by rw [e] at hsz; simp at hsz; omega
  constructor
  · rintro ⟨t, ht⟩
    have hl : s.data.toList.length = t.length + 1 := by rw [← ht]; simp
    have : s.data.toList[s.size - 1]? = some 48 := by
      rw [← ht, show s.size - 1 = t.length by omega]; simp
    rw [List.getElem?_eq_getElem (by omega)] at this
    injection this with this
    rw [this]; rfl
  · intro e
    refine ⟨s.data.toList.dropLast, ?_⟩
    have hg : s.data.toList.getLast hne = 48 := by
      rw [List.getLast_eq_getElem]
      refine UInt8.toNat_inj.1 ?_
      have e' : (s.data.toList[s.data.toList.length - 1]'(by omega)).toNat = 48 := by
        have : (s.data.toList[s.size - 1]'(by omega)).toNat = 48 := by exact_mod_cast e
        simpa [hsz] using this
      rw [e']; rfl
    have := List.dropLast_concat_getLast hne
    rw [hg] at this
    exact this
theorem isNum_eq (neg : Bool) (d : ByteArray) (exp : Int) : isNum neg d exp = (numCheck neg d exp == 0) := by
  unfold isNum numCheck numZero
  by_cases hz : (d.toList == zeroText.toList) = true
  · rw [if_pos hz]
    have hd : d = zeroText := text_eq (by simpa using hz)
    subst hd
    have hb : numBad zeroText exp = true := by
      unfold numBad
      rw [show (byteAt zeroText 0 == 48) = true from rfl]; simp
    rw [hb, hz]
    cases neg <;> cases he : (exp == 0) <;> simp
  · have hz' : (d.toList == zeroText.toList) = false := by simpa using hz
    rw [if_neg hz, hz']
    simp only [Bool.false_and, Bool.and_false, Bool.false_eq_true, if_false]
    unfold numBad
    rw [numDigits_eq]
    cases ha : (allDig d d.size && decide ((d.size : Int) > 0)) with
    | false => simp
    | true =>
      have hp : 0 < d.size := by have := (Bool.and_eq_true_iff.1 ha).2; simp at this; omega
      rw [suffix_last d hp]
      have e1 : decide ((d.size : Int) > 40) = !decide ((d.size : Int) ≤ 40) := by rw [Bool.eq_iff_iff]; simp
      have e2 : decide (exp < -400) = !decide (exp ≥ -400) := by rw [Bool.eq_iff_iff]; simp
      have e3 : decide (exp > 400) = !decide (exp ≤ 400) := by rw [Bool.eq_iff_iff]; simp
      rw [e1, e2, e3, bne, bne]
      cases decide ((d.size : Int) ≤ 40) <;> cases (byteAt d 0 == 48) <;> cases (byteAt d (d.size - 1) == 48) <;> cases decide (exp ≥ -400) <;> cases decide (exp ≤ 400) <;> rfl

theorem namesOk_iff : ∀ (l seen : List ByteArray), namesOk l seen = true ↔ (∀ s ∈ l, utfOk s = true ∧ s ∉ seen) ∧ l.Nodup
  | [], seen => by simp [namesOk]
  | s :: r, seen => by
    have hh : hasS seen s = true ↔ s ∈ seen := by
      unfold hasS
      rw [List.any_eq_true]
      constructor
      · rintro ⟨x, hx, e⟩; exact (of_decide_eq_true e) ▸ hx
      · intro h; exact ⟨s, h, by simp⟩
    rw [namesOk]
    by_cases hc : (hasS seen s || !utfOk s) = true
    · rw [if_pos hc]
      simp only [Bool.or_eq_true, Bool.not_eq_true'] at hc
      constructor
      · intro h; cases h
      · rintro ⟨h, _⟩
        obtain ⟨h1, h2⟩ := h s (by simp)
        rcases hc with hc | hc
        · exact absurd (hh.1 hc) h2
        · rw [h1] at hc; cases hc
    · rw [if_neg hc, namesOk_iff r (seen ++ [s])]
      simp only [Bool.or_eq_true, Bool.not_eq_true', not_or, Bool.not_eq_false] at hc
      have h0 : s ∉ seen := fun h => hc.1 (hh.2 h)
      constructor
      · rintro ⟨h1, h2⟩
        refine ⟨fun x hx => ?_, List.nodup_cons.2 ⟨fun h => ?_, h2⟩⟩
        · rcases List.mem_cons.1 hx with rfl | hx
          · exact ⟨hc.2, h0⟩
          · exact ⟨(h1 x hx).1, fun h => (h1 x hx).2 (by simp [h])⟩
        · exact (h1 s h).2 (by simp)
      · rintro ⟨h1, h2⟩
        have h3 := List.nodup_cons.1 h2
        refine ⟨fun x hx => ⟨(h1 x (by simp [hx])).1, fun h => ?_⟩, h3.2⟩
        simp only [List.mem_append, List.mem_singleton] at h
        rcases h with h | rfl
        · exact (h1 x (by simp [hx])).2 h
        · exact h3.1 hx
theorem namesOk_eq (l : List ByteArray) : namesOk l [] = (l.all utfOk && apart l) := by
  rw [Bool.eq_iff_iff, namesOk_iff, Bool.and_eq_true, List.all_eq_true]
  have : apart l = true ↔ l.Nodup := by
    unfold apart
    rw [beq_iff_eq]
    exact ⟨placesOf_nd, placesOf_full⟩
  rw [this]
  simp

theorem V.formed_eq (t : V) : t.formed = ((t.rplain && t.rown) && V.formedL t.list) := by
  obtain ⟨kind, flag, neg, digits, exp, bits, text, names, list⟩ := t
  rw [V.formed]
  show (_ && V.formedL list) = (_ && V.formedL list)
  congr 1
  have hnl : ((list.length : Int) == 0) = !decide ((list.length : Int) > 0) := by rw [Bool.eq_iff_iff]; simp
  have hn0 : decide (((0 : Nat) : Int) > 0) = false := rfl
  have ht0 : (noText.toList == noText.toList) = true := beq_self_eq_true _
  simp only [V.rplain, V.rown, V.bad, zNum, ← isNum_eq, namesOk_eq, hnl, hn0, ht0]
  generalize ((neg == false) && ((digits.toList == noText.toList) && ((exp == 0) && true))) = Z
  generalize (bits != 0) = b
  generalize (text.toList == noText.toList) = X
  generalize decide ((names.length : Int) > 0) = N
  generalize decide ((list.length : Int) > 0) = L
  generalize isNum neg digits exp = A
  generalize utfOk text = U
  generalize names.all utfOk = W
  generalize apart names = P
  generalize ((names.length : Int) == (list.length : Int)) = M
  generalize ((list.length : Int) == 1) = O
  by_cases h1 : kind = 1
  · subst h1; cases flag <;> cases Z <;> cases b <;> cases X <;> cases N <;> cases L <;> rfl
  by_cases h2 : kind = 2
  · subst h2; cases flag <;> cases Z <;> cases b <;> cases X <;> cases N <;> cases L <;> rfl
  by_cases h3 : kind = 3
  · subst h3; cases flag <;> cases Z <;> cases b <;> cases X <;> cases N <;> cases L <;> cases A <;> rfl
  by_cases h4 : kind = 4
  · subst h4; cases flag <;> cases Z <;> cases b <;> cases X <;> cases N <;> cases L <;> rfl
  by_cases h5 : kind = 5
  · subst h5; cases flag <;> cases Z <;> cases b <;> cases X <;> cases N <;> cases L <;> cases U <;> rfl
  by_cases h6 : kind = 6
  · subst h6; cases flag <;> cases Z <;> cases b <;> cases X <;> cases N <;> cases L <;> rfl
  by_cases h7 : kind = 7
  · subst h7; cases flag <;> cases Z <;> cases b <;> cases X <;> cases N <;> cases L <;> rfl
  by_cases h8 : kind = 8
  · subst h8; cases flag <;> cases Z <;> cases b <;> cases X <;> cases N <;> cases L <;> cases W <;> cases P <;> cases M <;> rfl
  by_cases h9 : kind = 9
  · subst h9; cases flag <;> cases Z <;> cases b <;> cases X <;> cases N <;> cases L <;> cases U <;> cases O <;> rfl
  rw [if_neg h1, if_neg h2, if_neg h3, if_neg h4, if_neg h5, if_neg h6, if_neg h7, if_neg h8, if_neg h9]
  rw [if_pos (by simp; omega)]; rfl
end Go.Proofs.YtdcpnpcmgfmenaaGreatDoor
/-
  Walks: the document's own answer on values: Formed, Within, Check. Conditions: none.
-/
set_option linter.unusedVariables false
set_option maxRecDepth 100000
namespace Go.Proofs.YtdcpnpcmgfmenaaGreatDoor
open Go Go.Proofs.YtdcpnpcmgfmenaaGreatDoor.Lg

theorem vformed_pure (t : V) : t.fit → ∀ s, Pure env 47 [.d (t.df s)] (.d (.v (.bool t.formed))) := by
  revert t
  apply V.ind
  intro kind flag neg digits exp bits text names list ih hfit s
  have c1 := rplain_pure (.mk kind flag neg digits exp bits text names list) s
  have c2 := rown_pure (.mk kind flag neg digits exp bits text names list) hfit s
  have hfl := (V.fitL_iff list).1 hfit.2.2.2
  have hS : (V.mk kind flag neg digits exp bits text names list).formed = (((V.mk kind flag neg digits exp bits text names list).rplain && (V.mk kind flag neg digits exp bits text names list).rown) && list.all V.formed) := by
    rw [V.formed_eq]
    show (_ && V.formedL list) = _
    rw [V.formedL_any, List.all_eq_not_any_not]
  generalize (V.mk kind flag neg digits exp bits text names list).rplain = b1 at *
  generalize (V.mk kind flag neg digits exp bits text names list).rown = b2 at *
  refine pure_of_body Tryz.func47 rfl rfl rfl fun B hB => ?_
  refine swp_seq ?_
  refine swp_region ?_
  refine sops_go rfl (so_box (cs := [_, _, _, _, _, _, _, _, _]) rfl rfl rfl ?_)
  refine sops_go rfl (st_assign (v := .d _) rfl rfl rfl ?_)
  refine sops_nil ?_
  refine swp_seq ?_
  refine swp_seq ?_
  refine swp_region ?_
  first | refine sops_go rfl (so_load (v := .d (.agg [_, _, _, _, _, _, _, _, _])) rfl rfl rfl rfl rfl rfl rfl rfl ?_) | refine sops_go rfl (so_load (v := .agg [_, _, _, _, _, _, _, _, _]) rfl rfl rfl rfl rfl rfl rfl rfl ?_)
  refine sops_go rfl (st_call rfl rfl (c1) ⟨na_d _, trivial⟩ rfl ?_)
  refine sops_go rfl (st_not rfl rfl rfl ?_)
  refine sops_go rfl (st_move (v := .d _) rfl rfl rfl ?_)
  refine' sops_or (d := 7) (p := 11) [8, 9, 10] 4 rfl rfl rfl (fun hb7 => ?a7) (fun hb7 => ?b7) ?_
  case a7 =>
    first | refine sops_yes rfl rfl rfl rfl (so_load (v := .d (.agg [_, _, _, _, _, _, _, _, _])) rfl rfl rfl rfl rfl rfl rfl rfl ?_) | refine sops_yes rfl rfl rfl rfl (so_load (v := .agg [_, _, _, _, _, _, _, _, _]) rfl rfl rfl rfl rfl rfl rfl rfl ?_)
    refine sops_yes rfl rfl rfl rfl (st_call rfl rfl (c2) ⟨na_d _, trivial⟩ rfl ?_)
    refine sops_yes rfl rfl rfl rfl (st_not rfl rfl rfl ?_)
    refine sops_go rfl (st_pick (v := .d _) rfl rfl rfl rfl ?_)
    refine sops_nil ?_
    exact ⟨rfl, rfl, rfl, rfl, [_, _, _], rfl, rfl⟩
  case b7 =>
    refine sops_no rfl rfl rfl rfl rfl ?_
    refine sops_no rfl rfl rfl rfl rfl ?_
    refine sops_no rfl rfl rfl rfl rfl ?_
    refine sops_go rfl (st_pick (v := .d _) rfl rfl rfl rfl ?_)
    refine sops_nil ?_
    exact ⟨rfl, rfl, rfl, rfl, [_, _, _], rfl, rfl⟩
  refine sops_nil ?_
  refine swp_cond _ rfl (fun hc11 => ?_) (fun hc11 => ?_)
  · have h1 : (b1 && b2) = false := by cases b1 <;> cases b2 <;> first | rfl | cases hc11
    rw [h1] at hS
    refine swp_seq ?_
    refine swp_region ?_
    refine sops_go rfl (st_assign (v := .d _) rfl rfl rfl ?_)
    refine sops_nil ?_
    refine swp_ret ?_
    with_reducible refine after_ret ?_
    exact fin_b rfl rfl hS
  · have h1 : (b1 && b2) = true := by cases b1 <;> cases b2 <;> first | rfl | cases hc11
    rw [h1, Bool.true_and] at hS
    refine swp_skip ?_
    refine swp_seq ?_
    refine swp_seq ?_
    refine swp_region ?_
    refine sops_go rfl (st_assign (v := .d _) rfl rfl rfl ?_)
    refine sops_nil ?_
    refine swp_block ?_
    refine swp_len (l := 0) (i := 8) rfl rfl rfl fun hll => ?_
    rw [V.rows_len] at hll
    refine swp_loopF (F := fun k : Nat => { t := upd (upd (fun _ => .any) 1 (.p 0 0 0)) 3 (.d (.v (.int .i64 k))), n := 26, h := upd (fun _ => .dead) 0 (.cells [.any, .any, .any, .any, .any, .any, .any, .any, .d (.sl s (V.rows list))]), nx := 1 })
      (fun k => k ≤ list.length ∧ (list.take k).all V.formed = true) (fun k => list.length - k) 0 ⟨Nat.zero_le _, rfl⟩ ?_ ?_
    · refine wk_of rfl (Nat.le_of_ble_eq_true rfl) (by rw [hB]; exact Nat.zero_le _) (tle_upd (le_eq rfl rfl) (tle_upd (le_eq rfl rfl) (tle_any _))) (hle_upd (.cells _ _ ⟨le_any _, le_any _, le_any _, le_any _, le_any _, le_any _, le_any _, le_any _, le_eq rfl rfl, trivial⟩) (hle_dead _)) (dead_upd (Nat.le_of_ble_eq_true rfl) (dead_none))
    rintro j ⟨hj, hb⟩
    refine swp_seq ?_
    refine swp_seq ?_
    refine swp_region ?_
    refine sops_go rfl (st_move (v := .d _) rfl rfl rfl ?_)
    first | refine sops_go rfl (so_fieldAddr (v := .p _ _ _) rfl rfl rfl rfl rfl rfl rfl rfl rfl rfl ?_) | refine sops_go rfl (so_fieldAddr (v := .dp _ _) rfl rfl rfl rfl rfl rfl rfl rfl rfl rfl ?_) | refine sops_go rfl (so_fieldAddr (v := .pe _ _ _ _ _) rfl rfl rfl rfl rfl rfl rfl rfl rfl rfl ?_)
    first | refine sops_go rfl (so_load (v := .d _) rfl rfl rfl rfl rfl rfl rfl rfl ?_) | refine sops_go rfl (so_load (v := .own _ _ _ _ _) rfl rfl rfl rfl rfl rfl rfl rfl ?_)
    refine sops_go rfl (so_lenSl rfl rfl rfl rfl rfl ?_)
    refine sops_go rfl (st_bin rfl rfl rfl rfl rfl ?_)
    refine sops_nil ?_
    refine swp_cond _ rfl (fun hc16 => ?_) (fun hc16 => ?_)
    · have hlt : j < list.length := by have := of_decide_eq_true hc16; rw [V.rows_len] at this; omega
      have hat := all_take V.formed list j hlt
      have hmem := List.getElem_mem hlt
      have ihk := ih _ hmem (hfl _ hmem) true
      refine swp_skip ?_
      refine swp_seq ?_
      refine swp_block ?_
      refine swp_seq ?_
      refine swp_region ?_
      first | refine sops_go rfl (so_fieldAddr (v := .p _ _ _) rfl rfl rfl rfl rfl rfl rfl rfl rfl rfl ?_) | refine sops_go rfl (so_fieldAddr (v := .dp _ _) rfl rfl rfl rfl rfl rfl rfl rfl rfl rfl ?_) | refine sops_go rfl (so_fieldAddr (v := .pe _ _ _ _ _) rfl rfl rfl rfl rfl rfl rfl rfl rfl rfl ?_)
      first | refine sops_go rfl (so_load (v := .d _) rfl rfl rfl rfl rfl rfl rfl rfl ?_) | refine sops_go rfl (so_load (v := .own _ _ _ _ _) rfl rfl rfl rfl rfl rfl rfl rfl ?_)
      refine sops_go rfl (st_move (v := .d _) rfl rfl rfl ?_)
      refine sops_go rfl (so_indexSl rfl rfl rfl rfl rfl rfl rfl (V.rows_all _) (by omega) (by rw [V.rows_len]; omega) (V.rows_get _ _ hlt) ?_)
      generalize list[j] = x at ihk hat hmem ⊢
      obtain ⟨x1, x2, x3, x4, x5, x6, x7, x8, x9⟩ := x
      first | refine sops_go rfl (so_load (v := .d (.agg [_, _, _, _, _, _, _, _, _])) rfl rfl rfl rfl rfl rfl rfl rfl ?_) | refine sops_go rfl (so_load (v := .agg [_, _, _, _, _, _, _, _, _]) rfl rfl rfl rfl rfl rfl rfl rfl ?_)
      refine sops_go rfl (st_call rfl rfl (ihk) ⟨na_d _, trivial⟩ rfl ?_)
      refine sops_go rfl (st_not rfl rfl rfl ?_)
      refine sops_nil ?_
      refine swp_cond _ rfl (fun hc25 => ?_) (fun hc25 => ?_)
      · refine swp_seq ?_
        refine swp_region ?_
        refine sops_go rfl (st_assign (v := .d _) rfl rfl rfl ?_)
        refine sops_nil ?_
        refine swp_ret ?_
        with_reducible refine inblk_ret ?_
        with_reducible refine after_ret ?_
        with_reducible refine after_ret ?_
        with_reducible refine inblk_ret ?_
        with_reducible refine after_ret ?_
        refine fin_b rfl rfl ?_
        rw [hS]
        refine Bool.eq_false_iff.2 fun h => ?_
        have := List.all_eq_true.1 h _ hmem
        rw [this] at hc25
        cases hc25
      · refine swp_skip ?_
        refine swp_region ?_
        refine sops_go rfl (st_move (v := .d _) rfl rfl rfl ?_)
        refine sops_go rfl (st_bin rfl rfl rfl rfl rfl ?_)
        refine sops_go rfl (st_assign (v := .d _) rfl rfl rfl ?_)
        refine sops_nil ?_
        refine ⟨j + 1, ⟨hlt, by rw [hat, hb]; simpa using hc25⟩, by omega, ?_⟩
        refine wk_of rfl (Nat.le_of_ble_eq_true rfl) (by rw [hB]; exact Nat.zero_le _) (tle_upd (le_eq (next_i64 hlt hll) rfl) (tle_upd (le_eq rfl rfl) (tle_any _))) (hle_upd (.cells _ _ ⟨le_any _, le_any _, le_any _, le_any _, le_any _, le_any _, le_any _, le_any _, le_eq rfl rfl, trivial⟩) (hle_dead _)) (dead_upd (Nat.le_of_ble_eq_true rfl) (dead_none))
    · have he : j = list.length := by have := of_decide_eq_false hc16; rw [V.rows_len] at this; omega
      rw [he, List.take_length] at hb
      refine swp_exit ?_
      with_reducible refine after_exit ?_
      with_reducible refine after_exit ?_
      refine inblk_hit ?_
      refine swp_seq ?_
      refine swp_region ?_
      refine sops_go rfl (st_assign (v := .d _) rfl rfl rfl ?_)
      refine sops_nil ?_
      refine swp_ret ?_
      exact fin_b rfl rfl (by rw [hS, hb])

theorem vwithin_pure (t : V) (s : Bool) : Pure env 48 [.d (t.df s)] (.d (.v (.bool (!t.long)))) := by
  have c1 := vshort_pure t s
  have c2 := vdepth_pure t s
  have c3 := vsize_pure t s
  have hS : (!t.long) = ((t.short && decide (t.depthW ≤ 16)) && decide (t.sizeW ≤ 4096)) := by
    unfold V.long
    rw [show decide (t.depthW > 16) = !decide (t.depthW ≤ 16) by rw [Bool.eq_iff_iff]; simp, show decide (t.sizeW > 4096) = !decide (t.sizeW ≤ 4096) by rw [Bool.eq_iff_iff]; simp]
    cases t.short <;> cases decide (t.depthW ≤ 16) <;> cases decide (t.sizeW ≤ 4096) <;> rfl
  generalize t.long = b0 at *
  generalize t.short = b1 at *
  generalize t.depthW = b2 at *
  generalize t.sizeW = b3 at *
  obtain ⟨kind, flag, neg, digits, exp, bits, text, names, list⟩ := t
  refine pure_of_body Tryz.func48 rfl rfl rfl fun B hB => ?_
  refine swp_seq ?_
  refine swp_region ?_
  refine sops_go rfl (so_box (cs := [_, _, _, _, _, _, _, _, _]) rfl rfl rfl ?_)
  refine sops_go rfl (st_assign (v := .d _) rfl rfl rfl ?_)
  refine sops_nil ?_
  refine swp_seq ?_
  refine swp_region ?_
  first | refine sops_go rfl (so_load (v := .d (.agg [_, _, _, _, _, _, _, _, _])) rfl rfl rfl rfl rfl rfl rfl rfl ?_) | refine sops_go rfl (so_load (v := .agg [_, _, _, _, _, _, _, _, _]) rfl rfl rfl rfl rfl rfl rfl rfl ?_)
  refine sops_go rfl (st_call rfl rfl (c1) ⟨na_d _, trivial⟩ rfl ?_)
  refine sops_go rfl (st_move (v := .d _) rfl rfl rfl ?_)
  refine' sops_and (d := 5) (p := 9) [6, 7, 8] 4 rfl rfl rfl (fun hb5 => ?a5) (fun hb5 => ?b5) ?_
  case a5 =>
    first | refine sops_yes rfl rfl rfl rfl (so_load (v := .d (.agg [_, _, _, _, _, _, _, _, _])) rfl rfl rfl rfl rfl rfl rfl rfl ?_) | refine sops_yes rfl rfl rfl rfl (so_load (v := .agg [_, _, _, _, _, _, _, _, _]) rfl rfl rfl rfl rfl rfl rfl rfl ?_)
    refine sops_yes rfl rfl rfl rfl (st_call rfl rfl (c2) ⟨na_d _, trivial⟩ rfl ?_)
    refine sops_yes rfl rfl rfl rfl (st_bin rfl rfl rfl rfl rfl ?_)
    refine sops_go rfl (st_pick (v := .d _) rfl rfl rfl rfl ?_)
    refine sops_nil ?_
    exact ⟨rfl, rfl, rfl, rfl, [_, _, _], rfl, rfl⟩
  case b5 =>
    refine sops_no rfl rfl rfl rfl rfl ?_
    refine sops_no rfl rfl rfl rfl rfl ?_
    refine sops_no rfl rfl rfl rfl rfl ?_
    refine sops_go rfl (st_pick (v := .d _) rfl rfl rfl rfl ?_)
    refine sops_nil ?_
    exact ⟨rfl, rfl, rfl, rfl, [_, _, _], rfl, rfl⟩
  refine sops_go rfl (st_move (v := .d _) rfl rfl rfl ?_)
  refine' sops_and (d := 10) (p := 14) [11, 12, 13] 4 rfl rfl rfl (fun hb10 => ?a10) (fun hb10 => ?b10) ?_
  case a10 =>
    first | refine sops_yes rfl rfl rfl rfl (so_load (v := .d (.agg [_, _, _, _, _, _, _, _, _])) rfl rfl rfl rfl rfl rfl rfl rfl ?_) | refine sops_yes rfl rfl rfl rfl (so_load (v := .agg [_, _, _, _, _, _, _, _, _]) rfl rfl rfl rfl rfl rfl rfl rfl ?_)
    refine sops_yes rfl rfl rfl rfl (st_call rfl rfl (c3) ⟨na_d _, trivial⟩ rfl ?_)
    refine sops_yes rfl rfl rfl rfl (st_bin rfl rfl rfl rfl rfl ?_)
    refine sops_go rfl (st_pick (v := .d _) rfl rfl rfl rfl ?_)
    refine sops_nil ?_
    exact ⟨rfl, rfl, rfl, rfl, [_, _, _], rfl, rfl⟩
  case b10 =>
    refine sops_no rfl rfl rfl rfl rfl ?_
    refine sops_no rfl rfl rfl rfl rfl ?_
    refine sops_no rfl rfl rfl rfl rfl ?_
    refine sops_go rfl (st_pick (v := .d _) rfl rfl rfl rfl ?_)
    refine sops_nil ?_
    exact ⟨rfl, rfl, rfl, rfl, [_, _, _], rfl, rfl⟩
  refine sops_go rfl (st_assign (v := .d _) rfl rfl rfl ?_)
  refine sops_nil ?_
  refine swp_ret ?_
  exact fin_b rfl rfl hS

theorem vcheck_pure (t : V) (hf : t.fit) (s : Bool) : Pure env 22 [.d (t.df s)] (.d (.v (.int .i64 t.check))) := by
  have c1 := vformed_pure t hf s
  have c2 := vwithin_pure t s
  have hS : t.check = if t.formed = true then (if t.long = true then 2 else 0) else 40 := rfl
  generalize t.check = r at *
  generalize t.formed = b1 at *
  generalize t.long = b2 at *
  obtain ⟨kind, flag, neg, digits, exp, bits, text, names, list⟩ := t
  refine pure_of_body Tryz.func22 rfl rfl rfl fun B hB => ?_
  refine swp_seq ?_
  refine swp_region ?_
  refine sops_go rfl (so_box (cs := [_, _, _, _, _, _, _, _, _]) rfl rfl rfl ?_)
  refine sops_go rfl (st_assign (v := .d _) rfl rfl rfl ?_)
  refine sops_nil ?_
  refine swp_seq ?_
  refine swp_block ?_
  refine swp_seq ?_
  refine swp_region ?_
  first | refine sops_go rfl (so_load (v := .d (.agg [_, _, _, _, _, _, _, _, _])) rfl rfl rfl rfl rfl rfl rfl rfl ?_) | refine sops_go rfl (so_load (v := .agg [_, _, _, _, _, _, _, _, _]) rfl rfl rfl rfl rfl rfl rfl rfl ?_)
  refine sops_go rfl (st_call rfl rfl (c1) ⟨na_d _, trivial⟩ rfl ?_)
  refine sops_go rfl (st_not rfl rfl rfl ?_)
  refine sops_go rfl (st_assign (v := .d _) rfl rfl rfl ?_)
  refine sops_nil ?_
  refine swp_cond _ rfl (fun hc3 => ?_) (fun hc3 => ?_)
  · rw [if_neg (by simpa using hc3)] at hS
    refine swp_seq ?_
    refine swp_region ?_
    refine sops_go rfl (st_assign (v := .d _) rfl rfl rfl ?_)
    refine sops_nil ?_
    refine swp_ret ?_
    with_reducible refine inblk_ret ?_
    with_reducible refine after_ret ?_
    exact fin_i rfl rfl hS
  · rw [if_pos (by simpa using hc3)] at hS
    refine swp_seq ?_
    refine swp_region ?_
    first | refine sops_go rfl (so_load (v := .d (.agg [_, _, _, _, _, _, _, _, _])) rfl rfl rfl rfl rfl rfl rfl rfl ?_) | refine sops_go rfl (so_load (v := .agg [_, _, _, _, _, _, _, _, _]) rfl rfl rfl rfl rfl rfl rfl rfl ?_)
    refine sops_go rfl (st_call rfl rfl (c2) ⟨na_d _, trivial⟩ rfl ?_)
    refine sops_go rfl (st_not rfl rfl rfl ?_)
    refine sops_go rfl (st_assign (v := .d _) rfl rfl rfl ?_)
    refine sops_nil ?_
    refine swp_cond _ rfl (fun hc7 => ?_) (fun hc7 => ?_)
    · rw [if_pos (by simpa using hc7)] at hS
      refine swp_seq ?_
      refine swp_region ?_
      refine sops_go rfl (st_assign (v := .d _) rfl rfl rfl ?_)
      refine sops_nil ?_
      refine swp_ret ?_
      with_reducible refine inblk_ret ?_
      with_reducible refine after_ret ?_
      exact fin_i rfl rfl hS
    · rw [if_neg (by simpa using hc7)] at hS
      refine swp_skip ?_
      refine swp_seq ?_
      refine swp_region ?_
      refine sops_go rfl (st_assign (v := .d _) rfl rfl rfl ?_)
      refine sops_nil ?_
      refine swp_ret ?_
      exact fin_i rfl rfl hS
end Go.Proofs.YtdcpnpcmgfmenaaGreatDoor
/-
  Walks: the document's own answer: In, Has. Conditions: none.
-/
set_option linter.unusedVariables false
set_option maxRecDepth 100000
namespace Go.Proofs.YtdcpnpcmgfmenaaGreatDoor
open Go Go.Proofs.YtdcpnpcmgfmenaaGreatDoor.Lg

theorem firstAt_congr {α : Type} {p q : α → Bool} (h : ∀ x, p x = q x) (l : List α) (i : Int) : firstAt p l i = firstAt q l i := by
  rw [show p = q from funext h]

set_option maxHeartbeats 2000000 in
theorem rin_pure (t : T) : ∀ v : V, t.formed = true → v.formed = true → Pure env 23 [.d (t.df true), .d (v.df true)] (.d (.v (.bool (t.has v)))) := by
  revert t
  apply T.ind
  intro kind names list ih v ht hv
  obtain ⟨vk, flag, neg, digits, exp, bits, text, vnames, vlist⟩ := v
  have ti := T.inv ht
  have vi := V.inv hv
  have hS : (T.mk kind names list).has (V.mk vk flag neg digits exp bits text vnames vlist) =
    if (kind == 1) = true then true
    else if (kind == 9) = true then (vk == 7) && !(vlist.any fun x => !(T.hasAt list 0 x))
    else if (kind == 10) = true then (if (vk != 8 || !(rowsEq strEq vnames names)) = true then false else T.hasL list vlist)
    else if (kind == 11) = true then ((vk == 9) && decide (idxOf names text ≥ 0)) && headB (fun y => T.hasAt list (idxOf names text).toNat y) vlist
    else (vk == kindOf kind) && ((kind != 5) || decide (exp ≥ 0)) := by rw [T.has]; rfl
  have hpl := rplace_pure true names text
  rw [firstAt_congr (q := fun y => text.toList == y.toList) (fun y => by rw [Bool.eq_iff_iff, beq_iff_eq, beq_iff_eq]; exact eq_comm)] at hpl
  have hpl : Pure env 49 [.d (.sl true (strRows names)), .d (.v (.string text))] (.d (.v (.int .i64 (idxOf names text)))) := hpl
  refine pure_of_body Tryz.func23 rfl rfl rfl fun B hB => ?_
  refine swp_seq ?_
  refine swp_region ?_
  refine sops_go rfl (so_box (cs := [_, _, _]) rfl rfl rfl ?_)
  refine sops_go rfl (so_box (cs := [_, _, _, _, _, _, _, _, _]) rfl rfl rfl ?_)
  refine sops_go rfl (st_assign (v := .d _) rfl rfl rfl ?_)
  refine sops_nil ?_
  refine swp_seq ?_
  refine swp_seq ?_
  refine swp_region ?_
  first | refine sops_go rfl (so_fieldAddr (v := .p _ _ _) rfl rfl rfl rfl rfl rfl rfl rfl rfl rfl ?_) | refine sops_go rfl (so_fieldAddr (v := .dp _ _) rfl rfl rfl rfl rfl rfl rfl rfl rfl rfl ?_) | refine sops_go rfl (so_fieldAddr (v := .pe _ _ _ _ _) rfl rfl rfl rfl rfl rfl rfl rfl rfl rfl ?_)
  refine sops_go rfl (so_load (v := .d _) rfl rfl rfl rfl rfl rfl rfl rfl ?_)
  refine sops_nil ?_
  refine swp_block ?_
  refine swp_seq ?_
  refine swp_region ?_
  refine sops_go rfl (st_bin rfl rfl rfl rfl rfl ?_)
  refine sops_go rfl (st_assign (v := .d _) rfl rfl rfl ?_)
  refine sops_nil ?_
  refine swp_cond _ rfl (fun hc10 => ?_) (fun hc10 => ?_)
  · rw [if_pos hc10] at hS
    refine swp_seq ?_
    refine swp_region ?_
    refine sops_go rfl (st_assign (v := .d _) rfl rfl rfl ?_)
    refine sops_nil ?_
    refine swp_ret ?_
    with_reducible refine inblk_ret ?_
    with_reducible refine after_ret ?_
    exact fin_b rfl rfl hS
  · rw [if_neg (by rw [hc10]; simp)] at hS
    refine swp_seq ?_
    refine swp_region ?_
    refine sops_go rfl (st_bin rfl rfl rfl rfl rfl ?_)
    refine sops_go rfl (st_assign (v := .d _) rfl rfl rfl ?_)
    refine sops_nil ?_
    refine swp_cond _ rfl (fun hc12 => ?_) (fun hc12 => ?_)
    · obtain rfl : kind = 2 := by simpa using hc12
      have hS : _ = ((vk == 1) && true) := hS
      refine swp_seq ?_
      refine swp_region ?_
      first | refine sops_go rfl (so_fieldAddr (v := .p _ _ _) rfl rfl rfl rfl rfl rfl rfl rfl rfl rfl ?_) | refine sops_go rfl (so_fieldAddr (v := .dp _ _) rfl rfl rfl rfl rfl rfl rfl rfl rfl rfl ?_) | refine sops_go rfl (so_fieldAddr (v := .pe _ _ _ _ _) rfl rfl rfl rfl rfl rfl rfl rfl rfl rfl ?_)
      refine sops_go rfl (so_load (v := .d _) rfl rfl rfl rfl rfl rfl rfl rfl ?_)
      refine sops_go rfl (st_bin rfl rfl rfl rfl rfl ?_)
      refine sops_go rfl (st_assign (v := .d _) rfl rfl rfl ?_)
      refine sops_nil ?_
      refine swp_ret ?_
      with_reducible refine inblk_ret ?_
      with_reducible refine after_ret ?_
      exact fin_b rfl rfl (by rw [hS, Bool.and_true])
    · refine swp_seq ?_
      refine swp_region ?_
      refine sops_go rfl (st_bin rfl rfl rfl rfl rfl ?_)
      refine sops_go rfl (st_assign (v := .d _) rfl rfl rfl ?_)
      refine sops_nil ?_
      refine swp_cond _ rfl (fun hc17 => ?_) (fun hc17 => ?_)
      · obtain rfl : kind = 3 := by simpa using hc17
        have hS : _ = ((vk == 2) && true) := hS
        refine swp_seq ?_
        refine swp_region ?_
        first | refine sops_go rfl (so_fieldAddr (v := .p _ _ _) rfl rfl rfl rfl rfl rfl rfl rfl rfl rfl ?_) | refine sops_go rfl (so_fieldAddr (v := .dp _ _) rfl rfl rfl rfl rfl rfl rfl rfl rfl rfl ?_) | refine sops_go rfl (so_fieldAddr (v := .pe _ _ _ _ _) rfl rfl rfl rfl rfl rfl rfl rfl rfl rfl ?_)
        refine sops_go rfl (so_load (v := .d _) rfl rfl rfl rfl rfl rfl rfl rfl ?_)
        refine sops_go rfl (st_bin rfl rfl rfl rfl rfl ?_)
        refine sops_go rfl (st_assign (v := .d _) rfl rfl rfl ?_)
        refine sops_nil ?_
        refine swp_ret ?_
        with_reducible refine inblk_ret ?_
        with_reducible refine after_ret ?_
        exact fin_b rfl rfl (by rw [hS, Bool.and_true])
      · refine swp_seq ?_
        refine swp_region ?_
        refine sops_go rfl (st_bin rfl rfl rfl rfl rfl ?_)
        refine sops_go rfl (st_assign (v := .d _) rfl rfl rfl ?_)
        refine sops_nil ?_
        refine swp_cond _ rfl (fun hc22 => ?_) (fun hc22 => ?_)
        · obtain rfl : kind = 4 := by simpa using hc22
          have hS : _ = ((vk == 3) && true) := hS
          refine swp_seq ?_
          refine swp_region ?_
          first | refine sops_go rfl (so_fieldAddr (v := .p _ _ _) rfl rfl rfl rfl rfl rfl rfl rfl rfl rfl ?_) | refine sops_go rfl (so_fieldAddr (v := .dp _ _) rfl rfl rfl rfl rfl rfl rfl rfl rfl rfl ?_) | refine sops_go rfl (so_fieldAddr (v := .pe _ _ _ _ _) rfl rfl rfl rfl rfl rfl rfl rfl rfl rfl ?_)
          refine sops_go rfl (so_load (v := .d _) rfl rfl rfl rfl rfl rfl rfl rfl ?_)
          refine sops_go rfl (st_bin rfl rfl rfl rfl rfl ?_)
          refine sops_go rfl (st_assign (v := .d _) rfl rfl rfl ?_)
          refine sops_nil ?_
          refine swp_ret ?_
          with_reducible refine inblk_ret ?_
          with_reducible refine after_ret ?_
          exact fin_b rfl rfl (by rw [hS, Bool.and_true])
        · refine swp_seq ?_
          refine swp_region ?_
          refine sops_go rfl (st_bin rfl rfl rfl rfl rfl ?_)
          refine sops_go rfl (st_assign (v := .d _) rfl rfl rfl ?_)
          refine sops_nil ?_
          refine swp_cond _ rfl (fun hc27 => ?_) (fun hc27 => ?_)
          · obtain rfl : kind = 5 := by simpa using hc27
            have hS : _ = ((vk == 3) && (false || decide (exp ≥ 0))) := hS
            refine swp_seq ?_
            refine swp_region ?_
            first | refine sops_go rfl (so_fieldAddr (v := .p _ _ _) rfl rfl rfl rfl rfl rfl rfl rfl rfl rfl ?_) | refine sops_go rfl (so_fieldAddr (v := .dp _ _) rfl rfl rfl rfl rfl rfl rfl rfl rfl rfl ?_) | refine sops_go rfl (so_fieldAddr (v := .pe _ _ _ _ _) rfl rfl rfl rfl rfl rfl rfl rfl rfl rfl ?_)
            refine sops_go rfl (so_load (v := .d _) rfl rfl rfl rfl rfl rfl rfl rfl ?_)
            refine sops_go rfl (st_bin rfl rfl rfl rfl rfl ?_)
            refine sops_go rfl (st_move (v := .d _) rfl rfl rfl ?_)
            refine' sops_and (d := 32) (p := 37) [33, 34, 35, 36] 5 rfl rfl rfl (fun hb32 => ?a32) (fun hb32 => ?b32) ?_
            case a32 =>
              first | refine sops_yes rfl rfl rfl rfl (so_fieldAddr (v := .p _ _ _) rfl rfl rfl rfl rfl rfl rfl rfl rfl rfl ?_) | refine sops_yes rfl rfl rfl rfl (so_fieldAddr (v := .dp _ _) rfl rfl rfl rfl rfl rfl rfl rfl rfl rfl ?_) | refine sops_yes rfl rfl rfl rfl (so_fieldAddr (v := .pe _ _ _ _ _) rfl rfl rfl rfl rfl rfl rfl rfl rfl rfl ?_)
              first | refine sops_yes rfl rfl rfl rfl (so_fieldAddr (v := .p _ _ _) rfl rfl rfl rfl rfl rfl rfl rfl rfl rfl ?_) | refine sops_yes rfl rfl rfl rfl (so_fieldAddr (v := .dp _ _) rfl rfl rfl rfl rfl rfl rfl rfl rfl rfl ?_) | refine sops_yes rfl rfl rfl rfl (so_fieldAddr (v := .pe _ _ _ _ _) rfl rfl rfl rfl rfl rfl rfl rfl rfl rfl ?_)
              refine sops_yes rfl rfl rfl rfl (so_load (v := .d _) rfl rfl rfl rfl rfl rfl rfl rfl ?_)
              refine sops_yes rfl rfl rfl rfl (st_bin rfl rfl rfl rfl rfl ?_)
              refine sops_go rfl (st_pick (v := .d _) rfl rfl rfl rfl ?_)
              refine sops_nil ?_
              exact ⟨rfl, rfl, rfl, rfl, [_, _, _, _], rfl, rfl⟩
            case b32 =>
              refine sops_no rfl rfl rfl rfl rfl ?_
              refine sops_no rfl rfl rfl rfl rfl ?_
              refine sops_no rfl rfl rfl rfl rfl ?_
              refine sops_no rfl rfl rfl rfl rfl ?_
              refine sops_go rfl (st_pick (v := .d _) rfl rfl rfl rfl ?_)
              refine sops_nil ?_
              exact ⟨rfl, rfl, rfl, rfl, [_, _, _, _], rfl, rfl⟩
            refine sops_go rfl (st_assign (v := .d _) rfl rfl rfl ?_)
            refine sops_nil ?_
            refine swp_ret ?_
            with_reducible refine inblk_ret ?_
            with_reducible refine after_ret ?_
            exact fin_b rfl rfl (by rw [hS, Bool.false_or])
          · refine swp_seq ?_
            refine swp_region ?_
            refine sops_go rfl (st_bin rfl rfl rfl rfl rfl ?_)
            refine sops_go rfl (st_assign (v := .d _) rfl rfl rfl ?_)
            refine sops_nil ?_
            refine swp_cond _ rfl (fun hc38 => ?_) (fun hc38 => ?_)
            · obtain rfl : kind = 6 := by simpa using hc38
              have hS : _ = ((vk == 4) && true) := hS
              refine swp_seq ?_
              refine swp_region ?_
              first | refine sops_go rfl (so_fieldAddr (v := .p _ _ _) rfl rfl rfl rfl rfl rfl rfl rfl rfl rfl ?_) | refine sops_go rfl (so_fieldAddr (v := .dp _ _) rfl rfl rfl rfl rfl rfl rfl rfl rfl rfl ?_) | refine sops_go rfl (so_fieldAddr (v := .pe _ _ _ _ _) rfl rfl rfl rfl rfl rfl rfl rfl rfl rfl ?_)
              refine sops_go rfl (so_load (v := .d _) rfl rfl rfl rfl rfl rfl rfl rfl ?_)
              refine sops_go rfl (st_bin rfl rfl rfl rfl rfl ?_)
              refine sops_go rfl (st_assign (v := .d _) rfl rfl rfl ?_)
              refine sops_nil ?_
              refine swp_ret ?_
              with_reducible refine inblk_ret ?_
              with_reducible refine after_ret ?_
              exact fin_b rfl rfl (by rw [hS, Bool.and_true])
            · refine swp_seq ?_
              refine swp_region ?_
              refine sops_go rfl (st_bin rfl rfl rfl rfl rfl ?_)
              refine sops_go rfl (st_assign (v := .d _) rfl rfl rfl ?_)
              refine sops_nil ?_
              refine swp_cond _ rfl (fun hc43 => ?_) (fun hc43 => ?_)
              · obtain rfl : kind = 7 := by simpa using hc43
                have hS : _ = ((vk == 5) && true) := hS
                refine swp_seq ?_
                refine swp_region ?_
                first | refine sops_go rfl (so_fieldAddr (v := .p _ _ _) rfl rfl rfl rfl rfl rfl rfl rfl rfl rfl ?_) | refine sops_go rfl (so_fieldAddr (v := .dp _ _) rfl rfl rfl rfl rfl rfl rfl rfl rfl rfl ?_) | refine sops_go rfl (so_fieldAddr (v := .pe _ _ _ _ _) rfl rfl rfl rfl rfl rfl rfl rfl rfl rfl ?_)
                refine sops_go rfl (so_load (v := .d _) rfl rfl rfl rfl rfl rfl rfl rfl ?_)
                refine sops_go rfl (st_bin rfl rfl rfl rfl rfl ?_)
                refine sops_go rfl (st_assign (v := .d _) rfl rfl rfl ?_)
                refine sops_nil ?_
                refine swp_ret ?_
                with_reducible refine inblk_ret ?_
                with_reducible refine after_ret ?_
                exact fin_b rfl rfl (by rw [hS, Bool.and_true])
              · refine swp_seq ?_
                refine swp_region ?_
                refine sops_go rfl (st_bin rfl rfl rfl rfl rfl ?_)
                refine sops_go rfl (st_assign (v := .d _) rfl rfl rfl ?_)
                refine sops_nil ?_
                refine swp_cond _ rfl (fun hc48 => ?_) (fun hc48 => ?_)
                · obtain rfl : kind = 8 := by simpa using hc48
                  have hS : _ = ((vk == 6) && true) := hS
                  refine swp_seq ?_
                  refine swp_region ?_
                  first | refine sops_go rfl (so_fieldAddr (v := .p _ _ _) rfl rfl rfl rfl rfl rfl rfl rfl rfl rfl ?_) | refine sops_go rfl (so_fieldAddr (v := .dp _ _) rfl rfl rfl rfl rfl rfl rfl rfl rfl rfl ?_) | refine sops_go rfl (so_fieldAddr (v := .pe _ _ _ _ _) rfl rfl rfl rfl rfl rfl rfl rfl rfl rfl ?_)
                  refine sops_go rfl (so_load (v := .d _) rfl rfl rfl rfl rfl rfl rfl rfl ?_)
                  refine sops_go rfl (st_bin rfl rfl rfl rfl rfl ?_)
                  refine sops_go rfl (st_assign (v := .d _) rfl rfl rfl ?_)
                  refine sops_nil ?_
                  refine swp_ret ?_
                  with_reducible refine inblk_ret ?_
                  with_reducible refine after_ret ?_
                  exact fin_b rfl rfl (by rw [hS, Bool.and_true])
                · refine swp_seq ?_
                  refine swp_region ?_
                  refine sops_go rfl (st_bin rfl rfl rfl rfl rfl ?_)
                  refine sops_go rfl (st_assign (v := .d _) rfl rfl rfl ?_)
                  refine sops_nil ?_
                  refine swp_cond _ rfl (fun hc53 => ?_) (fun hc53 => ?_)
                  · rw [if_pos hc53] at hS
                    have h9 : kind = 9 := by simpa using hc53
                    have h1 := ti.one h9
                    obtain ⟨e, rfl⟩ : ∃ e, list = [e] := List.length_eq_one_iff.1 h1
                    have hat0 : ∀ x : V, T.hasAt [e] 0 x = e.has x := fun x => by rw [T.hasAt]
                    simp only [hat0] at hS
                    have heo := ti.all e (by simp)
                    have ihe := fun x hx => ih e (by simp) x heo (vi.all x hx)
                    obtain ⟨e1, e2, e3⟩ := e
                    refine swp_seq ?_
                    refine swp_seq ?_
                    refine swp_region ?_
                    refine sops_go rfl (st_assign (v := .d _) rfl rfl rfl ?_)
                    refine sops_nil ?_
                    refine swp_block ?_
                    refine swp_len (l := 1) (i := 8) rfl rfl rfl fun hvl => ?_
                    rw [V.rows_len] at hvl
                    refine swp_loopF (F := fun k : Nat => { t := upd (upd (upd (fun _ => .any) 2 (.p 0 0 0)) 3 (.p 1 0 0)) 5 (.d (.v (.int .i64 k))), n := 149, h := upd (upd (fun _ => .dead) 0 (.cells [.any, .any, .d (.sl true (T.rows [.mk e1 e2 e3]))])) 1 (.cells [.d (.v (.int .i64 vk)), .any, .any, .any, .any, .any, .any, .any, .d (.sl true (V.rows vlist))]), nx := 2 })
                      (fun k => k ≤ vlist.length ∧ (vlist.take k).any (fun x => !((T.mk e1 e2 e3).has x)) = false) (fun k => vlist.length - k) 0 ⟨Nat.zero_le _, rfl⟩ ?_ ?_
                    · refine wk_of rfl (Nat.le_of_ble_eq_true rfl) (by rw [hB]; exact Nat.zero_le _) (tle_upd (le_eq rfl rfl) (tle_upd (le_eq rfl rfl) (tle_upd (le_eq rfl rfl) (tle_any _)))) (hle_upd (.cells _ _ ⟨le_eq rfl rfl, le_any _, le_any _, le_any _, le_any _, le_any _, le_any _, le_any _, le_eq rfl rfl, trivial⟩) (hle_upd (.cells _ _ ⟨le_any _, le_any _, le_eq rfl rfl, trivial⟩) (hle_dead _))) (dead_upd (Nat.le_of_ble_eq_true rfl) (dead_upd (Nat.le_of_ble_eq_true rfl) (dead_none)))
                    rintro k ⟨hk, ha⟩
                    refine swp_seq ?_
                    refine swp_seq ?_
                    refine swp_region ?_
                    refine sops_go rfl (st_move (v := .d _) rfl rfl rfl ?_)
                    first | refine sops_go rfl (so_fieldAddr (v := .p _ _ _) rfl rfl rfl rfl rfl rfl rfl rfl rfl rfl ?_) | refine sops_go rfl (so_fieldAddr (v := .dp _ _) rfl rfl rfl rfl rfl rfl rfl rfl rfl rfl ?_) | refine sops_go rfl (so_fieldAddr (v := .pe _ _ _ _ _) rfl rfl rfl rfl rfl rfl rfl rfl rfl rfl ?_)
                    first | refine sops_go rfl (so_load (v := .d _) rfl rfl rfl rfl rfl rfl rfl rfl ?_) | refine sops_go rfl (so_load (v := .own _ _ _ _ _) rfl rfl rfl rfl rfl rfl rfl rfl ?_)
                    refine sops_go rfl (so_lenSl rfl rfl rfl rfl rfl ?_)
                    refine sops_go rfl (st_bin rfl rfl rfl rfl rfl ?_)
                    refine sops_nil ?_
                    refine swp_cond _ rfl (fun hc59 => ?_) (fun hc59 => ?_)
                    · have hlt : k < vlist.length := by have := of_decide_eq_true hc59; rw [V.rows_len] at this; omega
                      have ihk := ihe _ (List.getElem_mem hlt)
                      have hat := any_take (fun x => !((T.mk e1 e2 e3).has x)) vlist k hlt
                      have hge := any_get (fun x => !((T.mk e1 e2 e3).has x)) vlist k hlt
                      refine swp_skip ?_
                      refine swp_seq ?_
                      refine swp_block ?_
                      refine swp_seq ?_
                      refine swp_regionQ 13 (by kernel_rfl) rfl rfl rfl ?_
                      first | refine h0_go rfl (so_fieldAddr (v := .p _ _ _) rfl rfl rfl rfl rfl rfl rfl rfl rfl rfl ⟨_, rfl, ?_⟩) | refine h0_go rfl (so_fieldAddr (v := .dp _ _) rfl rfl rfl rfl rfl rfl rfl rfl rfl rfl ⟨_, rfl, ?_⟩) | refine h0_go rfl (so_fieldAddr (v := .pe _ _ _ _ _) rfl rfl rfl rfl rfl rfl rfl rfl rfl rfl ⟨_, rfl, ?_⟩)
                      refine h0_go rfl (so_load (v := .d _) rfl rfl rfl rfl rfl rfl rfl rfl ⟨_, rfl, ?_⟩)
                      refine h0_go rfl (st_bin rfl rfl rfl rfl rfl ⟨_, rfl, ?_⟩)
                      refine h0_go rfl (st_move (v := .d _) rfl rfl rfl ⟨_, rfl, ?_⟩)
                      refine h0_case 65 rfl (fun hb65 => ?_) (fun hb65 => ?_)
                      · refine h0_no rfl rfl rfl rfl rfl ?_
                        refine h0_no rfl rfl rfl rfl rfl ?_
                        refine h0_no rfl rfl rfl rfl rfl ?_
                        refine h0_no rfl rfl rfl rfl rfl ?_
                        refine h0_no rfl rfl rfl rfl rfl ?_
                        refine h0_no rfl rfl rfl rfl rfl ?_
                        refine h0_no rfl rfl rfl rfl rfl ?_
                        refine h0_no rfl rfl rfl rfl rfl ?_
                        refine h0_no rfl rfl rfl rfl rfl ?_
                        refine h0_nil ?_
                        refine sops_no rfl rfl rfl rfl rfl ?_
                        refine sops_no rfl rfl rfl rfl rfl ?_
                        refine sops_go rfl (st_pick (v := .d _) rfl rfl rfl rfl ?_)
                        refine sops_nil ?_
                        refine swp_condT rfl ?_
                        refine swp_seq ?_
                        refine swp_region ?_
                        refine sops_go rfl (st_assign (v := .d _) rfl rfl rfl ?_)
                        refine sops_nil ?_
                        refine swp_ret ?_
                        with_reducible refine inblk_ret ?_
                        with_reducible refine after_ret ?_
                        with_reducible refine after_ret ?_
                        with_reducible refine inblk_ret ?_
                        with_reducible refine after_ret ?_
                        with_reducible refine inblk_ret ?_
                        with_reducible refine after_ret ?_
                        exact fin_b rfl rfl (by rw [hS, show (vk == 7) = false by simpa using hb65]; rfl)
                      · first | refine h0_yes rfl rfl rfl rfl (so_fieldAddr (v := .p _ _ _) rfl rfl rfl rfl rfl rfl rfl rfl rfl rfl ⟨_, rfl, ?_⟩) | refine h0_yes rfl rfl rfl rfl (so_fieldAddr (v := .dp _ _) rfl rfl rfl rfl rfl rfl rfl rfl rfl rfl ⟨_, rfl, ?_⟩) | refine h0_yes rfl rfl rfl rfl (so_fieldAddr (v := .pe _ _ _ _ _) rfl rfl rfl rfl rfl rfl rfl rfl rfl rfl ⟨_, rfl, ?_⟩)
                        first | refine h0_yes rfl rfl rfl rfl (so_load (v := .d _) rfl rfl rfl rfl rfl rfl rfl rfl ⟨_, rfl, ?_⟩) | refine h0_yes rfl rfl rfl rfl (so_load (v := .own _ _ _ _ _) rfl rfl rfl rfl rfl rfl rfl rfl ⟨_, rfl, ?_⟩)
                        refine h0_yes rfl rfl rfl rfl (so_indexSl rfl rfl rfl rfl rfl rfl rfl (T.rows_all _) (by omega) (by simp [T.rows]) rfl ⟨_, rfl, ?_⟩)
                        first | refine h0_yes rfl rfl rfl rfl (so_load (v := .d (.agg [_, _, _])) rfl rfl rfl rfl rfl rfl rfl rfl ⟨_, rfl, ?_⟩) | refine h0_yes rfl rfl rfl rfl (so_load (v := .agg [_, _, _]) rfl rfl rfl rfl rfl rfl rfl rfl ⟨_, rfl, ?_⟩)
                        first | refine h0_yes rfl rfl rfl rfl (so_fieldAddr (v := .p _ _ _) rfl rfl rfl rfl rfl rfl rfl rfl rfl rfl ⟨_, rfl, ?_⟩) | refine h0_yes rfl rfl rfl rfl (so_fieldAddr (v := .dp _ _) rfl rfl rfl rfl rfl rfl rfl rfl rfl rfl ⟨_, rfl, ?_⟩) | refine h0_yes rfl rfl rfl rfl (so_fieldAddr (v := .pe _ _ _ _ _) rfl rfl rfl rfl rfl rfl rfl rfl rfl rfl ⟨_, rfl, ?_⟩)
                        first | refine h0_yes rfl rfl rfl rfl (so_load (v := .d _) rfl rfl rfl rfl rfl rfl rfl rfl ⟨_, rfl, ?_⟩) | refine h0_yes rfl rfl rfl rfl (so_load (v := .own _ _ _ _ _) rfl rfl rfl rfl rfl rfl rfl rfl ⟨_, rfl, ?_⟩)
                        refine h0_yes rfl rfl rfl rfl (st_move (v := .d _) rfl rfl rfl ⟨_, rfl, ?_⟩)
                        refine h0_yes rfl rfl rfl rfl (so_indexSl rfl rfl rfl rfl rfl rfl rfl (V.rows_all _) (by omega) (by rw [V.rows_len]; omega) (V.rows_get _ _ hlt) ⟨_, rfl, ?_⟩)
                        generalize vlist[k] = y at ihk hat hge ⊢
                        obtain ⟨y1, y2, y3, y4, y5, y6, y7, y8, y9⟩ := y
                        first | refine h0_yes rfl rfl rfl rfl (so_load (v := .d (.agg [_, _, _, _, _, _, _, _, _])) rfl rfl rfl rfl rfl rfl rfl rfl ⟨_, rfl, ?_⟩) | refine h0_yes rfl rfl rfl rfl (so_load (v := .agg [_, _, _, _, _, _, _, _, _]) rfl rfl rfl rfl rfl rfl rfl rfl ⟨_, rfl, ?_⟩)
                        refine h0_nil ?_
                        refine sops_yes rfl rfl rfl rfl (st_call rfl rfl (ihk) ⟨na_d _, na_d _, trivial⟩ rfl ?_)
                        refine sops_yes rfl rfl rfl rfl (st_not rfl rfl rfl ?_)
                        refine sops_go rfl (st_pick (v := .d _) rfl rfl rfl rfl ?_)
                        refine sops_nil ?_
                        refine swp_cond _ rfl (fun hc77 => ?_) (fun hc77 => ?_)
                        · refine swp_seq ?_
                          refine swp_region ?_
                          refine sops_go rfl (st_assign (v := .d _) rfl rfl rfl ?_)
                          refine sops_nil ?_
                          refine swp_ret ?_
                          with_reducible refine inblk_ret ?_
                          with_reducible refine after_ret ?_
                          with_reducible refine after_ret ?_
                          with_reducible refine inblk_ret ?_
                          with_reducible refine after_ret ?_
                          with_reducible refine inblk_ret ?_
                          with_reducible refine after_ret ?_
                          exact fin_b rfl rfl (by rw [hS, hge hc77]; simp)
                        · refine swp_skip ?_
                          refine swp_region ?_
                          refine sops_go rfl (st_move (v := .d _) rfl rfl rfl ?_)
                          refine sops_go rfl (st_bin rfl rfl rfl rfl rfl ?_)
                          refine sops_go rfl (st_assign (v := .d _) rfl rfl rfl ?_)
                          refine sops_nil ?_
                          refine ⟨k + 1, ⟨hlt, by rw [hat, ha]; exact hc77⟩, by omega, ?_⟩
                          refine wk_of rfl (Nat.le_of_ble_eq_true rfl) (by rw [hB]; exact Nat.zero_le _) (tle_upd (le_eq (next_i64 hlt hvl) rfl) (tle_upd (le_eq rfl rfl) (tle_upd (le_eq rfl rfl) (tle_any _)))) (hle_upd (.cells _ _ ⟨le_eq rfl rfl, le_any _, le_any _, le_any _, le_any _, le_any _, le_any _, le_any _, le_eq rfl rfl, trivial⟩) (hle_upd (.cells _ _ ⟨le_any _, le_any _, le_eq rfl rfl, trivial⟩) (hle_dead _))) (dead_upd (Nat.le_of_ble_eq_true rfl) (dead_upd (Nat.le_of_ble_eq_true rfl) (dead_none)))
                    · have he : k = vlist.length := by have := of_decide_eq_false hc59; rw [V.rows_len] at this; omega
                      rw [he, List.take_length] at ha
                      rw [ha] at hS
                      refine swp_exit ?_
                      with_reducible refine after_exit ?_
                      with_reducible refine after_exit ?_
                      refine inblk_hit ?_
                      refine swp_seq ?_
                      refine swp_region ?_
                      first | refine sops_go rfl (so_fieldAddr (v := .p _ _ _) rfl rfl rfl rfl rfl rfl rfl rfl rfl rfl ?_) | refine sops_go rfl (so_fieldAddr (v := .dp _ _) rfl rfl rfl rfl rfl rfl rfl rfl rfl rfl ?_) | refine sops_go rfl (so_fieldAddr (v := .pe _ _ _ _ _) rfl rfl rfl rfl rfl rfl rfl rfl rfl rfl ?_)
                      refine sops_go rfl (so_load (v := .d _) rfl rfl rfl rfl rfl rfl rfl rfl ?_)
                      refine sops_go rfl (st_bin rfl rfl rfl rfl rfl ?_)
                      refine sops_go rfl (st_assign (v := .d _) rfl rfl rfl ?_)
                      refine sops_nil ?_
                      refine swp_ret ?_
                      with_reducible refine inblk_ret ?_
                      with_reducible refine after_ret ?_
                      exact fin_b rfl rfl (by rw [hS]; simp)
                  · rw [if_neg (by rw [hc53]; simp)] at hS
                    refine swp_seq ?_
                    refine swp_region ?_
                    refine sops_go rfl (st_bin rfl rfl rfl rfl rfl ?_)
                    refine sops_go rfl (st_assign (v := .d _) rfl rfl rfl ?_)
                    refine sops_nil ?_
                    refine swp_cond _ rfl (fun hc81 => ?_) (fun hc81 => ?_)
                    · rw [if_pos hc81] at hS
                      have h10 : kind = 10 := by simpa using hc81
                      have hln := ti.same (.inl h10)
                      refine swp_seq ?_
                      refine swp_seq ?_
                      refine swp_region ?_
                      first | refine sops_go rfl (so_fieldAddr (v := .p _ _ _) rfl rfl rfl rfl rfl rfl rfl rfl rfl rfl ?_) | refine sops_go rfl (so_fieldAddr (v := .dp _ _) rfl rfl rfl rfl rfl rfl rfl rfl rfl rfl ?_) | refine sops_go rfl (so_fieldAddr (v := .pe _ _ _ _ _) rfl rfl rfl rfl rfl rfl rfl rfl rfl rfl ?_)
                      refine sops_go rfl (so_load (v := .d _) rfl rfl rfl rfl rfl rfl rfl rfl ?_)
                      refine sops_go rfl (st_bin rfl rfl rfl rfl rfl ?_)
                      refine sops_go rfl (st_move (v := .d _) rfl rfl rfl ?_)
                      refine' sops_or (d := 86) (p := 94) [87, 88, 89, 90, 91, 92, 93] 8 rfl rfl rfl (fun hb86 => ?a86) (fun hb86 => ?b86) ?_
                      case a86 =>
                        first | refine sops_yes rfl rfl rfl rfl (so_fieldAddr (v := .p _ _ _) rfl rfl rfl rfl rfl rfl rfl rfl rfl rfl ?_) | refine sops_yes rfl rfl rfl rfl (so_fieldAddr (v := .dp _ _) rfl rfl rfl rfl rfl rfl rfl rfl rfl rfl ?_) | refine sops_yes rfl rfl rfl rfl (so_fieldAddr (v := .pe _ _ _ _ _) rfl rfl rfl rfl rfl rfl rfl rfl rfl rfl ?_)
                        first | refine sops_yes rfl rfl rfl rfl (so_load (v := .d _) rfl rfl rfl rfl rfl rfl rfl rfl ?_) | refine sops_yes rfl rfl rfl rfl (so_load (v := .own _ _ _ _ _) rfl rfl rfl rfl rfl rfl rfl rfl ?_)
                        refine sops_yes rfl rfl rfl rfl (so_lenSl rfl rfl rfl rfl rfl ?_)
                        first | refine sops_yes rfl rfl rfl rfl (so_fieldAddr (v := .p _ _ _) rfl rfl rfl rfl rfl rfl rfl rfl rfl rfl ?_) | refine sops_yes rfl rfl rfl rfl (so_fieldAddr (v := .dp _ _) rfl rfl rfl rfl rfl rfl rfl rfl rfl rfl ?_) | refine sops_yes rfl rfl rfl rfl (so_fieldAddr (v := .pe _ _ _ _ _) rfl rfl rfl rfl rfl rfl rfl rfl rfl rfl ?_)
                        first | refine sops_yes rfl rfl rfl rfl (so_load (v := .d _) rfl rfl rfl rfl rfl rfl rfl rfl ?_) | refine sops_yes rfl rfl rfl rfl (so_load (v := .own _ _ _ _ _) rfl rfl rfl rfl rfl rfl rfl rfl ?_)
                        refine sops_yes rfl rfl rfl rfl (so_lenSl rfl rfl rfl rfl rfl ?_)
                        refine sops_yes rfl rfl rfl rfl (st_bin rfl rfl rfl rfl rfl ?_)
                        refine sops_go rfl (st_pick (v := .d _) rfl rfl rfl rfl ?_)
                        refine sops_nil ?_
                        exact ⟨rfl, rfl, rfl, rfl, [_, _, _, _, _, _, _], rfl, rfl⟩
                      case b86 =>
                        refine sops_no rfl rfl rfl rfl rfl ?_
                        refine sops_no rfl rfl rfl rfl rfl ?_
                        refine sops_no rfl rfl rfl rfl rfl ?_
                        refine sops_no rfl rfl rfl rfl rfl ?_
                        refine sops_no rfl rfl rfl rfl rfl ?_
                        refine sops_no rfl rfl rfl rfl rfl ?_
                        refine sops_no rfl rfl rfl rfl rfl ?_
                        refine sops_go rfl (st_pick (v := .d _) rfl rfl rfl rfl ?_)
                        refine sops_nil ?_
                        exact ⟨rfl, rfl, rfl, rfl, [_, _, _, _, _, _, _], rfl, rfl⟩
                      refine sops_nil ?_
                      refine swp_cond _ rfl (fun hc94 => ?_) (fun hc94 => ?_)
                      · have h1 : (vk != 8 || !(rowsEq strEq vnames names)) = true := by
                          rcases Bool.or_eq_true_iff.1 hc94 with h | h
                          · rw [show (vk != 8) = true from h]; rfl
                          · have h : (((strRows vnames).length : Int) != ((strRows names).length : Int)) = true := h
                            rw [strRows_len, strRows_len] at h
                            rw [rowsEq_len strEq vnames names (by simp at h; omega)]; simp
                        rw [if_pos h1] at hS
                        refine swp_seq ?_
                        refine swp_region ?_
                        refine sops_go rfl (st_assign (v := .d _) rfl rfl rfl ?_)
                        refine sops_nil ?_
                        refine swp_ret ?_
                        with_reducible refine after_ret ?_
                        with_reducible refine inblk_ret ?_
                        with_reducible refine after_ret ?_
                        exact fin_b rfl rfl hS
                      · have h1 := Bool.or_eq_false_iff.1 hc94
                        have hv8 : vk = 8 := by simpa using h1.1
                        have hvn : vnames.length = names.length := by
                          have h : (((strRows vnames).length : Int) != ((strRows names).length : Int)) = false := h1.2
                          rw [strRows_len, strRows_len] at h
                          simp at h; omega
                        have hvl2 := vi.same hv8
                        have hll : list.length = vlist.length := by omega
                        rw [show (vk != 8) = false from h1.1, Bool.false_or] at hS
                        refine swp_skip ?_
                        refine swp_seq ?_
                        refine swp_seq ?_
                        refine swp_region ?_
                        refine sops_go rfl (st_assign (v := .d _) rfl rfl rfl ?_)
                        refine sops_nil ?_
                        refine swp_block ?_
                        refine swp_len (l := 1) (i := 7) rfl rfl rfl fun hvl => ?_
                        rw [strRows_len] at hvl
                        refine swp_loopF (F := fun k : Nat => { t := upd (upd (upd (fun _ => .any) 2 (.p 0 0 0)) 3 (.p 1 0 0)) 6 (.d (.v (.int .i64 k))), n := 149, h := upd (upd (fun _ => .dead) 0 (.cells [.any, .d (.sl true (strRows names)), .d (.sl true (T.rows list))])) 1 (.cells [.any, .any, .any, .any, .any, .any, .any, .d (.sl true (strRows vnames)), .d (.sl true (V.rows vlist))]), nx := 2 })
                          (fun k => k ≤ vnames.length ∧ ∀ (j : Nat), j < k → (∀ (h1 : j < vnames.length) (h2 : j < names.length), strEq vnames[j] names[j] = true) ∧ ∀ (h1 : j < list.length) (h2 : j < vlist.length), list[j].has vlist[j] = true) (fun k => vnames.length - k) 0 ⟨Nat.zero_le _, fun _ h => by omega⟩ ?_ ?_
                        · refine wk_of rfl (Nat.le_of_ble_eq_true rfl) (by rw [hB]; exact Nat.zero_le _) (tle_upd (le_eq rfl rfl) (tle_upd (le_eq rfl rfl) (tle_upd (le_eq rfl rfl) (tle_any _)))) (hle_upd (.cells _ _ ⟨le_any _, le_any _, le_any _, le_any _, le_any _, le_any _, le_any _, le_eq rfl rfl, le_eq rfl rfl, trivial⟩) (hle_upd (.cells _ _ ⟨le_any _, le_eq rfl rfl, le_eq rfl rfl, trivial⟩) (hle_dead _))) (dead_upd (Nat.le_of_ble_eq_true rfl) (dead_upd (Nat.le_of_ble_eq_true rfl) (dead_none)))
                        rintro k ⟨hk, hall⟩
                        have hk : k ≤ vnames.length := hk
                        refine swp_seq ?_
                        refine swp_seq ?_
                        refine swp_region ?_
                        refine sops_go rfl (st_move (v := .d _) rfl rfl rfl ?_)
                        first | refine sops_go rfl (so_fieldAddr (v := .p _ _ _) rfl rfl rfl rfl rfl rfl rfl rfl rfl rfl ?_) | refine sops_go rfl (so_fieldAddr (v := .dp _ _) rfl rfl rfl rfl rfl rfl rfl rfl rfl rfl ?_) | refine sops_go rfl (so_fieldAddr (v := .pe _ _ _ _ _) rfl rfl rfl rfl rfl rfl rfl rfl rfl rfl ?_)
                        first | refine sops_go rfl (so_load (v := .d _) rfl rfl rfl rfl rfl rfl rfl rfl ?_) | refine sops_go rfl (so_load (v := .own _ _ _ _ _) rfl rfl rfl rfl rfl rfl rfl rfl ?_)
                        refine sops_go rfl (so_lenSl rfl rfl rfl rfl rfl ?_)
                        refine sops_go rfl (st_bin rfl rfl rfl rfl rfl ?_)
                        refine sops_nil ?_
                        refine swp_cond _ rfl (fun hc99 => ?_) (fun hc99 => ?_)
                        · have hlt : k < vnames.length := by have := of_decide_eq_true hc99; rw [strRows_len] at this; omega
                          have hlt1 : k < names.length := by omega
                          have hlt2 : k < list.length := by omega
                          have hlt3 : k < vlist.length := by omega
                          have ihk := ih _ (List.getElem_mem hlt2) _ (ti.all _ (List.getElem_mem hlt2)) (vi.all _ (List.getElem_mem hlt3))
                          have hno : list[k].has vlist[k] = false → T.hasL list vlist = false := fun h => Bool.eq_false_iff.2 fun e => by
                            have := (T.hasL_iff list vlist hll).1 e k hlt2 hlt3
                            rw [h] at this; cases this
                          refine swp_skip ?_
                          refine swp_seq ?_
                          refine swp_block ?_
                          refine swp_seq ?_
                          refine swp_regionQ 22 (by kernel_rfl) rfl rfl rfl ?_
                          first | refine h0_go rfl (so_fieldAddr (v := .p _ _ _) rfl rfl rfl rfl rfl rfl rfl rfl rfl rfl ⟨_, rfl, ?_⟩) | refine h0_go rfl (so_fieldAddr (v := .dp _ _) rfl rfl rfl rfl rfl rfl rfl rfl rfl rfl ⟨_, rfl, ?_⟩) | refine h0_go rfl (so_fieldAddr (v := .pe _ _ _ _ _) rfl rfl rfl rfl rfl rfl rfl rfl rfl rfl ⟨_, rfl, ?_⟩)
                          first | refine h0_go rfl (so_load (v := .d _) rfl rfl rfl rfl rfl rfl rfl rfl ⟨_, rfl, ?_⟩) | refine h0_go rfl (so_load (v := .own _ _ _ _ _) rfl rfl rfl rfl rfl rfl rfl rfl ⟨_, rfl, ?_⟩)
                          refine h0_go rfl (st_move (v := .d _) rfl rfl rfl ⟨_, rfl, ?_⟩)
                          refine h0_go rfl (so_indexSl rfl rfl rfl rfl rfl rfl rfl (strRows_all _) (by omega) (by rw [strRows_len]; omega) (strRows_get _ _ hlt) ⟨_, rfl, ?_⟩)
                          refine h0_go rfl (so_load (v := .d _) rfl rfl rfl rfl rfl rfl rfl rfl ⟨_, rfl, ?_⟩)
                          first | refine h0_go rfl (so_fieldAddr (v := .p _ _ _) rfl rfl rfl rfl rfl rfl rfl rfl rfl rfl ⟨_, rfl, ?_⟩) | refine h0_go rfl (so_fieldAddr (v := .dp _ _) rfl rfl rfl rfl rfl rfl rfl rfl rfl rfl ⟨_, rfl, ?_⟩) | refine h0_go rfl (so_fieldAddr (v := .pe _ _ _ _ _) rfl rfl rfl rfl rfl rfl rfl rfl rfl rfl ⟨_, rfl, ?_⟩)
                          first | refine h0_go rfl (so_load (v := .d _) rfl rfl rfl rfl rfl rfl rfl rfl ⟨_, rfl, ?_⟩) | refine h0_go rfl (so_load (v := .own _ _ _ _ _) rfl rfl rfl rfl rfl rfl rfl rfl ⟨_, rfl, ?_⟩)
                          refine h0_go rfl (st_move (v := .d _) rfl rfl rfl ⟨_, rfl, ?_⟩)
                          refine h0_go rfl (so_indexSl rfl rfl rfl rfl rfl rfl rfl (strRows_all _) (by omega) (by rw [strRows_len]; omega) (strRows_get _ _ hlt1) ⟨_, rfl, ?_⟩)
                          refine h0_go rfl (so_load (v := .d _) rfl rfl rfl rfl rfl rfl rfl rfl ⟨_, rfl, ?_⟩)
                          refine h0_go rfl (st_bin rfl rfl rfl rfl rfl ⟨_, rfl, ?_⟩)
                          refine h0_go rfl (st_move (v := .d _) rfl rfl rfl ⟨_, rfl, ?_⟩)
                          refine h0_case 113 rfl (fun hb113 => ?_) (fun hb113 => ?_)
                          · refine h0_no rfl rfl rfl rfl rfl ?_
                            refine h0_no rfl rfl rfl rfl rfl ?_
                            refine h0_no rfl rfl rfl rfl rfl ?_
                            refine h0_no rfl rfl rfl rfl rfl ?_
                            refine h0_no rfl rfl rfl rfl rfl ?_
                            refine h0_no rfl rfl rfl rfl rfl ?_
                            refine h0_no rfl rfl rfl rfl rfl ?_
                            refine h0_no rfl rfl rfl rfl rfl ?_
                            refine h0_no rfl rfl rfl rfl rfl ?_
                            refine h0_no rfl rfl rfl rfl rfl ?_
                            refine h0_nil ?_
                            refine sops_no rfl rfl rfl rfl rfl ?_
                            refine sops_no rfl rfl rfl rfl rfl ?_
                            refine sops_go rfl (st_pick (v := .d _) rfl rfl rfl rfl ?_)
                            refine sops_nil ?_
                            refine swp_condT rfl ?_
                            refine swp_seq ?_
                            refine swp_region ?_
                            refine sops_go rfl (st_assign (v := .d _) rfl rfl rfl ?_)
                            refine sops_nil ?_
                            refine swp_ret ?_
                            with_reducible refine inblk_ret ?_
                            with_reducible refine after_ret ?_
                            with_reducible refine after_ret ?_
                            with_reducible refine inblk_ret ?_
                            with_reducible refine after_ret ?_
                            with_reducible refine inblk_ret ?_
                            with_reducible refine after_ret ?_
                            refine fin_b rfl rfl ?_
                            rw [hS, rowsEq_at strEq vnames names hvn k hlt hlt1 (by simpa [strEq] using hb113)]; rfl
                          · first | refine h0_yes rfl rfl rfl rfl (so_fieldAddr (v := .p _ _ _) rfl rfl rfl rfl rfl rfl rfl rfl rfl rfl ⟨_, rfl, ?_⟩) | refine h0_yes rfl rfl rfl rfl (so_fieldAddr (v := .dp _ _) rfl rfl rfl rfl rfl rfl rfl rfl rfl rfl ⟨_, rfl, ?_⟩) | refine h0_yes rfl rfl rfl rfl (so_fieldAddr (v := .pe _ _ _ _ _) rfl rfl rfl rfl rfl rfl rfl rfl rfl rfl ⟨_, rfl, ?_⟩)
                            first | refine h0_yes rfl rfl rfl rfl (so_load (v := .d _) rfl rfl rfl rfl rfl rfl rfl rfl ⟨_, rfl, ?_⟩) | refine h0_yes rfl rfl rfl rfl (so_load (v := .own _ _ _ _ _) rfl rfl rfl rfl rfl rfl rfl rfl ⟨_, rfl, ?_⟩)
                            refine h0_yes rfl rfl rfl rfl (st_move (v := .d _) rfl rfl rfl ⟨_, rfl, ?_⟩)
                            refine h0_yes rfl rfl rfl rfl (so_indexSl rfl rfl rfl rfl rfl rfl rfl (T.rows_all _) (by omega) (by rw [T.rows_len]; omega) (T.rows_get _ _ hlt2) ⟨_, rfl, ?_⟩)
                            have hyr : (V.rows vlist).getD k [] = (vlist[k]).cells := V.rows_get _ _ hlt3
                            have hall' : ∀ (j : Nat), j < k + 1 → (j = k → strEq vnames[k] names[k] = true ∧ list[k].has vlist[k] = true) → (∀ (h1 : j < vnames.length) (h2 : j < names.length), strEq vnames[j] names[j] = true) ∧ ∀ (h1 : j < list.length) (h2 : j < vlist.length), list[j].has vlist[j] = true := by
                              intro j hj hx
                              rcases Nat.lt_or_ge j k with h1 | h1
                              · exact hall j h1
                              · obtain rfl : j = k := by omega
                                exact ⟨fun _ _ => (hx rfl).1, fun _ _ => (hx rfl).2⟩
                            generalize list[k] = x at ihk hall' hno ⊢
                            generalize vlist[k] = y at ihk hall' hno hyr ⊢
                            obtain ⟨x1, x2, x3⟩ := x
                            obtain ⟨y1, y2, y3, y4, y5, y6, y7, y8, y9⟩ := y
                            first | refine h0_yes rfl rfl rfl rfl (so_load (v := .d (.agg [_, _, _])) rfl rfl rfl rfl rfl rfl rfl rfl ⟨_, rfl, ?_⟩) | refine h0_yes rfl rfl rfl rfl (so_load (v := .agg [_, _, _]) rfl rfl rfl rfl rfl rfl rfl rfl ⟨_, rfl, ?_⟩)
                            first | refine h0_yes rfl rfl rfl rfl (so_fieldAddr (v := .p _ _ _) rfl rfl rfl rfl rfl rfl rfl rfl rfl rfl ⟨_, rfl, ?_⟩) | refine h0_yes rfl rfl rfl rfl (so_fieldAddr (v := .dp _ _) rfl rfl rfl rfl rfl rfl rfl rfl rfl rfl ⟨_, rfl, ?_⟩) | refine h0_yes rfl rfl rfl rfl (so_fieldAddr (v := .pe _ _ _ _ _) rfl rfl rfl rfl rfl rfl rfl rfl rfl rfl ⟨_, rfl, ?_⟩)
                            first | refine h0_yes rfl rfl rfl rfl (so_load (v := .d _) rfl rfl rfl rfl rfl rfl rfl rfl ⟨_, rfl, ?_⟩) | refine h0_yes rfl rfl rfl rfl (so_load (v := .own _ _ _ _ _) rfl rfl rfl rfl rfl rfl rfl rfl ⟨_, rfl, ?_⟩)
                            refine h0_yes rfl rfl rfl rfl (st_move (v := .d _) rfl rfl rfl ⟨_, rfl, ?_⟩)
                            refine h0_yes rfl rfl rfl rfl (so_indexSl rfl rfl rfl rfl rfl rfl rfl (V.rows_all _) (by omega) (by rw [V.rows_len]; omega) hyr ⟨_, rfl, ?_⟩)
                            first | refine h0_yes rfl rfl rfl rfl (so_load (v := .d (.agg [_, _, _, _, _, _, _, _, _])) rfl rfl rfl rfl rfl rfl rfl rfl ⟨_, rfl, ?_⟩) | refine h0_yes rfl rfl rfl rfl (so_load (v := .agg [_, _, _, _, _, _, _, _, _]) rfl rfl rfl rfl rfl rfl rfl rfl ⟨_, rfl, ?_⟩)
                            refine h0_nil ?_
                            refine sops_yes rfl rfl rfl rfl (st_call rfl rfl (ihk) ⟨na_d _, na_d _, trivial⟩ rfl ?_)
                            refine sops_yes rfl rfl rfl rfl (st_not rfl rfl rfl ?_)
                            refine sops_go rfl (st_pick (v := .d _) rfl rfl rfl rfl ?_)
                            refine sops_nil ?_
                            refine swp_cond _ rfl (fun hc126 => ?_) (fun hc126 => ?_)
                            · refine swp_seq ?_
                              refine swp_region ?_
                              refine sops_go rfl (st_assign (v := .d _) rfl rfl rfl ?_)
                              refine sops_nil ?_
                              refine swp_ret ?_
                              with_reducible refine inblk_ret ?_
                              with_reducible refine after_ret ?_
                              with_reducible refine after_ret ?_
                              with_reducible refine inblk_ret ?_
                              with_reducible refine after_ret ?_
                              with_reducible refine inblk_ret ?_
                              with_reducible refine after_ret ?_
                              refine fin_b rfl rfl ?_
                              rw [hS, hno (by simpa using hc126)]; simp
                            · refine swp_skip ?_
                              refine swp_region ?_
                              refine sops_go rfl (st_move (v := .d _) rfl rfl rfl ?_)
                              refine sops_go rfl (st_bin rfl rfl rfl rfl rfl ?_)
                              refine sops_go rfl (st_assign (v := .d _) rfl rfl rfl ?_)
                              refine sops_nil ?_
                              have g1 : strEq vnames[k] names[k] = true := by simpa [strEq] using hb113
                              refine ⟨k + 1, ⟨hlt, fun j hj => hall' j hj fun _ => ⟨g1, by simpa using hc126⟩⟩, by omega, ?_⟩
                              refine wk_of rfl (Nat.le_of_ble_eq_true rfl) (by rw [hB]; exact Nat.zero_le _) (tle_upd (le_eq (next_i64 hlt hvl) rfl) (tle_upd (le_eq rfl rfl) (tle_upd (le_eq rfl rfl) (tle_any _)))) (hle_upd (.cells _ _ ⟨le_any _, le_any _, le_any _, le_any _, le_any _, le_any _, le_any _, le_eq rfl rfl, le_eq rfl rfl, trivial⟩) (hle_upd (.cells _ _ ⟨le_any _, le_eq rfl rfl, le_eq rfl rfl, trivial⟩) (hle_dead _))) (dead_upd (Nat.le_of_ble_eq_true rfl) (dead_upd (Nat.le_of_ble_eq_true rfl) (dead_none)))
                        · have he : vnames.length ≤ k := by have := of_decide_eq_false hc99; rw [strRows_len] at this; omega
                          rw [rowsEq_all strEq vnames names hvn fun j h h' => (hall j (by omega)).1 h h', if_neg (by simp), (T.hasL_iff list vlist hll).2 fun j h h' => (hall j (by omega)).2 h h'] at hS
                          refine swp_exit ?_
                          with_reducible refine after_exit ?_
                          with_reducible refine after_exit ?_
                          refine inblk_hit ?_
                          refine swp_seq ?_
                          refine swp_region ?_
                          refine sops_go rfl (st_assign (v := .d _) rfl rfl rfl ?_)
                          refine sops_nil ?_
                          refine swp_ret ?_
                          with_reducible refine inblk_ret ?_
                          with_reducible refine after_ret ?_
                          exact fin_b rfl rfl hS
                    · rw [if_neg (by rw [hc81]; simp)] at hS
                      refine swp_skip ?_
                      refine swp_seq ?_
                      refine swp_seq ?_
                      refine swp_region ?_
                      have h11 : kind = 11 := by
                        simp only [beq_eq_false_iff_ne, ne_eq] at hc10 hc12 hc17 hc22 hc27 hc38 hc43 hc48 hc53 hc81
                        by_cases h : kind = 11
                        · exact h
                        · have := ti.leaf (by omega)
                          omega
                      rw [if_pos (by rw [h11]; rfl)] at hS
                      have hln := ti.same (.inr h11)
                      first | refine sops_go rfl (so_fieldAddr (v := .p _ _ _) rfl rfl rfl rfl rfl rfl rfl rfl rfl rfl ?_) | refine sops_go rfl (so_fieldAddr (v := .dp _ _) rfl rfl rfl rfl rfl rfl rfl rfl rfl rfl ?_) | refine sops_go rfl (so_fieldAddr (v := .pe _ _ _ _ _) rfl rfl rfl rfl rfl rfl rfl rfl rfl rfl ?_)
                      refine sops_go rfl (so_load (v := .d _) rfl rfl rfl rfl rfl rfl rfl rfl ?_)
                      refine sops_go rfl (st_bin rfl rfl rfl rfl rfl ?_)
                      refine sops_nil ?_
                      refine swp_cond _ rfl (fun hc129 => ?_) (fun hc129 => ?_)
                      · rw [show (vk == 9) = false by simpa using hc129, Bool.false_and, Bool.false_and] at hS
                        refine swp_seq ?_
                        refine swp_region ?_
                        refine sops_go rfl (st_assign (v := .d _) rfl rfl rfl ?_)
                        refine sops_nil ?_
                        refine swp_ret ?_
                        with_reducible refine after_ret ?_
                        exact fin_b rfl rfl hS
                      · have h9 : vk = 9 := by simpa using hc129
                        obtain ⟨y, rfl⟩ : ∃ y, vlist = [y] := List.length_eq_one_iff.1 (vi.one h9)
                        rw [show (vk == 9) = true by simpa using hc129, Bool.true_and] at hS
                        refine swp_skip ?_
                        refine swp_seq ?_
                        refine swp_region ?_
                        first | refine sops_go rfl (so_fieldAddr (v := .p _ _ _) rfl rfl rfl rfl rfl rfl rfl rfl rfl rfl ?_) | refine sops_go rfl (so_fieldAddr (v := .dp _ _) rfl rfl rfl rfl rfl rfl rfl rfl rfl rfl ?_) | refine sops_go rfl (so_fieldAddr (v := .pe _ _ _ _ _) rfl rfl rfl rfl rfl rfl rfl rfl rfl rfl ?_)
                        first | refine sops_go rfl (so_load (v := .d _) rfl rfl rfl rfl rfl rfl rfl rfl ?_) | refine sops_go rfl (so_load (v := .own _ _ _ _ _) rfl rfl rfl rfl rfl rfl rfl rfl ?_)
                        first | refine sops_go rfl (so_fieldAddr (v := .p _ _ _) rfl rfl rfl rfl rfl rfl rfl rfl rfl rfl ?_) | refine sops_go rfl (so_fieldAddr (v := .dp _ _) rfl rfl rfl rfl rfl rfl rfl rfl rfl rfl ?_) | refine sops_go rfl (so_fieldAddr (v := .pe _ _ _ _ _) rfl rfl rfl rfl rfl rfl rfl rfl rfl rfl ?_)
                        refine sops_go rfl (so_load (v := .d _) rfl rfl rfl rfl rfl rfl rfl rfl ?_)
                        refine sops_go rfl (st_call rfl rfl (hpl) ⟨na_d _, na_d _, trivial⟩ rfl ?_)
                        refine sops_go rfl (st_assign (v := .d _) rfl rfl rfl ?_)
                        refine sops_nil ?_
                        refine swp_seq ?_
                        refine swp_regionQ 12 (by kernel_rfl) rfl rfl rfl ?_
                        refine h0_go rfl (st_move (v := .d _) rfl rfl rfl ⟨_, rfl, ?_⟩)
                        refine h0_go rfl (st_bin rfl rfl rfl rfl rfl ⟨_, rfl, ?_⟩)
                        refine h0_go rfl (st_move (v := .d _) rfl rfl rfl ⟨_, rfl, ?_⟩)
                        refine h0_case 137 rfl (fun hb137 => ?_) (fun hb137 => ?_)
                        · rw [show decide (idxOf names text ≥ 0) = true from hb137, Bool.true_and] at hS
                          have hi0 : 0 ≤ idxOf names text := of_decide_eq_true hb137
                          have hi1 : (idxOf names text).toNat < list.length := by
                            have := firstAt_lt (fun y : ByteArray => text.toList == y.toList) names 0 (by omega) hi0
                            have : idxOf names text = firstAt (fun y => text.toList == y.toList) names 0 := rfl
                            omega
                          simp only [headB] at hS
                          rw [T.hasAt_eq _ _ hi1] at hS
                          have ihk := ih _ (List.getElem_mem hi1) y (ti.all _ (List.getElem_mem hi1)) (vi.all y (by simp))
                          obtain ⟨y1, y2, y3, y4, y5, y6, y7, y8, y9⟩ := y
                          first | refine h0_yes rfl rfl rfl rfl (so_fieldAddr (v := .p _ _ _) rfl rfl rfl rfl rfl rfl rfl rfl rfl rfl ⟨_, rfl, ?_⟩) | refine h0_yes rfl rfl rfl rfl (so_fieldAddr (v := .dp _ _) rfl rfl rfl rfl rfl rfl rfl rfl rfl rfl ⟨_, rfl, ?_⟩) | refine h0_yes rfl rfl rfl rfl (so_fieldAddr (v := .pe _ _ _ _ _) rfl rfl rfl rfl rfl rfl rfl rfl rfl rfl ⟨_, rfl, ?_⟩)
                          first | refine h0_yes rfl rfl rfl rfl (so_load (v := .d _) rfl rfl rfl rfl rfl rfl rfl rfl ⟨_, rfl, ?_⟩) | refine h0_yes rfl rfl rfl rfl (so_load (v := .own _ _ _ _ _) rfl rfl rfl rfl rfl rfl rfl rfl ⟨_, rfl, ?_⟩)
                          refine h0_yes rfl rfl rfl rfl (st_move (v := .d _) rfl rfl rfl ⟨_, rfl, ?_⟩)
                          refine h0_yes rfl rfl rfl rfl (so_indexSl rfl rfl rfl rfl rfl rfl rfl (T.rows_all _) hi0 (by rw [T.rows_len]; show idxOf names text < _; omega) (T.rows_get _ _ hi1) ⟨_, rfl, ?_⟩)
                          generalize list[(idxOf names text).toNat] = x at ihk hS ⊢
                          obtain ⟨x1, x2, x3⟩ := x
                          first | refine h0_yes rfl rfl rfl rfl (so_load (v := .d (.agg [_, _, _])) rfl rfl rfl rfl rfl rfl rfl rfl ⟨_, rfl, ?_⟩) | refine h0_yes rfl rfl rfl rfl (so_load (v := .agg [_, _, _]) rfl rfl rfl rfl rfl rfl rfl rfl ⟨_, rfl, ?_⟩)
                          first | refine h0_yes rfl rfl rfl rfl (so_fieldAddr (v := .p _ _ _) rfl rfl rfl rfl rfl rfl rfl rfl rfl rfl ⟨_, rfl, ?_⟩) | refine h0_yes rfl rfl rfl rfl (so_fieldAddr (v := .dp _ _) rfl rfl rfl rfl rfl rfl rfl rfl rfl rfl ⟨_, rfl, ?_⟩) | refine h0_yes rfl rfl rfl rfl (so_fieldAddr (v := .pe _ _ _ _ _) rfl rfl rfl rfl rfl rfl rfl rfl rfl rfl ⟨_, rfl, ?_⟩)
                          first | refine h0_yes rfl rfl rfl rfl (so_load (v := .d _) rfl rfl rfl rfl rfl rfl rfl rfl ⟨_, rfl, ?_⟩) | refine h0_yes rfl rfl rfl rfl (so_load (v := .own _ _ _ _ _) rfl rfl rfl rfl rfl rfl rfl rfl ⟨_, rfl, ?_⟩)
                          refine h0_yes rfl rfl rfl rfl (so_indexSl rfl rfl rfl rfl rfl rfl rfl (V.rows_all _) (by omega) (by simp [V.rows]) rfl ⟨_, rfl, ?_⟩)
                          first | refine h0_yes rfl rfl rfl rfl (so_load (v := .d (.agg [_, _, _, _, _, _, _, _, _])) rfl rfl rfl rfl rfl rfl rfl rfl ⟨_, rfl, ?_⟩) | refine h0_yes rfl rfl rfl rfl (so_load (v := .agg [_, _, _, _, _, _, _, _, _]) rfl rfl rfl rfl rfl rfl rfl rfl ⟨_, rfl, ?_⟩)
                          refine h0_nil ?_
                          refine sops_yes rfl rfl rfl rfl (st_call rfl rfl (ihk) ⟨na_d _, na_d _, trivial⟩ rfl ?_)
                          refine sops_go rfl (st_pick (v := .d _) rfl rfl rfl rfl ?_)
                          refine sops_go rfl (st_assign (v := .d _) rfl rfl rfl ?_)
                          refine sops_nil ?_
                          refine swp_ret ?_
                          exact fin_b rfl rfl hS
                        · rw [show decide (idxOf names text ≥ 0) = false from hb137, Bool.false_and] at hS
                          refine h0_no rfl rfl rfl rfl rfl ?_
                          refine h0_no rfl rfl rfl rfl rfl ?_
                          refine h0_no rfl rfl rfl rfl rfl ?_
                          refine h0_no rfl rfl rfl rfl rfl ?_
                          refine h0_no rfl rfl rfl rfl rfl ?_
                          refine h0_no rfl rfl rfl rfl rfl ?_
                          refine h0_no rfl rfl rfl rfl rfl ?_
                          refine h0_no rfl rfl rfl rfl rfl ?_
                          refine h0_no rfl rfl rfl rfl rfl ?_
                          refine h0_nil ?_
                          refine sops_no rfl rfl rfl rfl rfl ?_
                          refine sops_go rfl (st_pick (v := .d _) rfl rfl rfl rfl ?_)
                          refine sops_go rfl (st_assign (v := .d _) rfl rfl rfl ?_)
                          refine sops_nil ?_
                          refine swp_ret ?_
                          exact fin_b rfl rfl hS

theorem rHas_pure (t : T) (v : V) (ht : t.fit) (hv : v.fit) : Pure env 10 [.d (t.df true), .d (v.df true)] (.tup [.d (.v (.bool (t.Has v).1)), .d (.v (.int .i64 (t.Has v).2))]) := by
  have c1 := rcheck_pure t ht true
  have c2 := vcheck_pure v hv true
  have c3 : t.check = 0 → v.check = 0 → Pure env 23 [.d (t.df true), .d (v.df true)] (.d (.v (.bool (t.has v)))) := fun h1 h2 => rin_pure t v (T.check_ok h1) (V.check_ok h2)
  let bo : Int := if (t.check != 0) = true then t.check else v.check
  have hE : bo = if (t.check != 0) = true then t.check else v.check := rfl
  have hS : t.Has v = if (bo != 0) = true then (false, bo) else (t.has v, 0) := by
    unfold T.Has
    show _ = if ((if (t.check != 0) = true then t.check else v.check) != 0) = true then (false, if (t.check != 0) = true then t.check else v.check) else (t.has v, 0)
    by_cases h : (t.check != 0) = true
    · rw [if_pos h, if_pos h, if_pos h]
    · rw [if_neg h, if_neg h]
  have c3' : bo = 0 → Pure env 23 [.d (t.df true), .d (v.df true)] (.d (.v (.bool (t.has v)))) := fun h => by
    by_cases h1 : (t.check != 0) = true
    · rw [hE, if_pos h1] at h; rw [h] at h1; simp at h1
    · rw [hE, if_neg h1] at h; exact c3 (by simpa using h1) h
  clear c3
  clear_value bo
  generalize t.check = r1 at *
  generalize v.check = r2 at *
  generalize t.has v = r3 at *
  generalize t.Has v = R at *
  obtain ⟨ka, na, la⟩ := t
  obtain ⟨kind, flag, neg, digits, exp, bits, text, names, list⟩ := v
  refine pure_of_body Tryz.func10 rfl rfl rfl fun B hB => ?_
  refine swp_seq ?_
  refine swp_region ?_
  refine sops_go rfl (so_box (cs := [_, _, _]) rfl rfl rfl ?_)
  refine sops_go rfl (so_box (cs := [_, _, _, _, _, _, _, _, _]) rfl rfl rfl ?_)
  refine sops_go rfl (st_assign (v := .d _) rfl rfl rfl ?_)
  refine sops_go rfl (st_assign (v := .d _) rfl rfl rfl ?_)
  refine sops_nil ?_
  refine swp_seq ?_
  refine swp_region ?_
  first | refine sops_go rfl (so_load (v := .d (.agg [_, _, _])) rfl rfl rfl rfl rfl rfl rfl rfl ?_) | refine sops_go rfl (so_load (v := .agg [_, _, _]) rfl rfl rfl rfl rfl rfl rfl rfl ?_)
  refine sops_go rfl (st_call rfl rfl (c1) ⟨na_d _, trivial⟩ rfl ?_)
  refine sops_go rfl (st_assign (v := .d _) rfl rfl rfl ?_)
  refine sops_nil ?_
  refine swp_seqF (F := fun e : Int => ({ t := upd (upd (upd (fun _ => .any) 2 (.p 0 0 0)) 3 (.p 1 0 0)) 6 (.d (.v (.int .i64 e))), n := 19, h := upd (upd (fun _ => .dead) 0 (.cells [.d (.v (.int .i64 ka)), .d (.sl true (strRows na)), .d (.sl true (T.rows la))])) 1 (.cells [.d (.v (.int .i64 kind)), .d (.v (.bool flag)), .d (.v (.bool neg)), .d (.v (.string digits)), .d (.v (.int .i64 exp)), .d (.v (.int .u64 bits)), .d (.v (.string text)), .d (.sl true (strRows names)), .d (.sl true (V.rows list))]), nx := 2 } : St)) (P := fun e => bo = e) ?_ ?_
  · refine swp_seq ?_
    refine swp_region ?_
    refine sops_go rfl (st_move (v := .d _) rfl rfl rfl ?_)
    refine sops_go rfl (st_bin rfl rfl rfl rfl rfl ?_)
    refine sops_nil ?_
    refine swp_cond _ rfl (fun hc10 => ?_) (fun hc10 => ?_)
    · rw [if_neg (by rw [show r1 = 0 by simpa using hc10]; simp)] at hE
      refine swp_region ?_
      first | refine sops_go rfl (so_load (v := .d (.agg [_, _, _, _, _, _, _, _, _])) rfl rfl rfl rfl rfl rfl rfl rfl ?_) | refine sops_go rfl (so_load (v := .agg [_, _, _, _, _, _, _, _, _]) rfl rfl rfl rfl rfl rfl rfl rfl ?_)
      refine sops_go rfl (st_call rfl rfl (c2) ⟨na_d _, trivial⟩ rfl ?_)
      refine sops_go rfl (st_assign (v := .d _) rfl rfl rfl ?_)
      refine sops_nil ?_
      refine ⟨_, hE, ?_⟩
      refine wk_of rfl (Nat.le_of_ble_eq_true rfl) (by rw [hB]; exact Nat.zero_le _) (tle_upd (le_eq rfl rfl) (tle_upd (le_eq rfl rfl) (tle_upd (le_eq rfl rfl) (tle_any _)))) (hle_upd (.cells _ _ ⟨le_eq rfl rfl, le_eq rfl rfl, le_eq rfl rfl, le_eq rfl rfl, le_eq rfl rfl, le_eq rfl rfl, le_eq rfl rfl, le_eq rfl rfl, le_eq rfl rfl, trivial⟩) (hle_upd (.cells _ _ ⟨le_eq rfl rfl, le_eq rfl rfl, le_eq rfl rfl, trivial⟩) (hle_dead _))) (dead_upd (Nat.le_of_ble_eq_true rfl) (dead_upd (Nat.le_of_ble_eq_true rfl) (dead_none)))
    · rw [if_pos (by simpa using hc10)] at hE
      refine swp_skip ?_
      refine ⟨_, hE, ?_⟩
      refine wk_of rfl (Nat.le_of_ble_eq_true rfl) (by rw [hB]; exact Nat.zero_le _) (tle_upd (le_eq rfl rfl) (tle_upd (le_eq rfl rfl) (tle_upd (le_eq rfl rfl) (tle_any _)))) (hle_upd (.cells _ _ ⟨le_eq rfl rfl, le_eq rfl rfl, le_eq rfl rfl, le_eq rfl rfl, le_eq rfl rfl, le_eq rfl rfl, le_eq rfl rfl, le_eq rfl rfl, le_eq rfl rfl, trivial⟩) (hle_upd (.cells _ _ ⟨le_eq rfl rfl, le_eq rfl rfl, le_eq rfl rfl, trivial⟩) (hle_dead _))) (dead_upd (Nat.le_of_ble_eq_true rfl) (dead_upd (Nat.le_of_ble_eq_true rfl) (dead_none)))
  · rintro e rfl
    refine swp_seq ?_
    refine swp_seq ?_
    refine swp_region ?_
    refine sops_go rfl (st_move (v := .d _) rfl rfl rfl ?_)
    refine sops_go rfl (st_bin rfl rfl rfl rfl rfl ?_)
    refine sops_nil ?_
    refine swp_cond _ rfl (fun hc14 => ?_) (fun hc14 => ?_)
    · rw [if_pos hc14] at hS
      refine swp_seq ?_
      refine swp_region ?_
      refine sops_go rfl (st_move (v := .d _) rfl rfl rfl ?_)
      refine sops_go rfl (st_assign (v := .d _) rfl rfl rfl ?_)
      refine sops_go rfl (st_assign (v := .d _) rfl rfl rfl ?_)
      refine sops_nil ?_
      refine swp_ret ?_
      with_reducible refine after_ret ?_
      rw [hS]; exact fin_2v rfl rfl rfl rfl rfl
    · rw [if_neg (by rw [hc14]; simp)] at hS
      have h0 : bo = 0 := by simpa using hc14
      refine swp_skip ?_
      refine swp_seq ?_
      refine swp_region ?_
      first | refine sops_go rfl (so_load (v := .d (.agg [_, _, _])) rfl rfl rfl rfl rfl rfl rfl rfl ?_) | refine sops_go rfl (so_load (v := .agg [_, _, _]) rfl rfl rfl rfl rfl rfl rfl rfl ?_)
      first | refine sops_go rfl (so_load (v := .d (.agg [_, _, _, _, _, _, _, _, _])) rfl rfl rfl rfl rfl rfl rfl rfl ?_) | refine sops_go rfl (so_load (v := .agg [_, _, _, _, _, _, _, _, _]) rfl rfl rfl rfl rfl rfl rfl rfl ?_)
      refine sops_go rfl (st_call rfl rfl (c3' h0) ⟨na_d _, na_d _, trivial⟩ rfl ?_)
      refine sops_go rfl (st_assign (v := .d _) rfl rfl rfl ?_)
      refine sops_go rfl (st_assign (v := .d _) rfl rfl rfl ?_)
      refine sops_nil ?_
      refine swp_ret ?_
      rw [hS]; exact fin_2v rfl rfl rfl rfl rfl
end Go.Proofs.YtdcpnpcmgfmenaaGreatDoor
/-
  Walks: copies in memory of their own. Conditions: none.
-/
set_option linter.unusedVariables false
set_option maxRecDepth 100000
namespace Go.Proofs.YtdcpnpcmgfmenaaGreatDoor
open Go Go.Proofs.YtdcpnpcmgfmenaaGreatDoor.Lg

mutual
/-- No row is longer than the reach. -/
def T.near : T → Prop
  | .mk _ names list => names.length * 16 ≤ 140737488355328 ∧ list.length * 56 ≤ 140737488355328 ∧ T.nearL list
def T.nearL : List T → Prop
  | [] => True
  | x :: r => x.near ∧ T.nearL r
end
theorem T.nearL_iff : ∀ l : List T, T.nearL l ↔ ∀ x ∈ l, x.near
  | [] => by simp [T.nearL]
  | x :: r => by rw [T.nearL, T.nearL_iff r]; simp
mutual
def V.near : V → Prop
  | .mk _ _ _ _ _ _ _ names list => names.length * 16 ≤ 140737488355328 ∧ list.length * 120 ≤ 140737488355328 ∧ V.nearL list
def V.nearL : List V → Prop
  | [] => True
  | x :: r => x.near ∧ V.nearL r
end
theorem V.nearL_iff : ∀ l : List V, V.nearL l ↔ ∀ x ∈ l, x.near
  | [] => by simp [V.nearL]
  | x :: r => by rw [V.nearL, V.nearL_iff r]; simp
theorem V.rows_take (l : List V) (k : Nat) (h : k < l.length) : V.rows (l.take (k + 1)) = V.rows (l.take k) ++ [l[k].cells] := by
  simp only [V.rows_eq, List.take_succ_eq_append_getElem h, List.map_append]; rfl
theorem strRows_news (l : List ByteArray) : ∀ r ∈ (strRows l).map (·.map AV.d), r.length = 1 ∧ r.all cellOk = true := by
  intro r hr
  obtain ⟨x, hx, rfl⟩ := List.mem_map.1 hr
  obtain ⟨s, _, rfl⟩ := List.mem_map.1 hx
  exact ⟨rfl, rfl⟩
theorem V.rows_keeps (l : List V) : ∀ r ∈ V.rows l, ∀ c ∈ r, Keeps c := by
  intro r hr c hc
  rw [V.rows_eq] at hr
  obtain ⟨x, _, rfl⟩ := List.mem_map.1 hr
  exact V.keeps x c hc

theorem copyType_pure (t : T) : t.near → Pure env 6 [.d t.d] (.d t.d) := by
  revert t
  apply T.ind
  intro kind names list ih hn
  obtain ⟨hn1, hn2, hn3⟩ := hn
  rw [T.nearL_iff] at hn3
  refine pure_of_body Tryz.func6 rfl rfl rfl fun B hB => ?_
  refine swp_seq ?_
  refine swp_region ?_
  refine sops_go rfl (so_box (cs := [_, _, _]) rfl rfl rfl ?_)
  refine sops_go rfl (so_alloc (cs := [_, _, _]) rfl rfl rfl rfl ?_)
  refine sops_nil ?_
  refine swp_seqF (F := fun _ : Unit => ({ t := upd (upd (upd (fun _ => .any) 1 (.p 0 0 0)) 2 (.p 1 0 0)) 3 (.d (.v (.slice none 0 0))), n := 33, h := upd (upd (fun _ => .dead) 0 (.cells [.d (.v (.int .i64 kind)), .d (.sl true (strRows names)), .d (.sl true (T.rows list))])) 1 (.cells [.any, .any, .any]), nx := 2 } : St)) (P := fun _ => True) ?_ ?_
  · refine swp_region ?_
    first | refine sops_go rfl (st_assign (v := .d _) rfl rfl rfl ?_) | refine sops_go rfl (st_assign (v := .own _ _ _ _ _) rfl rfl rfl ?_)
    refine sops_nil ?_
    refine ⟨(), trivial, ?_⟩
    refine wk_of rfl (Nat.le_of_ble_eq_true rfl) (by rw [hB]; exact Nat.zero_le _) (tle_upd (le_eq rfl rfl) (tle_upd (le_eq rfl rfl) (tle_upd (le_eq rfl rfl) (tle_any _)))) (hle_upd (.cells _ _ ⟨le_any _, le_any _, le_any _, trivial⟩) (hle_upd (.cells _ _ ⟨le_eq rfl rfl, le_eq rfl rfl, le_eq rfl rfl, trivial⟩) (hle_dead _))) (dead_upd (Nat.le_of_ble_eq_true rfl) (dead_upd (Nat.le_of_ble_eq_true rfl) (dead_none)))
  · rintro ⟨⟩ -
    refine swp_wk (wk_virt 3 9 1 rfl) ?_
    refine swp_seq ?_
    refine swp_region ?_
    first | refine sops_go rfl (st_move (v := .d _) rfl rfl rfl ?_) | refine sops_go rfl (st_move (v := .own _ _ _ _ _) rfl rfl rfl ?_)
    first | refine sops_go rfl (so_fieldAddr (v := .p _ _ _) rfl rfl rfl rfl rfl rfl rfl rfl rfl rfl ?_) | refine sops_go rfl (so_fieldAddr (v := .dp _ _) rfl rfl rfl rfl rfl rfl rfl rfl rfl rfl ?_) | refine sops_go rfl (so_fieldAddr (v := .pe _ _ _ _ _) rfl rfl rfl rfl rfl rfl rfl rfl rfl rfl ?_)
    first | refine sops_go rfl (so_load (v := .d _) rfl rfl rfl rfl rfl rfl rfl rfl ?_) | refine sops_go rfl (so_load (v := .own _ _ _ _ _) rfl rfl rfl rfl rfl rfl rfl rfl ?_)
    refine sops_go rfl (so_append rfl rfl rfl rfl rfl rfl rfl rfl rfl rfl rfl (strRows_news names) (by show (_ + _) * 16 ≤ _; simp [strRows]; omega) (by simp [strRows]; omega) ?_)
    first | refine sops_go rfl (st_assign (v := .d _) rfl rfl rfl ?_) | refine sops_go rfl (st_assign (v := .own _ _ _ _ _) rfl rfl rfl ?_)
    refine sops_nil ?_
    refine swp_seq ?_
    refine swp_region ?_
    first | refine sops_go rfl (st_assign (v := .d _) rfl rfl rfl ?_) | refine sops_go rfl (st_assign (v := .own _ _ _ _ _) rfl rfl rfl ?_)
    refine sops_nil ?_
    refine swp_seq ?_
    refine swp_seq ?_
    refine swp_region ?_
    refine sops_go rfl (st_assign (v := .d _) rfl rfl rfl ?_)
    refine sops_nil ?_
    refine swp_block ?_
    refine swp_wk (wk_virt 4 26 3 rfl) ?_
    refine swp_loopF (F := fun i : Nat × Nat => { t := upd (upd (upd (upd (upd (fun _ => .any) 1 (.p 0 0 0)) 2 (.p 1 0 0)) 3 (.own 2 1 1 0 (strRows names).length)) 4 (.own 3 i.2 3 0 i.1)) 5 (.d (.v (.int .i64 i.1))), n := 33, h := upd (upd (upd (upd (fun _ => .dead) 0 (.cells [.d (.v (.int .i64 kind)), .any, .d (.sl true (T.rows list))])) 1 (.cells [.any, .any, .any])) 2 (.arr 1 9 1 ((strRows names).map (·.map .d)))) 3 (.arr i.2 26 3 ((T.rows (list.take i.1)).map (·.map .d))), nx := 4 })
      (fun i => i.1 ≤ list.length) (fun i => list.length - i.1) (0, 0) (Nat.zero_le _) ?_ ?_
    · refine wk_of rfl (Nat.le_of_ble_eq_true rfl) (by rw [hB]; exact Nat.zero_le _) (tle_upd (le_eq rfl rfl) (tle_upd (le_eq rfl rfl) (tle_upd (le_eq (own_len (by simp)) rfl) (tle_upd (le_eq rfl rfl) (tle_upd (le_eq rfl rfl) (tle_any _)))))) (hle_upd (.arr _ _ _ _ _ (rfl) (rows_bnd _ _)) (hle_upd (.arr _ _ _ _ _ ((by simp)) (rows_bnd _ _)) (hle_upd (.cells _ _ ⟨le_any _, le_any _, le_any _, trivial⟩) (hle_upd (.cells _ _ ⟨le_eq rfl rfl, le_any _, le_eq rfl rfl, trivial⟩) (hle_dead _))))) (dead_upd (Nat.le_of_ble_eq_true rfl) (dead_upd (Nat.le_of_ble_eq_true rfl) (dead_upd (Nat.le_of_ble_eq_true rfl) (dead_upd (Nat.le_of_ble_eq_true rfl) (dead_none)))))
    rintro ⟨k, ver⟩ hk
    have hk : k ≤ list.length := hk
    refine swp_seq ?_
    refine swp_seq ?_
    refine swp_region ?_
    refine sops_go rfl (st_move (v := .d _) rfl rfl rfl ?_)
    first | refine sops_go rfl (so_fieldAddr (v := .p _ _ _) rfl rfl rfl rfl rfl rfl rfl rfl rfl rfl ?_) | refine sops_go rfl (so_fieldAddr (v := .dp _ _) rfl rfl rfl rfl rfl rfl rfl rfl rfl rfl ?_) | refine sops_go rfl (so_fieldAddr (v := .pe _ _ _ _ _) rfl rfl rfl rfl rfl rfl rfl rfl rfl rfl ?_)
    first | refine sops_go rfl (so_load (v := .d _) rfl rfl rfl rfl rfl rfl rfl rfl ?_) | refine sops_go rfl (so_load (v := .own _ _ _ _ _) rfl rfl rfl rfl rfl rfl rfl rfl ?_)
    refine sops_go rfl (so_lenSl rfl rfl rfl rfl rfl ?_)
    refine sops_go rfl (st_bin rfl rfl rfl rfl rfl ?_)
    refine sops_nil ?_
    refine swp_cond _ rfl (fun hc15 => ?_) (fun hc15 => ?_)
    · have hlt : k < list.length := by have := of_decide_eq_true hc15; rw [T.rows_len] at this; omega
      have hx := ih _ (List.getElem_mem hlt) (hn3 _ (List.getElem_mem hlt))
      have htk := T.rows_take list k hlt
      refine swp_skip ?_
      refine swp_seq ?_
      refine swp_block ?_
      refine swp_seq ?_
      refine swp_region ?_
      first | refine sops_go rfl (so_fieldAddr (v := .p _ _ _) rfl rfl rfl rfl rfl rfl rfl rfl rfl rfl ?_) | refine sops_go rfl (so_fieldAddr (v := .dp _ _) rfl rfl rfl rfl rfl rfl rfl rfl rfl rfl ?_) | refine sops_go rfl (so_fieldAddr (v := .pe _ _ _ _ _) rfl rfl rfl rfl rfl rfl rfl rfl rfl rfl ?_)
      first | refine sops_go rfl (so_load (v := .d _) rfl rfl rfl rfl rfl rfl rfl rfl ?_) | refine sops_go rfl (so_load (v := .own _ _ _ _ _) rfl rfl rfl rfl rfl rfl rfl rfl ?_)
      refine sops_go rfl (st_move (v := .d _) rfl rfl rfl ?_)
      refine sops_go rfl (so_indexSl rfl rfl rfl rfl rfl rfl rfl (T.rows_all _) (by omega) (by rw [T.rows_len]; omega) (T.rows_get _ _ hlt) ?_)
      generalize list[k] = x at hx htk ⊢
      obtain ⟨x1, x2, x3⟩ := x
      first | refine sops_go rfl (so_load (v := .d (.agg [_, _, _])) rfl rfl rfl rfl rfl rfl rfl rfl ?_) | refine sops_go rfl (so_load (v := .agg [_, _, _]) rfl rfl rfl rfl rfl rfl rfl rfl ?_)
      refine sops_go rfl (st_call rfl rfl (hx) ⟨na_d _, trivial⟩ rfl ?_)
      refine sops_go rfl (so_alloc (cs := [_, _, _]) rfl rfl rfl rfl ?_)
      refine sops_go rfl (so_store rfl rfl rfl rfl rfl rfl rfl rfl rfl (zs := [_, _, _]) rfl ?_)
      refine sops_nil ?_
      refine swp_region ?_
      first | refine sops_go rfl (st_move (v := .d _) rfl rfl rfl ?_) | refine sops_go rfl (st_move (v := .own _ _ _ _ _) rfl rfl rfl ?_)
      first | refine sops_go rfl (so_load (v := .d (.agg [_, _, _])) rfl rfl rfl rfl rfl rfl rfl rfl ?_) | refine sops_go rfl (so_load (v := .agg [_, _, _]) rfl rfl rfl rfl rfl rfl rfl rfl ?_)
      refine sops_go rfl (so_buildSlice (rows := [[_, _, _]]) rfl rfl rfl rfl rfl rfl rfl rfl rfl ?_)
      refine sops_go rfl (so_append rfl rfl rfl rfl rfl rfl rfl rfl rfl rfl (by simp [T.rows_len]; omega) (by intro r hr; simp at hr; subst hr; exact ⟨rfl, rfl⟩) (by show (_ + _) * 56 ≤ _; simp [T.rows_len]; omega) (by simp [T.rows_len]; omega) ?_)
      first | refine sops_go rfl (st_assign (v := .d _) rfl rfl rfl ?_) | refine sops_go rfl (st_assign (v := .own _ _ _ _ _) rfl rfl rfl ?_)
      refine sops_nil ?_
      refine swp_region ?_
      refine sops_go rfl (st_move (v := .d _) rfl rfl rfl ?_)
      refine sops_go rfl (st_bin rfl rfl rfl rfl rfl ?_)
      refine sops_go rfl (st_assign (v := .d _) rfl rfl rfl ?_)
      refine sops_nil ?_
      refine ⟨(k + 1, ver + 1), hlt, by show list.length - (k + 1) < list.length - k; omega, ?_⟩
      refine wk_of rfl (Nat.le_of_ble_eq_true rfl) (by rw [hB]; exact Nat.zero_le _) (tle_upd (le_eq (next_i64 hlt (by omega)) rfl) (tle_upd (le_eq (own_len (by simp [T.rows_len]; omega)) rfl) (tle_upd (le_eq rfl rfl) (tle_upd (le_eq rfl rfl) (tle_upd (le_eq rfl rfl) (tle_any _)))))) (hle_upd (.arr _ _ _ _ _ ((by rw [htk]; simp [T.cells])) (rows_bnd _ _)) (hle_upd (.arr _ _ _ _ _ (rfl) (rows_bnd _ _)) (hle_upd (.cells _ _ ⟨le_any _, le_any _, le_any _, trivial⟩) (hle_upd (.cells _ _ ⟨le_eq rfl rfl, le_any _, le_eq rfl rfl, trivial⟩) (hle_dead _))))) (dead_upd (Nat.le_of_ble_eq_true rfl) (dead_upd (Nat.le_of_ble_eq_true rfl) (dead_upd (Nat.le_of_ble_eq_true rfl) (dead_upd (Nat.le_of_ble_eq_true rfl) (dead_none)))))
    · have he : k = list.length := by have := of_decide_eq_false hc15; rw [T.rows_len] at this; omega
      subst he
      rw [List.take_length]
      refine swp_exit ?_
      with_reducible refine after_exit ?_
      with_reducible refine after_exit ?_
      refine inblk_hit ?_
      refine swp_seq ?_
      refine swp_region ?_
      first | refine sops_go rfl (st_move (v := .d _) rfl rfl rfl ?_) | refine sops_go rfl (st_move (v := .own _ _ _ _ _) rfl rfl rfl ?_)
      first | refine sops_go rfl (so_fieldAddr (v := .p _ _ _) rfl rfl rfl rfl rfl rfl rfl rfl rfl rfl ?_) | refine sops_go rfl (so_fieldAddr (v := .dp _ _) rfl rfl rfl rfl rfl rfl rfl rfl rfl rfl ?_) | refine sops_go rfl (so_fieldAddr (v := .pe _ _ _ _ _) rfl rfl rfl rfl rfl rfl rfl rfl rfl rfl ?_)
      refine sops_go rfl (so_store rfl rfl rfl rfl rfl rfl rfl rfl rfl (zs := [_, _, _]) rfl ?_)
      refine sops_nil ?_
      refine swp_seq ?_
      refine swp_region ?_
      first | refine sops_go rfl (st_move (v := .d _) rfl rfl rfl ?_) | refine sops_go rfl (st_move (v := .own _ _ _ _ _) rfl rfl rfl ?_)
      first | refine sops_go rfl (so_fieldAddr (v := .p _ _ _) rfl rfl rfl rfl rfl rfl rfl rfl rfl rfl ?_) | refine sops_go rfl (so_fieldAddr (v := .dp _ _) rfl rfl rfl rfl rfl rfl rfl rfl rfl rfl ?_) | refine sops_go rfl (so_fieldAddr (v := .pe _ _ _ _ _) rfl rfl rfl rfl rfl rfl rfl rfl rfl rfl ?_)
      refine sops_go rfl (so_store rfl rfl rfl rfl rfl rfl rfl rfl rfl (zs := [_, _, _]) rfl ?_)
      refine sops_nil ?_
      refine swp_seq ?_
      refine swp_region ?_
      first | refine sops_go rfl (so_load (v := .d (.agg [_, _, _])) rfl rfl rfl rfl rfl rfl rfl rfl ?_) | refine sops_go rfl (so_load (v := .agg [_, _, _]) rfl rfl rfl rfl rfl rfl rfl rfl ?_)
      refine sops_go rfl (so_store rfl rfl rfl rfl rfl rfl rfl rfl rfl (zs := [_, _, _]) rfl ?_)
      refine sops_nil ?_
      refine swp_ret ?_
      exact fin_c rfl (rc_of rfl rfl rfl rfl rfl (ra_agg ⟨ra_d (keeps_v _), ra_row rfl rfl (strRows_keeps _), ra_row rfl (by rw [T.rows_len]) (T.rows_keeps _), trivial⟩))

theorem copy_pure (t : V) : t.near → Pure env 7 [.d t.d] (.d t.d) := by
  revert t
  apply V.ind
  intro kind flag neg digits exp bits text names list ih hn
  obtain ⟨hn1, hn2, hn3⟩ := hn
  rw [V.nearL_iff] at hn3
  refine pure_of_body Tryz.func7 rfl rfl rfl fun B hB => ?_
  refine swp_seq ?_
  refine swp_region ?_
  refine sops_go rfl (so_box (cs := [_, _, _, _, _, _, _, _, _]) rfl rfl rfl ?_)
  refine sops_go rfl (so_alloc (cs := [_, _, _, _, _, _, _, _, _]) rfl rfl rfl rfl ?_)
  refine sops_nil ?_
  refine swp_seqF (F := fun _ : Unit => ({ t := upd (upd (upd (fun _ => .any) 1 (.p 0 0 0)) 2 (.p 1 0 0)) 3 (.d (.v (.slice none 0 0))), n := 31, h := upd (upd (fun _ => .dead) 0 (.cells [.d (.v (.int .i64 kind)), .d (.v (.bool flag)), .d (.v (.bool neg)), .d (.v (.string digits)), .d (.v (.int .i64 exp)), .d (.v (.int .u64 bits)), .d (.v (.string text)), .d (.sl true (strRows names)), .d (.sl true (V.rows list))])) 1 (.cells [.any, .any, .any, .any, .any, .any, .any, .any, .any]), nx := 2 } : St)) (P := fun _ => True) ?_ ?_
  · refine swp_region ?_
    first | refine sops_go rfl (st_assign (v := .d _) rfl rfl rfl ?_) | refine sops_go rfl (st_assign (v := .own _ _ _ _ _) rfl rfl rfl ?_)
    refine sops_nil ?_
    refine ⟨(), trivial, ?_⟩
    refine wk_of rfl (Nat.le_of_ble_eq_true rfl) (by rw [hB]; exact Nat.zero_le _) (tle_upd (le_eq rfl rfl) (tle_upd (le_eq rfl rfl) (tle_upd (le_eq rfl rfl) (tle_any _)))) (hle_upd (.cells _ _ ⟨le_any _, le_any _, le_any _, le_any _, le_any _, le_any _, le_any _, le_any _, le_any _, trivial⟩) (hle_upd (.cells _ _ ⟨le_eq rfl rfl, le_eq rfl rfl, le_eq rfl rfl, le_eq rfl rfl, le_eq rfl rfl, le_eq rfl rfl, le_eq rfl rfl, le_eq rfl rfl, le_eq rfl rfl, trivial⟩) (hle_dead _))) (dead_upd (Nat.le_of_ble_eq_true rfl) (dead_upd (Nat.le_of_ble_eq_true rfl) (dead_none)))
  · rintro ⟨⟩ -
    refine swp_wk (wk_virt 3 9 1 rfl) ?_
    refine swp_seq ?_
    refine swp_region ?_
    first | refine sops_go rfl (st_move (v := .d _) rfl rfl rfl ?_) | refine sops_go rfl (st_move (v := .own _ _ _ _ _) rfl rfl rfl ?_)
    first | refine sops_go rfl (so_fieldAddr (v := .p _ _ _) rfl rfl rfl rfl rfl rfl rfl rfl rfl rfl ?_) | refine sops_go rfl (so_fieldAddr (v := .dp _ _) rfl rfl rfl rfl rfl rfl rfl rfl rfl rfl ?_) | refine sops_go rfl (so_fieldAddr (v := .pe _ _ _ _ _) rfl rfl rfl rfl rfl rfl rfl rfl rfl rfl ?_)
    first | refine sops_go rfl (so_load (v := .d _) rfl rfl rfl rfl rfl rfl rfl rfl ?_) | refine sops_go rfl (so_load (v := .own _ _ _ _ _) rfl rfl rfl rfl rfl rfl rfl rfl ?_)
    refine sops_go rfl (so_append rfl rfl rfl rfl rfl rfl rfl rfl rfl rfl rfl (strRows_news names) (by show (_ + _) * 16 ≤ _; simp [strRows]; omega) (by simp [strRows]; omega) ?_)
    first | refine sops_go rfl (st_assign (v := .d _) rfl rfl rfl ?_) | refine sops_go rfl (st_assign (v := .own _ _ _ _ _) rfl rfl rfl ?_)
    refine sops_nil ?_
    refine swp_seq ?_
    refine swp_region ?_
    first | refine sops_go rfl (st_assign (v := .d _) rfl rfl rfl ?_) | refine sops_go rfl (st_assign (v := .own _ _ _ _ _) rfl rfl rfl ?_)
    refine sops_nil ?_
    refine swp_seq ?_
    refine swp_seq ?_
    refine swp_region ?_
    refine sops_go rfl (st_assign (v := .d _) rfl rfl rfl ?_)
    refine sops_nil ?_
    refine swp_block ?_
    refine swp_wk (wk_virt 4 33 9 rfl) ?_
    refine swp_loopF (F := fun i : Nat × Nat => { t := upd (upd (upd (upd (upd (fun _ => .any) 1 (.p 0 0 0)) 2 (.p 1 0 0)) 3 (.own 2 1 1 0 (strRows names).length)) 4 (.own 3 i.2 9 0 i.1)) 5 (.d (.v (.int .i64 i.1))), n := 31, h := upd (upd (upd (upd (fun _ => .dead) 0 (.cells [.d (.v (.int .i64 kind)), .d (.v (.bool flag)), .d (.v (.bool neg)), .d (.v (.string digits)), .d (.v (.int .i64 exp)), .d (.v (.int .u64 bits)), .d (.v (.string text)), .any, .d (.sl true (V.rows list))])) 1 (.cells [.any, .any, .any, .any, .any, .any, .any, .any, .any])) 2 (.arr 1 9 1 ((strRows names).map (·.map .d)))) 3 (.arr i.2 33 9 ((V.rows (list.take i.1)).map (·.map .d))), nx := 4 })
      (fun i => i.1 ≤ list.length) (fun i => list.length - i.1) (0, 0) (Nat.zero_le _) ?_ ?_
    · refine wk_of rfl (Nat.le_of_ble_eq_true rfl) (by rw [hB]; exact Nat.zero_le _) (tle_upd (le_eq rfl rfl) (tle_upd (le_eq rfl rfl) (tle_upd (le_eq (own_len (by simp)) rfl) (tle_upd (le_eq rfl rfl) (tle_upd (le_eq rfl rfl) (tle_any _)))))) (hle_upd (.arr _ _ _ _ _ (rfl) (rows_bnd _ _)) (hle_upd (.arr _ _ _ _ _ ((by simp)) (rows_bnd _ _)) (hle_upd (.cells _ _ ⟨le_any _, le_any _, le_any _, le_any _, le_any _, le_any _, le_any _, le_any _, le_any _, trivial⟩) (hle_upd (.cells _ _ ⟨le_eq rfl rfl, le_eq rfl rfl, le_eq rfl rfl, le_eq rfl rfl, le_eq rfl rfl, le_eq rfl rfl, le_eq rfl rfl, le_any _, le_eq rfl rfl, trivial⟩) (hle_dead _))))) (dead_upd (Nat.le_of_ble_eq_true rfl) (dead_upd (Nat.le_of_ble_eq_true rfl) (dead_upd (Nat.le_of_ble_eq_true rfl) (dead_upd (Nat.le_of_ble_eq_true rfl) (dead_none)))))
    rintro ⟨k, ver⟩ hk
    have hk : k ≤ list.length := hk
    refine swp_seq ?_
    refine swp_seq ?_
    refine swp_region ?_
    refine sops_go rfl (st_move (v := .d _) rfl rfl rfl ?_)
    first | refine sops_go rfl (so_fieldAddr (v := .p _ _ _) rfl rfl rfl rfl rfl rfl rfl rfl rfl rfl ?_) | refine sops_go rfl (so_fieldAddr (v := .dp _ _) rfl rfl rfl rfl rfl rfl rfl rfl rfl rfl ?_) | refine sops_go rfl (so_fieldAddr (v := .pe _ _ _ _ _) rfl rfl rfl rfl rfl rfl rfl rfl rfl rfl ?_)
    first | refine sops_go rfl (so_load (v := .d _) rfl rfl rfl rfl rfl rfl rfl rfl ?_) | refine sops_go rfl (so_load (v := .own _ _ _ _ _) rfl rfl rfl rfl rfl rfl rfl rfl ?_)
    refine sops_go rfl (so_lenSl rfl rfl rfl rfl rfl ?_)
    refine sops_go rfl (st_bin rfl rfl rfl rfl rfl ?_)
    refine sops_nil ?_
    refine swp_cond _ rfl (fun hc14 => ?_) (fun hc14 => ?_)
    · have hlt : k < list.length := by have := of_decide_eq_true hc14; rw [V.rows_len] at this; omega
      have hx := ih _ (List.getElem_mem hlt) (hn3 _ (List.getElem_mem hlt))
      have htk := V.rows_take list k hlt
      refine swp_skip ?_
      refine swp_seq ?_
      refine swp_block ?_
      refine swp_region ?_
      first | refine sops_go rfl (st_move (v := .d _) rfl rfl rfl ?_) | refine sops_go rfl (st_move (v := .own _ _ _ _ _) rfl rfl rfl ?_)
      first | refine sops_go rfl (so_fieldAddr (v := .p _ _ _) rfl rfl rfl rfl rfl rfl rfl rfl rfl rfl ?_) | refine sops_go rfl (so_fieldAddr (v := .dp _ _) rfl rfl rfl rfl rfl rfl rfl rfl rfl rfl ?_) | refine sops_go rfl (so_fieldAddr (v := .pe _ _ _ _ _) rfl rfl rfl rfl rfl rfl rfl rfl rfl rfl ?_)
      first | refine sops_go rfl (so_load (v := .d _) rfl rfl rfl rfl rfl rfl rfl rfl ?_) | refine sops_go rfl (so_load (v := .own _ _ _ _ _) rfl rfl rfl rfl rfl rfl rfl rfl ?_)
      refine sops_go rfl (st_move (v := .d _) rfl rfl rfl ?_)
      refine sops_go rfl (so_indexSl rfl rfl rfl rfl rfl rfl rfl (V.rows_all _) (by omega) (by rw [V.rows_len]; omega) (V.rows_get _ _ hlt) ?_)
      generalize list[k] = x at hx htk ⊢
      obtain ⟨x1, x2, x3, x4, x5, x6, x7, x8, x9⟩ := x
      first | refine sops_go rfl (so_load (v := .d (.agg [_, _, _, _, _, _, _, _, _])) rfl rfl rfl rfl rfl rfl rfl rfl ?_) | refine sops_go rfl (so_load (v := .agg [_, _, _, _, _, _, _, _, _]) rfl rfl rfl rfl rfl rfl rfl rfl ?_)
      refine sops_go rfl (st_call rfl rfl (hx) ⟨na_d _, trivial⟩ rfl ?_)
      refine sops_go rfl (so_buildSlice (rows := [[_, _, _, _, _, _, _, _, _]]) rfl rfl rfl rfl rfl rfl rfl rfl rfl ?_)
      refine sops_go rfl (so_append rfl rfl rfl rfl rfl rfl rfl rfl rfl rfl (by simp [V.rows_len]; omega) (by intro r hr; simp at hr; subst hr; exact ⟨rfl, rfl⟩) (by show (_ + _) * 120 ≤ _; simp [V.rows_len]; omega) (by simp [V.rows_len]; omega) ?_)
      first | refine sops_go rfl (st_assign (v := .d _) rfl rfl rfl ?_) | refine sops_go rfl (st_assign (v := .own _ _ _ _ _) rfl rfl rfl ?_)
      refine sops_nil ?_
      refine swp_region ?_
      refine sops_go rfl (st_move (v := .d _) rfl rfl rfl ?_)
      refine sops_go rfl (st_bin rfl rfl rfl rfl rfl ?_)
      refine sops_go rfl (st_assign (v := .d _) rfl rfl rfl ?_)
      refine sops_nil ?_
      refine ⟨(k + 1, ver + 1), hlt, by show list.length - (k + 1) < list.length - k; omega, ?_⟩
      refine wk_of rfl (Nat.le_of_ble_eq_true rfl) (by rw [hB]; exact Nat.zero_le _) (tle_upd (le_eq (next_i64 hlt (by omega)) rfl) (tle_upd (le_eq (own_len (by simp [V.rows_len]; omega)) rfl) (tle_upd (le_eq rfl rfl) (tle_upd (le_eq rfl rfl) (tle_upd (le_eq rfl rfl) (tle_any _)))))) (hle_upd (.arr _ _ _ _ _ ((by rw [htk]; simp [V.cells])) (rows_bnd _ _)) (hle_upd (.arr _ _ _ _ _ (rfl) (rows_bnd _ _)) (hle_upd (.cells _ _ ⟨le_any _, le_any _, le_any _, le_any _, le_any _, le_any _, le_any _, le_any _, le_any _, trivial⟩) (hle_upd (.cells _ _ ⟨le_eq rfl rfl, le_eq rfl rfl, le_eq rfl rfl, le_eq rfl rfl, le_eq rfl rfl, le_eq rfl rfl, le_eq rfl rfl, le_any _, le_eq rfl rfl, trivial⟩) (hle_dead _))))) (dead_upd (Nat.le_of_ble_eq_true rfl) (dead_upd (Nat.le_of_ble_eq_true rfl) (dead_upd (Nat.le_of_ble_eq_true rfl) (dead_upd (Nat.le_of_ble_eq_true rfl) (dead_none)))))
    · have he : k = list.length := by have := of_decide_eq_false hc14; rw [V.rows_len] at this; omega
      subst he
      rw [List.take_length]
      refine swp_exit ?_
      with_reducible refine after_exit ?_
      with_reducible refine after_exit ?_
      refine inblk_hit ?_
      refine swp_seq ?_
      refine swp_region ?_
      first | refine sops_go rfl (st_move (v := .d _) rfl rfl rfl ?_) | refine sops_go rfl (st_move (v := .own _ _ _ _ _) rfl rfl rfl ?_)
      first | refine sops_go rfl (so_fieldAddr (v := .p _ _ _) rfl rfl rfl rfl rfl rfl rfl rfl rfl rfl ?_) | refine sops_go rfl (so_fieldAddr (v := .dp _ _) rfl rfl rfl rfl rfl rfl rfl rfl rfl rfl ?_) | refine sops_go rfl (so_fieldAddr (v := .pe _ _ _ _ _) rfl rfl rfl rfl rfl rfl rfl rfl rfl rfl ?_)
      refine sops_go rfl (so_store rfl rfl rfl rfl rfl rfl rfl rfl rfl (zs := [_, _, _, _, _, _, _, _, _]) rfl ?_)
      refine sops_nil ?_
      refine swp_seq ?_
      refine swp_region ?_
      first | refine sops_go rfl (st_move (v := .d _) rfl rfl rfl ?_) | refine sops_go rfl (st_move (v := .own _ _ _ _ _) rfl rfl rfl ?_)
      first | refine sops_go rfl (so_fieldAddr (v := .p _ _ _) rfl rfl rfl rfl rfl rfl rfl rfl rfl rfl ?_) | refine sops_go rfl (so_fieldAddr (v := .dp _ _) rfl rfl rfl rfl rfl rfl rfl rfl rfl rfl ?_) | refine sops_go rfl (so_fieldAddr (v := .pe _ _ _ _ _) rfl rfl rfl rfl rfl rfl rfl rfl rfl rfl ?_)
      refine sops_go rfl (so_store rfl rfl rfl rfl rfl rfl rfl rfl rfl (zs := [_, _, _, _, _, _, _, _, _]) rfl ?_)
      refine sops_nil ?_
      refine swp_seq ?_
      refine swp_region ?_
      first | refine sops_go rfl (so_load (v := .d (.agg [_, _, _, _, _, _, _, _, _])) rfl rfl rfl rfl rfl rfl rfl rfl ?_) | refine sops_go rfl (so_load (v := .agg [_, _, _, _, _, _, _, _, _]) rfl rfl rfl rfl rfl rfl rfl rfl ?_)
      refine sops_go rfl (so_store rfl rfl rfl rfl rfl rfl rfl rfl rfl (zs := [_, _, _, _, _, _, _, _, _]) rfl ?_)
      refine sops_nil ?_
      refine swp_ret ?_
      exact fin_c rfl (rc_of rfl rfl rfl rfl rfl (ra_agg ⟨ra_d (keeps_v _), ra_d (keeps_v _), ra_d (keeps_v _), ra_d (keeps_v _), ra_d (keeps_v _), ra_d (keeps_v _), ra_d (keeps_v _), ra_row rfl rfl (strRows_keeps _), ra_row rfl (by rw [V.rows_len]) (V.rows_keeps _), trivial⟩))
end Go.Proofs.YtdcpnpcmgfmenaaGreatDoor
/-
  Walks: the law TypesChecks. Conditions: none.
-/
set_option linter.unusedVariables false
set_option maxRecDepth 100000
namespace Go.Proofs.YtdcpnpcmgfmenaaGreatDoor
open Go Go.Proofs.YtdcpnpcmgfmenaaGreatDoor.Lg

theorem TypesChecks_pure (t : T) (v : V) (ht : t.fit) (hv : v.fit) (nt : t.near) (nv : v.near) : Pure env 3 [.d t.d, .d v.d] (.d (.v (.bool true))) := by
  have c0a := bigType_s t
  have c0v := big_s v
  have c1 := copyType_pure t nt
  have c2 := copy_pure v nv
  have c3 := checkT_pure t ht true
  have c4 := Has_pure t v ht hv true true
  have c5 := rHas_pure t v ht hv
  have c6 := rcheck_pure t ht true
  have c7 := rsame_pure t
  generalize t.Has v = r1 at *
  generalize t.check = r2 at *
  rw [T.df_d] at c0a c1 c7 ⊢
  rw [V.df_d] at c0v c2 ⊢
  obtain ⟨p1, e1⟩ := r1
  obtain ⟨ka, na, la⟩ := t
  obtain ⟨vk, flag, neg, digits, exp, bits, text, vnames, vlist⟩ := v
  refine pure_of_body Tryz.func3 rfl rfl rfl fun B hB => ?_
  refine swp_seq ?_
  refine swp_region ?_
  refine sops_go rfl (so_box (cs := [_, _, _]) rfl rfl rfl ?_)
  refine sops_go rfl (so_box (cs := [_, _, _, _, _, _, _, _, _]) rfl rfl rfl ?_)
  refine sops_go rfl (st_assign (v := .d _) rfl rfl rfl ?_)
  refine sops_nil ?_
  refine swp_seq ?_
  refine swp_seq ?_
  refine swp_region ?_
  first | refine sops_go rfl (so_load (v := .d (.agg [_, _, _])) rfl rfl rfl rfl rfl rfl rfl rfl ?_) | refine sops_go rfl (so_load (v := .agg [_, _, _]) rfl rfl rfl rfl rfl rfl rfl rfl ?_)
  refine sops_go rfl (st_callS rfl rfl (c0a) ⟨na_d _, trivial⟩ rfl fun r hr => ?_)
  obtain ⟨b1, rfl⟩ := hr
  refine sops_go rfl (st_move (v := .d _) rfl rfl rfl ?_)
  refine sops_case 14 rfl (fun hb14 => ?_) (fun hb14 => ?_)
  · refine sops_no rfl rfl rfl rfl rfl ?_
    refine sops_no rfl rfl rfl rfl rfl ?_
    refine sops_go rfl (st_pick (v := .d _) rfl rfl rfl rfl ?_)
    refine sops_nil ?_
    refine swp_condT rfl ?_
    refine swp_seq ?_
    refine swp_region ?_
    refine sops_go rfl (st_assign (v := .d _) rfl rfl rfl ?_)
    refine sops_nil ?_
    refine swp_ret ?_
    with_reducible refine after_ret ?_
    exact fin_b rfl rfl rfl
  · first | refine sops_yes rfl rfl rfl rfl (so_load (v := .d (.agg [_, _, _, _, _, _, _, _, _])) rfl rfl rfl rfl rfl rfl rfl rfl ?_) | refine sops_yes rfl rfl rfl rfl (so_load (v := .agg [_, _, _, _, _, _, _, _, _]) rfl rfl rfl rfl rfl rfl rfl rfl ?_)
    refine sops_yes rfl rfl rfl rfl (st_callS rfl rfl (c0v) ⟨na_d _, trivial⟩ rfl fun r hr => ?_)
    obtain ⟨b2, rfl⟩ := hr
    refine sops_go rfl (st_pick (v := .d _) rfl rfl rfl rfl ?_)
    refine sops_nil ?_
    refine swp_cond _ rfl (fun hc17 => ?_) (fun hc17 => ?_)
    · refine swp_seq ?_
      refine swp_region ?_
      refine sops_go rfl (st_assign (v := .d _) rfl rfl rfl ?_)
      refine sops_nil ?_
      refine swp_ret ?_
      with_reducible refine after_ret ?_
      exact fin_b rfl rfl rfl
    · refine swp_skip ?_
      refine swp_seq ?_
      refine swp_region ?_
      first | refine sops_go rfl (so_load (v := .d (.agg [_, _, _])) rfl rfl rfl rfl rfl rfl rfl rfl ?_) | refine sops_go rfl (so_load (v := .agg [_, _, _]) rfl rfl rfl rfl rfl rfl rfl rfl ?_)
      refine sops_go rfl (st_call rfl rfl (c1) ⟨na_d _, trivial⟩ rfl ?_)
      refine sops_go rfl (so_alloc (cs := [_, _, _]) rfl rfl rfl rfl ?_)
      refine sops_go rfl (so_store rfl rfl rfl rfl rfl rfl rfl rfl rfl (zs := [_, _, _]) rfl ?_)
      refine sops_nil ?_
      refine swp_seq ?_
      refine swp_region ?_
      first | refine sops_go rfl (so_load (v := .d (.agg [_, _, _, _, _, _, _, _, _])) rfl rfl rfl rfl rfl rfl rfl rfl ?_) | refine sops_go rfl (so_load (v := .agg [_, _, _, _, _, _, _, _, _]) rfl rfl rfl rfl rfl rfl rfl rfl ?_)
      refine sops_go rfl (st_call rfl rfl (c2) ⟨na_d _, trivial⟩ rfl ?_)
      refine sops_go rfl (so_alloc (cs := [_, _, _, _, _, _, _, _, _]) rfl rfl rfl rfl ?_)
      refine sops_go rfl (so_store rfl rfl rfl rfl rfl rfl rfl rfl rfl (zs := [_, _, _, _, _, _, _, _, _]) rfl ?_)
      refine sops_nil ?_
      refine swp_seq ?_
      refine swp_region ?_
      first | refine sops_go rfl (so_load (v := .d (.agg [_, _, _])) rfl rfl rfl rfl rfl rfl rfl rfl ?_) | refine sops_go rfl (so_load (v := .agg [_, _, _]) rfl rfl rfl rfl rfl rfl rfl rfl ?_)
      refine sops_go rfl (st_call rfl rfl (c3) ⟨na_d _, trivial⟩ rfl ?_)
      refine sops_go rfl (st_assign (v := .d _) rfl rfl rfl ?_)
      refine sops_nil ?_
      refine swp_seq ?_
      refine swp_region ?_
      first | refine sops_go rfl (so_load (v := .d (.agg [_, _, _])) rfl rfl rfl rfl rfl rfl rfl rfl ?_) | refine sops_go rfl (so_load (v := .agg [_, _, _]) rfl rfl rfl rfl rfl rfl rfl rfl ?_)
      first | refine sops_go rfl (so_load (v := .d (.agg [_, _, _, _, _, _, _, _, _])) rfl rfl rfl rfl rfl rfl rfl rfl ?_) | refine sops_go rfl (so_load (v := .agg [_, _, _, _, _, _, _, _, _]) rfl rfl rfl rfl rfl rfl rfl rfl ?_)
      refine sops_go rfl (st_call rfl rfl (c4) ⟨na_d _, na_d _, trivial⟩ rfl ?_)
      refine sops_go rfl (st_move (v := .tup _) rfl rfl rfl ?_)
      refine sops_go rfl (st_extract (c := .d _) rfl rfl rfl rfl ?_)
      refine sops_go rfl (st_extract (c := .d _) rfl rfl rfl rfl ?_)
      refine sops_go rfl (st_assign (v := .d _) rfl rfl rfl ?_)
      refine sops_go rfl (st_assign (v := .d _) rfl rfl rfl ?_)
      refine sops_nil ?_
      refine swp_seq ?_
      refine swp_region ?_
      first | refine sops_go rfl (so_load (v := .d (.agg [_, _, _])) rfl rfl rfl rfl rfl rfl rfl rfl ?_) | refine sops_go rfl (so_load (v := .agg [_, _, _]) rfl rfl rfl rfl rfl rfl rfl rfl ?_)
      first | refine sops_go rfl (so_load (v := .d (.agg [_, _, _, _, _, _, _, _, _])) rfl rfl rfl rfl rfl rfl rfl rfl ?_) | refine sops_go rfl (so_load (v := .agg [_, _, _, _, _, _, _, _, _]) rfl rfl rfl rfl rfl rfl rfl rfl ?_)
      refine sops_go rfl (st_call rfl rfl (c5) ⟨na_d _, na_d _, trivial⟩ rfl ?_)
      refine sops_go rfl (st_move (v := .tup _) rfl rfl rfl ?_)
      refine sops_go rfl (st_extract (c := .d _) rfl rfl rfl rfl ?_)
      refine sops_go rfl (st_extract (c := .d _) rfl rfl rfl rfl ?_)
      refine sops_go rfl (st_assign (v := .d _) rfl rfl rfl ?_)
      refine sops_go rfl (st_assign (v := .d _) rfl rfl rfl ?_)
      refine sops_nil ?_
      refine swp_seq ?_
      refine swp_region ?_
      refine sops_go rfl (st_call rfl rfl (awake_pure) trivial rfl ?_)
      refine sops_go rfl (st_move (v := .d _) rfl rfl rfl ?_)
      refine' sops_and (d := 37) (p := 42) [38, 39, 40, 41] 5 rfl rfl rfl (fun hb37 => ?a37) (fun hb37 => ?b37) ?_
      case a37 =>
        refine sops_yes rfl rfl rfl rfl (st_move (v := .d _) rfl rfl rfl ?_)
        first | refine sops_yes rfl rfl rfl rfl (so_load (v := .d (.agg [_, _, _])) rfl rfl rfl rfl rfl rfl rfl rfl ?_) | refine sops_yes rfl rfl rfl rfl (so_load (v := .agg [_, _, _]) rfl rfl rfl rfl rfl rfl rfl rfl ?_)
        refine sops_yes rfl rfl rfl rfl (st_call rfl rfl (c6) ⟨na_d _, trivial⟩ rfl ?_)
        refine sops_yes rfl rfl rfl rfl (st_bin rfl rfl rfl rfl rfl ?_)
        refine sops_go rfl (st_pick (v := .d _) rfl rfl rfl rfl ?_)
        refine sops_nil ?_
        exact ⟨rfl, rfl, rfl, rfl, [_, _, _, _], rfl, rfl⟩
      case b37 =>
        refine sops_no rfl rfl rfl rfl rfl ?_
        refine sops_no rfl rfl rfl rfl rfl ?_
        refine sops_no rfl rfl rfl rfl rfl ?_
        refine sops_no rfl rfl rfl rfl rfl ?_
        refine sops_go rfl (st_pick (v := .d _) rfl rfl rfl rfl ?_)
        refine sops_nil ?_
        exact ⟨rfl, rfl, rfl, rfl, [_, _, _, _], rfl, rfl⟩
      refine sops_go rfl (st_move (v := .d _) rfl rfl rfl ?_)
      refine' sops_and (d := 43) (p := 47) [44, 45, 46] 4 rfl rfl rfl (fun hb43 => ?a43) (fun hb43 => ?b43) ?_
      case a43 =>
        refine sops_yes rfl rfl rfl rfl (st_move (v := .d _) rfl rfl rfl ?_)
        refine sops_yes rfl rfl rfl rfl (st_move (v := .d _) rfl rfl rfl ?_)
        refine sops_yes rfl rfl rfl rfl (so_eqB rfl rfl rfl rfl rfl rfl rfl ?_)
        refine sops_go rfl (st_pick (v := .d _) rfl rfl rfl rfl ?_)
        refine sops_nil ?_
        exact ⟨rfl, rfl, rfl, rfl, [_, _, _], rfl, rfl⟩
      case b43 =>
        refine sops_no rfl rfl rfl rfl rfl ?_
        refine sops_no rfl rfl rfl rfl rfl ?_
        refine sops_no rfl rfl rfl rfl rfl ?_
        refine sops_go rfl (st_pick (v := .d _) rfl rfl rfl rfl ?_)
        refine sops_nil ?_
        exact ⟨rfl, rfl, rfl, rfl, [_, _, _], rfl, rfl⟩
      refine sops_go rfl (st_move (v := .d _) rfl rfl rfl ?_)
      refine' sops_and (d := 48) (p := 52) [49, 50, 51] 4 rfl rfl rfl (fun hb48 => ?a48) (fun hb48 => ?b48) ?_
      case a48 =>
        refine sops_yes rfl rfl rfl rfl (st_move (v := .d _) rfl rfl rfl ?_)
        refine sops_yes rfl rfl rfl rfl (st_move (v := .d _) rfl rfl rfl ?_)
        refine sops_yes rfl rfl rfl rfl (st_bin rfl rfl rfl rfl rfl ?_)
        refine sops_go rfl (st_pick (v := .d _) rfl rfl rfl rfl ?_)
        refine sops_nil ?_
        exact ⟨rfl, rfl, rfl, rfl, [_, _, _], rfl, rfl⟩
      case b48 =>
        refine sops_no rfl rfl rfl rfl rfl ?_
        refine sops_no rfl rfl rfl rfl rfl ?_
        refine sops_no rfl rfl rfl rfl rfl ?_
        refine sops_go rfl (st_pick (v := .d _) rfl rfl rfl rfl ?_)
        refine sops_nil ?_
        exact ⟨rfl, rfl, rfl, rfl, [_, _, _], rfl, rfl⟩
      refine sops_go rfl (st_move (v := .d _) rfl rfl rfl ?_)
      refine' sops_and (d := 53) (p := 57) [54, 55, 56] 4 rfl rfl rfl (fun hb53 => ?a53) (fun hb53 => ?b53) ?_
      case a53 =>
        first | refine sops_yes rfl rfl rfl rfl (so_load (v := .d (.agg [_, _, _])) rfl rfl rfl rfl rfl rfl rfl rfl ?_) | refine sops_yes rfl rfl rfl rfl (so_load (v := .agg [_, _, _]) rfl rfl rfl rfl rfl rfl rfl rfl ?_)
        first | refine sops_yes rfl rfl rfl rfl (so_load (v := .d (.agg [_, _, _])) rfl rfl rfl rfl rfl rfl rfl rfl ?_) | refine sops_yes rfl rfl rfl rfl (so_load (v := .agg [_, _, _]) rfl rfl rfl rfl rfl rfl rfl rfl ?_)
        refine sops_yes rfl rfl rfl rfl (st_call rfl rfl (c7) ⟨na_d _, na_d _, trivial⟩ rfl ?_)
        refine sops_go rfl (st_pick (v := .d _) rfl rfl rfl rfl ?_)
        refine sops_nil ?_
        exact ⟨rfl, rfl, rfl, rfl, [_, _, _], rfl, rfl⟩
      case b53 =>
        refine sops_no rfl rfl rfl rfl rfl ?_
        refine sops_no rfl rfl rfl rfl rfl ?_
        refine sops_no rfl rfl rfl rfl rfl ?_
        refine sops_go rfl (st_pick (v := .d _) rfl rfl rfl rfl ?_)
        refine sops_nil ?_
        exact ⟨rfl, rfl, rfl, rfl, [_, _, _], rfl, rfl⟩
      refine sops_go rfl (st_assign (v := .d _) rfl rfl rfl ?_)
      refine sops_nil ?_
      refine swp_ret ?_
      exact fin_b rfl rfl (by simp)
end Go.Proofs.YtdcpnpcmgfmenaaGreatDoor
/-
  What comes in, read as trees. Conditions: none.
-/
set_option linter.unusedVariables false
set_option linter.unusedSimpArgs false
set_option maxRecDepth 100000
namespace Go.Proofs.YtdcpnpcmgfmenaaGreatDoor
open Go Go.Proofs.YtdcpnpcmgfmenaaGreatDoor.Lg Go.ChangeShapes Go.WideShapes Go.RowKit

def Lt (W : World) : Nat → Prop := fun b => b < W.heap.size
def DRs (W : World) (ds : List D) (cs : List Value) : Prop := cs.length = ds.length ∧ ∀ (i : Nat) c v, ds[i]? = some c → cs[i]? = some v → DR W (Lt W) (Lt W) c v

theorem choose_list {α : Type} {p : Nat → α → Prop} : ∀ n : Nat, (∀ i, i < n → ∃ y, p i y) → ∃ l : List α, l.length = n ∧ ∀ (i : Nat) (h : i < l.length), p i l[i]
  | 0, _ => ⟨[], rfl, fun i h => absurd h (by simp)⟩
  | n + 1, h => by
    obtain ⟨l, h1, h2⟩ := choose_list n fun i hi => h i (by omega)
    obtain ⟨y, hy⟩ := h n (by omega)
    refine ⟨l ++ [y], by simp [h1], fun i hi => ?_⟩
    by_cases e : i < l.length
    · rw [List.getElem_append_left e]; exact h2 i e
    · have : i = l.length := by simp at hi; omega
      subst this
      simp [h1]; exact hy

section
variable {H : Type} {enc : TypeId × Value → H} {W : World} {base : Nat} {sp : Nat → Bool} {held : Bool}

theorem drs_one {d : D} {v : Value} (h : DR W (Lt W) (Lt W) d v) : DRs W [d] [v] := ⟨rfl, fun i c v' h1 h2 => by
  cases i with
  | zero => simp at h1 h2; subst h1; subst h2; exact h
  | succ i => simp at h1⟩

theorem read_slice {α : Type} {cells : α → List D} {Q : α → Prop} {t e sz : Nat} (ht : Tryz.prog.underlying t = some (.slice e)) (hsz : Tryz.prog.cellsOf e = sz) (h0 : 0 < sz) (hc : ∀ y, (cells y).length = sz) {n : Nat} {cs : List Value} {x : DataW H × List MemPlace}
    (h : DataW.trod enc Tryz.prog W base sp held n t cs = some x) (rd : ∀ m, m < n → ∀ cs x, DataW.trod enc Tryz.prog W base sp held m e cs = some x → ∃ y : α, Q y ∧ DRs W (cells y) cs) :
    ∃ l : List α, (∀ y ∈ l, Q y) ∧ DRs W [.sl true (l.map cells)] cs := by
  rcases DataW.trod_slice ht h with ⟨rfl, _⟩ | ⟨a, len, cap, elems, rest, m, rfl, rfl, _, hb, hl, hm, hlen, hel, _, _⟩
  · exact ⟨[], by simp, drs_one (.nil _ _ _)⟩
  rw [hsz] at hel
  obtain ⟨l, hll, hl'⟩ := choose_list (p := fun i y => Q y ∧ ∃ cs', W.cells? base (a.add (i * sz)) sz = some cs' ∧ DRs W (cells y) cs') len fun i hi => by
    have := hel i hi
    rw [List.getElem?_eq_getElem (by omega)] at this
    obtain ⟨cs', h1, h2⟩ := Option.bind_eq_some_iff.1 this
    obtain ⟨y, hy, hd⟩ := rd m (by omega) cs' _ h2
    exact ⟨y, hy, cs', h1, hd⟩
  refine ⟨l, fun y hy => ?_, ?_⟩
  · obtain ⟨i, hi, rfl⟩ := List.mem_iff_getElem.1 hy
    exact (hl' i hi).1
  · by_cases hz : len = 0
    · subst hz
      have : l = [] := List.eq_nil_of_length_eq_zero hll
      subst this
      exact drs_one (.nil _ _ _)
    · have hspot : ∃ b off, a = ⟨b, off, none⟩ := by
        obtain ⟨_, cs', h1, h2⟩ := hl' 0 (by omega)
        obtain ⟨_, h3, h4⟩ := World.cells?_some h1
        have h5 := h4 0 h0
        rw [List.getElem?_eq_getElem (by omega)] at h5
        have e0 : (a.add (0 * sz)).add 0 = a := by simp [Addr.add]
        rw [e0] at h5
        obtain ⟨b, off, s⟩ := a
        cases s with
        | none => exact ⟨b, off, rfl⟩
        | some s => simp [World.cell?] at h5; split at h5 <;> simp at h5
      obtain ⟨b, off, rfl⟩ := hspot
      have hcell : ∀ (q : Nat) (hq : q < l.length) (r : Nat), r < sz → ∃ v, W.cell? ⟨b, off + (q * sz + r), none⟩ = some v ∧ ∀ c, (cells l[q])[r]? = some c → DR W (Lt W) (Lt W) c v := by
        intro q hq r hr
        obtain ⟨_, cs', h1, h2, h3⟩ := hl' q hq
        obtain ⟨_, h4, h5⟩ := World.cells?_some h1
        have h6 := h5 r hr
        have e0 : ((⟨b, off, none⟩ : Addr).add (q * sz)).add r = ⟨b, off + (q * sz + r), none⟩ := by rw [add_mk, add_mk, Nat.add_assoc]
        rw [e0, List.getElem?_eq_getElem (by omega)] at h6
        exact ⟨_, h6, fun c hc => h3 r c _ hc (List.getElem?_eq_getElem (by omega))⟩
      have hlt : b < W.heap.size := by
        obtain ⟨v, h1, _⟩ := hcell 0 (by omega) 0 h0
        unfold World.cell? at h1
        split at h1
        · rename_i hh; exact (Array.getElem?_eq_some_iff.1 hh).1
        · cases h1
      have hrow : ∀ r ∈ l.map cells, r.length = sz := by
        intro r hr; obtain ⟨y, _, rfl⟩ := List.mem_map.1 hr; exact hc y
      have inv : ∀ (i : Nat) c, (l.map cells).flatten[i]? = some c → ∃ v, W.cell? ⟨b, off + i, none⟩ = some v ∧ DR W (Lt W) (Lt W) c v := by
        intro i c hi
        have hlen' := flat_length hrow
        have hi' : i < (l.map cells).length * sz := by rw [← hlen']; exact (List.getElem?_eq_some_iff.1 hi).1
        have hq : i / sz < l.length := by
          have := Nat.div_lt_of_lt_mul (m := i) (n := sz) (k := (l.map cells).length) (by rw [Nat.mul_comm]; exact hi')
          simpa using this
        have hr : i % sz < sz := Nat.mod_lt _ h0
        have e : i / sz * sz + i % sz = i := by rw [Nat.mul_comm]; exact Nat.div_add_mod i sz
        have hf := flat_at (es := l.map cells) hrow (i := i / sz) (row := cells l[i / sz]) (by simp [hq]) hr
        rw [e] at hf
        obtain ⟨v, h1, h2⟩ := hcell _ hq _ hr
        rw [e] at h1
        exact ⟨v, h1, h2 c (by rw [← hf]; exact hi)⟩
      have hsl := DR.sl (w := W) (I := Lt W) (J := Lt W) true (l.map cells) b off cap (fun i => (W.cell? ⟨b, off + i, none⟩).getD undef) (fun _ => hlt) hlt (by simp; omega) (fun i c hi => by
        obtain ⟨v, h1, _⟩ := inv i c hi
        simp only [h1, Option.getD_some]) (fun i c hi => by
        obtain ⟨v, h1, h2⟩ := inv i c hi
        simp only [h1, Option.getD_some]; exact h2)
      have el : (l.map cells).length = len := by simp [hll]
      rw [el] at hsl
      exact drs_one hsl

theorem read_str {t : Nat} (ht : Tryz.prog.underlying t = some .string) {n : Nat} {cs : List Value} {x : DataW H × List MemPlace} (h : DataW.trod enc Tryz.prog W base sp held n t cs = some x) : ∃ s : ByteArray, fits s ∧ DRs W [.v (.string s)] cs := by
  obtain ⟨s, rfl, _, hs⟩ := DataW.trod_string ht h
  exact ⟨s, by simpa [fits, maxLen] using hs, drs_one (.v _)⟩
theorem read_int {t : Nat} {k : IntKind} (ht : Tryz.prog.underlying t = some (.int k)) {n : Nat} {cs : List Value} {x : DataW H × List MemPlace} (h : DataW.trod enc Tryz.prog W base sp held n t cs = some x) : ∃ z : Int, DRs W [.v (.int k z)] cs := by
  obtain ⟨z, rfl, _, _⟩ := DataW.trod_int ht h
  exact ⟨z, drs_one (.v _)⟩
theorem read_bool {t : Nat} (ht : Tryz.prog.underlying t = some .bool) {n : Nat} {cs : List Value} {x : DataW H × List MemPlace} (h : DataW.trod enc Tryz.prog W base sp held n t cs = some x) : ∃ z : Bool, DRs W [.v (.bool z)] cs := by
  obtain ⟨z, rfl, _⟩ := DataW.trod_bool ht h
  exact ⟨z, drs_one (.v _)⟩

/-- A part of the cells at a place. -/
theorem drs_cons {d : D} {ds : List D} {cs : List Value} (h1 : DRs W [d] (cs.take 1)) (h2 : DRs W ds (cs.drop 1)) (hl : cs.length = ds.length + 1) : DRs W (d :: ds) cs := by
  refine ⟨by simp [hl], fun i c v hc hv => ?_⟩
  cases i with
  | zero => exact h1.2 0 c v (by simpa using hc) (by simpa using hv)
  | succ i => exact h2.2 i c v (by simpa using hc) (by simpa [Nat.add_comm] using hv)

theorem read_strs {t : Nat} (ht : Tryz.prog.underlying t = some (.slice 9)) {n : Nat} {cs : List Value} {x : DataW H × List MemPlace} (h : DataW.trod enc Tryz.prog W base sp held n t cs = some x) : ∃ l : List ByteArray, (∀ s ∈ l, fits s) ∧ DRs W [.sl true (strRows l)] cs :=
  read_slice (cells := fun s => [.v (.string s)]) (Q := fits) ht (by kernel_rfl) (by decide) (fun _ => rfl) h fun m _ cs x hx => read_str Tryz.underlying9 hx
theorem read_T : ∀ (n : Nat) (cs : List Value) (x : DataW H × List MemPlace), DataW.trod enc Tryz.prog W base sp held n 26 cs = some x → ∃ t : T, t.fit ∧ DRs W t.cells cs := by
  intro n
  induction n using Nat.strongRecOn with
  | _ n ih =>
    intro cs x h
    obtain ⟨xs, m, rfl, _, hl, hxl, hf⟩ := DataW.trod_struct Tryz.underlying26 h
    have c : Tryz.prog.cellsOf 26 = 3 := by kernel_rfl
    rw [c] at hl
    have g : ∀ i, i < 3 → ∃ y, xs[i]? = some y := fun i hi => ⟨xs[i]'(by rw [hxl]; exact hi), List.getElem?_eq_getElem _⟩
    obtain ⟨y0, e0⟩ := g 0 (by omega)
    obtain ⟨y1, e1⟩ := g 1 (by omega)
    obtain ⟨y2, e2⟩ := g 2 (by omega)
    have f0 := hf 0 _ rfl
    have f1 := hf 1 _ rfl
    have f2 := hf 2 _ rfl
    rw [e0] at f0
    rw [e1] at f1
    rw [e2] at f2
    obtain ⟨z, hz⟩ := read_int Tryz.underlying22 f0
    obtain ⟨names, hn1, hn2⟩ := read_strs Tryz.underlying23 f1
    obtain ⟨list, hl1, hl2⟩ := read_slice (cells := T.cells) (Q := T.fit) Tryz.underlying24 c (by decide) T.cells_length f2 fun m' hm' cs x hx => ih m' (by omega) cs x hx
    refine ⟨.mk z names list, ⟨hn1, (T.fitL_iff list).2 hl1⟩, ?_⟩
    rw [← T.rows_eq] at hl2
    match cs, hl with
    | [c0, c1, c2], _ => exact drs_cons hz (drs_cons hn2 (drs_cons hl2 ⟨rfl, fun i c v hc => by simp at hc⟩ rfl) rfl) rfl
theorem read_V : ∀ (n : Nat) (cs : List Value) (x : DataW H × List MemPlace), DataW.trod enc Tryz.prog W base sp held n 33 cs = some x → ∃ t : V, t.fit ∧ DRs W t.cells cs := by
  intro n
  induction n using Nat.strongRecOn with
  | _ n ih =>
    intro cs x h
    obtain ⟨xs, m, rfl, _, hl, hxl, hf⟩ := DataW.trod_struct Tryz.underlying33 h
    have c : Tryz.prog.cellsOf 33 = 9 := by kernel_rfl
    rw [c] at hl
    have g : ∀ i, i < 7 → ∃ y, xs[i]? = some y := fun i hi => ⟨xs[i]'(by rw [hxl]; exact hi), List.getElem?_eq_getElem _⟩
    obtain ⟨y0, e0⟩ := g 0 (by omega)
    obtain ⟨y1, e1⟩ := g 1 (by omega)
    obtain ⟨y2, e2⟩ := g 2 (by omega)
    obtain ⟨y3, e3⟩ := g 3 (by omega)
    obtain ⟨y4, e4⟩ := g 4 (by omega)
    obtain ⟨y5, e5⟩ := g 5 (by omega)
    obtain ⟨y6, e6⟩ := g 6 (by omega)
    have f0 := hf 0 _ rfl
    have f1 := hf 1 _ rfl
    have f2 := hf 2 _ rfl
    have f3 := hf 3 _ rfl
    have f4 := hf 4 _ rfl
    have f5 := hf 5 _ rfl
    have f6 := hf 6 _ rfl
    rw [e0] at f0
    rw [e1] at f1
    rw [e2] at f2
    rw [e3] at f3
    rw [e4] at f4
    rw [e5] at f5
    rw [e6] at f6
    obtain ⟨kind, h0⟩ := read_int Tryz.underlying27 f0
    obtain ⟨flag, h1⟩ := read_bool Tryz.underlying4 f1
    obtain ⟨ys, m', rfl, _, hl', hxl', hf'⟩ := DataW.trod_struct Tryz.underlying29 f2
    have g' : ∀ i, i < 3 → ∃ y, ys[i]? = some y := fun i hi => ⟨ys[i]'(by rw [hxl']; exact hi), List.getElem?_eq_getElem _⟩
    obtain ⟨y0', e0'⟩ := g' 0 (by omega)
    obtain ⟨y1', e1'⟩ := g' 1 (by omega)
    obtain ⟨y2', e2'⟩ := g' 2 (by omega)
    have f0' := hf' 0 _ rfl
    have f1' := hf' 1 _ rfl
    have f2' := hf' 2 _ rfl
    rw [e0'] at f0'
    rw [e1'] at f1'
    rw [e2'] at f2'
    obtain ⟨neg, h0'⟩ := read_bool Tryz.underlying4 f0'
    obtain ⟨digits, hd, h1'⟩ := read_str Tryz.underlying9 f1'
    obtain ⟨exp, h2'⟩ := read_int Tryz.underlying3 f2'
    obtain ⟨bits, h3⟩ := read_int Tryz.underlying30 f3
    obtain ⟨text, ht, h4⟩ := read_str Tryz.underlying9 f4
    obtain ⟨names, hn1, h5⟩ := read_strs Tryz.underlying23 f5
    obtain ⟨list, hl1, h6⟩ := read_slice (cells := V.cells) (Q := V.fit) Tryz.underlying31 c (by decide) V.cells_length f6 fun m'' hm' cs x hx => ih m'' (by omega) cs x hx
    refine ⟨.mk kind flag neg digits exp bits text names list, ⟨hd, ht, hn1, (V.fitL_iff list).2 hl1⟩, ?_⟩
    rw [← V.rows_eq] at h6
    match cs, hl with
    | [c0, c1, c2, c3, c4, c5, c6, c7, c8], _ =>
      exact drs_cons h0 (drs_cons h1 (drs_cons h0' (drs_cons h1' (drs_cons h2' (drs_cons h3 (drs_cons h4 (drs_cons h5 (drs_cons h6 ⟨rfl, fun i c v hc => by simp at hc⟩ rfl) rfl) rfl) rfl) rfl) rfl) rfl) rfl) rfl
end
end Go.Proofs.YtdcpnpcmgfmenaaGreatDoor
/-
  What comes in, read as trees, with the reach that the row gives. Conditions: none.
-/
set_option linter.unusedVariables false
set_option linter.unusedSimpArgs false
set_option maxRecDepth 100000
namespace Go.Proofs.YtdcpnpcmgfmenaaGreatDoor
open Go Go.Proofs.YtdcpnpcmgfmenaaGreatDoor.Lg Go.ChangeShapes Go.WideShapes Go.RowKit

section
variable {H : Type} {enc : TypeId × Value → H} {W : World} {base : Nat} {sp : Nat → Bool} {held : Bool}

/-- All rows and texts of a reading are within the reach. -/
def small (t : TypeId) (d : DataW H) : Prop := ∀ n ∈ d.weights Tryz.prog t, n ≤ reachBytes
theorem small_part {t : TypeId} {fs : Array Field} (ht : Tryz.prog.underlying t = some (.struct fs)) {ds : List (DataW H)} (h : small t (.agg ds)) (i : Nat) {f : Field} (hf : fs[i]? = some f) {d : DataW H} (hd : ds[i]? = some d) : small f.type d := fun n hn => by
  refine h n ?_
  unfold DataW.weights
  rw [ht]
  exact DataW.weights_mem_each (j := i) (by simp [hf]) hd n hn
theorem weights_all {e : TypeId} : ∀ (l : List (DataW H)) (d : DataW H), d ∈ l → ∀ n ∈ d.weights Tryz.prog e, n ∈ DataW.weightsAll Tryz.prog e l
  | x :: r, d, hd, n, hn => by
    rw [DataW.weightsAll]
    rcases List.mem_cons.1 hd with rfl | hd
    · exact List.mem_append_left _ hn
    · exact List.mem_append_right _ (weights_all r d hd n hn)
theorem small_slice {t e : TypeId} (ht : Tryz.prog.underlying t = some (.slice e)) {b N : Nat} (hb : Tryz.prog.bytesOf e = b) {x : DataW H} (h : small t x) (hN : ∀ m, m * b ≤ 140737488351232 → m ≤ N) :
    ∀ el spr, x = .slice el spr → el.length ≤ N ∧ ∀ d ∈ el, small e d := by
  rintro el spr rfl
  unfold small DataW.weights at h
  rw [ht] at h
  simp only at h
  rw [hb] at h
  refine ⟨hN _ ?_, fun d hd n hn => h n (List.mem_cons.2 (.inr (List.mem_append_left _ (weights_all el d hd n hn))))⟩
  have := h _ (List.mem_cons_self ..)
  have hr : reachBytes = 140737488351232 := rfl
  rw [hr, Nat.add_mul] at this
  omega

theorem read_sliceN {α : Type} {cells : α → List D} {Q : α → Prop} {S : DataW H → Prop} {N : Nat} {t e sz : Nat} (ht : Tryz.prog.underlying t = some (.slice e)) (hsz : Tryz.prog.cellsOf e = sz) (h0 : 0 < sz) (hc : ∀ y, (cells y).length = sz) {n : Nat} {cs : List Value} {x : DataW H × List MemPlace}
    (h : DataW.trod enc Tryz.prog W base sp held n t cs = some x) (hS : ∀ el spr, x.1 = .slice el spr → el.length ≤ N ∧ ∀ d ∈ el, S d) (rd : ∀ m, m < n → ∀ cs x, DataW.trod enc Tryz.prog W base sp held m e cs = some x → S x.1 → ∃ y : α, Q y ∧ DRs W (cells y) cs) :
    ∃ l : List α, (∀ y ∈ l, Q y) ∧ l.length ≤ N ∧ DRs W [.sl true (l.map cells)] cs := by
  rcases DataW.trod_slice ht h with ⟨rfl, _⟩ | ⟨a, len, cap, elems, rest, m, rfl, rfl, hx0, hb, hl, hm, hlen, hel, _, _⟩
  · exact ⟨[], by simp, Nat.zero_le _, drs_one (.nil _ _ _)⟩
  rw [hsz] at hel
  have hS' := hS (elems.map (·.1)) (rest.map (·.1)) (by rw [hx0])
  obtain ⟨l, hll, hl'⟩ := choose_list (p := fun i y => Q y ∧ ∃ cs', W.cells? base (a.add (i * sz)) sz = some cs' ∧ DRs W (cells y) cs') len fun i hi => by
    have := hel i hi
    rw [List.getElem?_eq_getElem (by omega)] at this
    obtain ⟨cs', h1, h2⟩ := Option.bind_eq_some_iff.1 this
    obtain ⟨y, hy, hd⟩ := rd m (by omega) cs' _ h2 (hS'.2 _ (List.mem_map.2 ⟨_, List.getElem_mem (by omega), rfl⟩))
    exact ⟨y, hy, cs', h1, hd⟩
  refine ⟨l, fun y hy => ?_, by have := hS'.1; simp at this; omega, ?_⟩
  · obtain ⟨i, hi, rfl⟩ := List.mem_iff_getElem.1 hy
    exact (hl' i hi).1
  · by_cases hz : len = 0
    · subst hz
      have : l = [] := List.eq_nil_of_length_eq_zero hll
      subst this
      exact drs_one (.nil _ _ _)
    · have hspot : ∃ b off, a = ⟨b, off, none⟩ := by
        obtain ⟨_, cs', h1, h2⟩ := hl' 0 (by omega)
        obtain ⟨_, h3, h4⟩ := World.cells?_some h1
        have h5 := h4 0 h0
        rw [List.getElem?_eq_getElem (by omega)] at h5
        have e0 : (a.add (0 * sz)).add 0 = a := by simp [Addr.add]
        rw [e0] at h5
        obtain ⟨b, off, s⟩ := a
        cases s with
        | none => exact ⟨b, off, rfl⟩
        | some s => simp [World.cell?] at h5; split at h5 <;> simp at h5
      obtain ⟨b, off, rfl⟩ := hspot
      have hcell : ∀ (q : Nat) (hq : q < l.length) (r : Nat), r < sz → ∃ v, W.cell? ⟨b, off + (q * sz + r), none⟩ = some v ∧ ∀ c, (cells l[q])[r]? = some c → DR W (Lt W) (Lt W) c v := by
        intro q hq r hr
        obtain ⟨_, cs', h1, h2, h3⟩ := hl' q hq
        obtain ⟨_, h4, h5⟩ := World.cells?_some h1
        have h6 := h5 r hr
        have e0 : ((⟨b, off, none⟩ : Addr).add (q * sz)).add r = ⟨b, off + (q * sz + r), none⟩ := by rw [add_mk, add_mk, Nat.add_assoc]
        rw [e0, List.getElem?_eq_getElem (by omega)] at h6
        exact ⟨_, h6, fun c hc => h3 r c _ hc (List.getElem?_eq_getElem (by omega))⟩
      have hlt : b < W.heap.size := by
        obtain ⟨v, h1, _⟩ := hcell 0 (by omega) 0 h0
        unfold World.cell? at h1
        split at h1
        · rename_i hh; exact (Array.getElem?_eq_some_iff.1 hh).1
        · cases h1
      have hrow : ∀ r ∈ l.map cells, r.length = sz := by
        intro r hr; obtain ⟨y, _, rfl⟩ := List.mem_map.1 hr; exact hc y
      have inv : ∀ (i : Nat) c, (l.map cells).flatten[i]? = some c → ∃ v, W.cell? ⟨b, off + i, none⟩ = some v ∧ DR W (Lt W) (Lt W) c v := by
        intro i c hi
        have hlen' := flat_length hrow
        have hi' : i < (l.map cells).length * sz := by rw [← hlen']; exact (List.getElem?_eq_some_iff.1 hi).1
        have hq : i / sz < l.length := by
          have := Nat.div_lt_of_lt_mul (m := i) (n := sz) (k := (l.map cells).length) (by rw [Nat.mul_comm]; exact hi')
          simpa using this
        have hr : i % sz < sz := Nat.mod_lt _ h0
        have e : i / sz * sz + i % sz = i := by rw [Nat.mul_comm]; exact Nat.div_add_mod i sz
        have hf := flat_at (es := l.map cells) hrow (i := i / sz) (row := cells l[i / sz]) (by simp [hq]) hr
        rw [e] at hf
        obtain ⟨v, h1, h2⟩ := hcell _ hq _ hr
        rw [e] at h1
        exact ⟨v, h1, h2 c (by rw [← hf]; exact hi)⟩
      have hsl := DR.sl (w := W) (I := Lt W) (J := Lt W) true (l.map cells) b off cap (fun i => (W.cell? ⟨b, off + i, none⟩).getD undef) (fun _ => hlt) hlt (by simp; omega) (fun i c hi => by
        obtain ⟨v, h1, _⟩ := inv i c hi
        simp only [h1, Option.getD_some]) (fun i c hi => by
        obtain ⟨v, h1, h2⟩ := inv i c hi
        simp only [h1, Option.getD_some]; exact h2)
      have el : (l.map cells).length = len := by simp [hll]
      rw [el] at hsl
      exact drs_one hsl

theorem read_strsN {t : Nat} (ht : Tryz.prog.underlying t = some (.slice 9)) {n : Nat} {cs : List Value} {x : DataW H × List MemPlace} (h : DataW.trod enc Tryz.prog W base sp held n t cs = some x) (hs : small t x.1) : ∃ l : List ByteArray, (∀ s ∈ l, fits s) ∧ l.length ≤ 8796093021952 ∧ DRs W [.sl true (strRows l)] cs :=
  read_sliceN (cells := fun s => [.v (.string s)]) (Q := fits) (S := fun _ => True) ht (by kernel_rfl) (by decide) (fun _ => rfl) h (fun el spr e => ⟨(small_slice ht (by kernel_rfl : Tryz.prog.bytesOf 9 = 16) hs (by omega) el spr e).1, fun _ _ => trivial⟩) fun m _ cs x hx _ => read_str Tryz.underlying9 hx
theorem read_TN : ∀ (n : Nat) (cs : List Value) (x : DataW H × List MemPlace), DataW.trod enc Tryz.prog W base sp held n 26 cs = some x → small 26 x.1 → ∃ t : T, (t.fit ∧ t.near) ∧ DRs W t.cells cs := by
  intro n
  induction n using Nat.strongRecOn with
  | _ n ih =>
    intro cs x h hsm
    obtain ⟨xs, m, rfl, hx0, hl, hxl, hf⟩ := DataW.trod_struct Tryz.underlying26 h
    have hsm : small 26 (.agg (xs.map (·.1))) := by rw [hx0] at hsm; exact hsm
    have c : Tryz.prog.cellsOf 26 = 3 := by kernel_rfl
    rw [c] at hl
    have g : ∀ i, i < 3 → ∃ y, xs[i]? = some y := fun i hi => ⟨xs[i]'(by rw [hxl]; exact hi), List.getElem?_eq_getElem _⟩
    obtain ⟨y0, e0⟩ := g 0 (by omega)
    obtain ⟨y1, e1⟩ := g 1 (by omega)
    obtain ⟨y2, e2⟩ := g 2 (by omega)
    have f0 := hf 0 _ rfl
    have f1 := hf 1 _ rfl
    have f2 := hf 2 _ rfl
    rw [e0] at f0
    rw [e1] at f1
    rw [e2] at f2
    obtain ⟨z, hz⟩ := read_int Tryz.underlying22 f0
    have p1 := small_part Tryz.underlying26 hsm 1 rfl (by rw [List.getElem?_map, e1]; rfl)
    have p2 := small_part Tryz.underlying26 hsm 2 rfl (by rw [List.getElem?_map, e2]; rfl)
    obtain ⟨names, hn1, hnN, hn2⟩ := read_strsN Tryz.underlying23 f1 p1
    obtain ⟨list, hl1, hlN, hl2⟩ := read_sliceN (cells := T.cells) (Q := fun t => t.fit ∧ t.near) (S := small 26) (N := 2513169434843) Tryz.underlying24 c (by decide) T.cells_length f2 (small_slice (b := 56) Tryz.underlying24 (by kernel_rfl) p2 (by omega)) fun m' hm' cs x hx hs => ih m' (by omega) cs x hx hs
    refine ⟨.mk z names list, ⟨⟨hn1, (T.fitL_iff list).2 fun x hx => (hl1 x hx).1⟩, by omega, by omega, (T.nearL_iff list).2 fun x hx => (hl1 x hx).2⟩, ?_⟩
    rw [← T.rows_eq] at hl2
    match cs, hl with
    | [c0, c1, c2], _ => exact drs_cons hz (drs_cons hn2 (drs_cons hl2 ⟨rfl, fun i c v hc => by simp at hc⟩ rfl) rfl) rfl
theorem read_VN : ∀ (n : Nat) (cs : List Value) (x : DataW H × List MemPlace), DataW.trod enc Tryz.prog W base sp held n 33 cs = some x → small 33 x.1 → ∃ t : V, (t.fit ∧ t.near) ∧ DRs W t.cells cs := by
  intro n
  induction n using Nat.strongRecOn with
  | _ n ih =>
    intro cs x h hsm
    obtain ⟨xs, m, rfl, hx0, hl, hxl, hf⟩ := DataW.trod_struct Tryz.underlying33 h
    have hsm : small 33 (.agg (xs.map (·.1))) := by rw [hx0] at hsm; exact hsm
    have c : Tryz.prog.cellsOf 33 = 9 := by kernel_rfl
    rw [c] at hl
    have g : ∀ i, i < 7 → ∃ y, xs[i]? = some y := fun i hi => ⟨xs[i]'(by rw [hxl]; exact hi), List.getElem?_eq_getElem _⟩
    obtain ⟨y0, e0⟩ := g 0 (by omega)
    obtain ⟨y1, e1⟩ := g 1 (by omega)
    obtain ⟨y2, e2⟩ := g 2 (by omega)
    obtain ⟨y3, e3⟩ := g 3 (by omega)
    obtain ⟨y4, e4⟩ := g 4 (by omega)
    obtain ⟨y5, e5⟩ := g 5 (by omega)
    obtain ⟨y6, e6⟩ := g 6 (by omega)
    have f0 := hf 0 _ rfl
    have f1 := hf 1 _ rfl
    have f2 := hf 2 _ rfl
    have f3 := hf 3 _ rfl
    have f4 := hf 4 _ rfl
    have f5 := hf 5 _ rfl
    have f6 := hf 6 _ rfl
    rw [e0] at f0
    rw [e1] at f1
    rw [e2] at f2
    rw [e3] at f3
    rw [e4] at f4
    rw [e5] at f5
    rw [e6] at f6
    obtain ⟨kind, h0⟩ := read_int Tryz.underlying27 f0
    obtain ⟨flag, h1⟩ := read_bool Tryz.underlying4 f1
    obtain ⟨ys, m', rfl, _, hl', hxl', hf'⟩ := DataW.trod_struct Tryz.underlying29 f2
    have g' : ∀ i, i < 3 → ∃ y, ys[i]? = some y := fun i hi => ⟨ys[i]'(by rw [hxl']; exact hi), List.getElem?_eq_getElem _⟩
    obtain ⟨y0', e0'⟩ := g' 0 (by omega)
    obtain ⟨y1', e1'⟩ := g' 1 (by omega)
    obtain ⟨y2', e2'⟩ := g' 2 (by omega)
    have f0' := hf' 0 _ rfl
    have f1' := hf' 1 _ rfl
    have f2' := hf' 2 _ rfl
    rw [e0'] at f0'
    rw [e1'] at f1'
    rw [e2'] at f2'
    obtain ⟨neg, h0'⟩ := read_bool Tryz.underlying4 f0'
    obtain ⟨digits, hd, h1'⟩ := read_str Tryz.underlying9 f1'
    obtain ⟨exp, h2'⟩ := read_int Tryz.underlying3 f2'
    obtain ⟨bits, h3⟩ := read_int Tryz.underlying30 f3
    obtain ⟨text, ht, h4⟩ := read_str Tryz.underlying9 f4
    have p5 := small_part Tryz.underlying33 hsm 5 rfl (by rw [List.getElem?_map, e5]; rfl)
    have p6 := small_part Tryz.underlying33 hsm 6 rfl (by rw [List.getElem?_map, e6]; rfl)
    obtain ⟨names, hn1, hnN, h5⟩ := read_strsN Tryz.underlying23 f5 p5
    obtain ⟨list, hl1, hlN, h6⟩ := read_sliceN (cells := V.cells) (Q := fun t => t.fit ∧ t.near) (S := small 33) (N := 1172812402926) Tryz.underlying31 c (by decide) V.cells_length f6 (small_slice (b := 120) Tryz.underlying31 (by kernel_rfl) p6 (by omega)) fun m'' hm' cs x hx hs => ih m'' (by omega) cs x hx hs
    refine ⟨.mk kind flag neg digits exp bits text names list, ⟨⟨hd, ht, hn1, (V.fitL_iff list).2 fun x hx => (hl1 x hx).1⟩, by omega, by omega, (V.nearL_iff list).2 fun x hx => (hl1 x hx).2⟩, ?_⟩
    rw [← V.rows_eq] at h6
    match cs, hl with
    | [c0, c1, c2, c3, c4, c5, c6, c7, c8], _ =>
      exact drs_cons h0 (drs_cons h1 (drs_cons h0' (drs_cons h1' (drs_cons h2' (drs_cons h3 (drs_cons h4 (drs_cons h5 (drs_cons h6 ⟨rfl, fun i c v hc => by simp at hc⟩ rfl) rfl) rfl) rfl) rfl) rfl) rfl) rfl) rfl
end
end Go.Proofs.YtdcpnpcmgfmenaaGreatDoor
/-
  What the row's condition gives: the tables. Conditions: none.
-/
set_option linter.unusedVariables false
set_option maxRecDepth 100000
namespace Go.Proofs.YtdcpnpcmgfmenaaGreatDoor
open Go Go.Proofs.YtdcpnpcmgfmenaaGreatDoor.Lg Go.ChangeShapes Go.WideShapes Go.RowKit

def laidL : List (String × DataW Unit) := [("unicode/utf8.acceptRanges", Rows.laid_unicode_utf8_acceptRanges), ("calamus/types.kinds", Rows.laid_calamus_types_kinds), ("unicode/utf8.first", Rows.laid_unicode_utf8_first)]
theorem u8t : U8Types Tryz.prog Tryz.laysValid_ren := U8Types.of196 Tryz.laysValid
theorem u8x : U8Extra Tryz.prog Tryz.laysValid_ren := { n3 := by kernel_rfl, y3 := by kernel_rfl, n4 := by kernel_rfl, y4 := by kernel_rfl, c5 := by kernel_rfl, c119 := by kernel_rfl, c138 := by kernel_rfl }
theorem first_eq : Rows.laid_unicode_utf8_first = Lib.firstData := by kernel_rfl
theorem accept_eq : (Rows.laid_unicode_utf8_acceptRanges : DataW Unit) = Lib.acceptData := by kernel_rfl
theorem tabs_of_laid {W : World} (h : laidMetH Tryz.prog laidL W) : Lib.Utf8Tabs gFirst gAccept W := by
  rw [MakeChecks.laidMetH_plain _ _ _ (by kernel_rfl)] at h
  have h3 := Lib.laidMet.reads h (n := "unicode/utf8.first") (d := Rows.laid_unicode_utf8_first) (by simp [laidL])
  have h4 := Lib.laidMet.reads h (n := "unicode/utf8.acceptRanges") (d := Rows.laid_unicode_utf8_acceptRanges) (by simp [laidL])
  rw [first_eq] at h3
  rw [accept_eq] at h4
  exact utf8Tabs_of_readsT u8t u8x h3 h4
theorem kinds_of_laid {W : World} (h : laidMetH Tryz.prog laidL W) : ∀ (j : Nat) c, gl0[j]? = some c → ∃ v, c = .v v ∧ W.cell? ⟨0, j, none⟩ = some v := by
  rw [MakeChecks.laidMetH_plain _ _ _ (by kernel_rfl)] at h
  obtain ⟨g, t, cs, fuel, p, hg, ht, hv, hd⟩ := Lib.laidMet.reads h (n := "calamus/types.kinds") (d := Rows.laid_calamus_types_kinds) (by simp [laidL])
  obtain rfl := Option.some.inj ((show Tryz.prog.globalNamed "calamus/types.kinds" = some 0 by kernel_rfl).symm.trans hg)
  obtain rfl := Option.some.inj ((show (Tryz.prog.globals[0]?).map (·.type) = some 65 by kernel_rfl).symm.trans ht)
  have hcs := Lib.cells_of_tab (zs := [0, 0, 1, 2, 3, 3, 4, 5, 6]) (k := .i64) Tryz.underlying65 Tryz.underlying27 (by kernel_rfl) (by kernel_rfl) hd
  intro j c hj
  rw [World.var?_cell hg hv j, ← Array.getElem?_toList, hcs]
  match j, hj with
  | 0, hj | 1, hj | 2, hj | 3, hj | 4, hj | 5, hj | 6, hj | 7, hj | 8, hj => cases hj; exact ⟨_, rfl, rfl⟩
  | j + 9, hj => simp [gl0] at hj

/-- How a call of the law finds the world. -/
def g0 (W : World) : G := { ρ := fun _ => 0, κ := fun _ => 0, cap := fun _ => 0, vt := fun _ => false, I := Lt W, J := Lt W }
theorem cell_lt {W : World} {b o : Nat} {v : Value} (h : W.cell? ⟨b, o, none⟩ = some v) : b < W.heap.size := by
  unfold World.cell? at h
  split at h
  · rename_i hh; exact (Array.getElem?_eq_some_iff.1 hh).1
  · cases h
theorem gl_cells {W : World} {i : Nat} {cs : List D} (h0 : 0 < cs.length) (h : ∀ (j : Nat) c, cs[j]? = some c → ∃ v, c = .v v ∧ W.cell? ⟨i, j, none⟩ = some v) :
    Lt W i ∧ ∃ f : Nat → Value, (∀ (j : Nat) c, cs[j]? = some c → W.cell? ⟨i, j, none⟩ = some (f j)) ∧ ∀ (j : Nat) c, cs[j]? = some c → DR W (Lt W) (Lt W) c (f j) := by
  refine ⟨?_, fun j => (W.cell? ⟨i, j, none⟩).getD undef, fun j c hc => ?_, fun j c hc => ?_⟩
  · obtain ⟨v, _, hv⟩ := h 0 _ (List.getElem?_eq_getElem h0)
    exact cell_lt hv
  · obtain ⟨v, _, hv⟩ := h j c hc
    simp only [hv, Option.getD_some]
  · obtain ⟨v, rfl, hv⟩ := h j c hc
    simp only [hv, Option.getD_some]
    exact .v _
theorem start_hr {W : World} (h : laidMetH Tryz.prog laidL W) : HRel env W (g0 W) 0 (fun _ => .dead) := by
  refine ⟨fun _ h => by omega, fun _ _ => rfl, fun _ _ h => by omega, fun _ h => h, fun _ h => h, fun b _ ⟨l, hl, _⟩ => by omega, fun i cs hcs => ?_⟩
  have hT := tabs_of_laid h
  have hcs : glT i = some cs := hcs
  unfold glT at hcs
  split at hcs
  · injection hcs with hcs; subst hcs
    exact gl_cells (by decide) (kinds_of_laid h)
  · injection hcs with hcs; subst hcs
    refine gl_cells (by simp [gl1]) fun j c hj => ?_
    simp only [gl1, List.getElem?_map, Option.map_eq_some_iff] at hj
    obtain ⟨a, ha, rfl⟩ := hj
    obtain ⟨hlt, hra⟩ := List.getElem?_eq_some_iff.1 ha
    simp at hlt hra
    subst hra
    exact ⟨_, rfl, hT.1 j hlt⟩
  · injection hcs with hcs; subst hcs
    refine gl_cells (by decide) fun j c hj => ?_
    have hj32 : j < 32 := by have := (List.getElem?_eq_some_iff.1 hj).1; simpa [gl2] using this
    have key : ∀ i, i < 16 → gl2[2 * i]? = some (.v (.int .u8 (Lib.accLo i))) ∧ gl2[2 * i + 1]? = some (.v (.int .u8 (Lib.accHi i))) := by
      intro i hi
      match i, hi with
      | 0, _ | 1, _ | 2, _ | 3, _ | 4, _ | 5, _ | 6, _ | 7, _ | 8, _ | 9, _ | 10, _ | 11, _ | 12, _ | 13, _ | 14, _ | 15, _ => exact ⟨rfl, rfl⟩
      | i + 16, h => omega
    have ht := hT.2 (j / 2) (by omega)
    have hk := key (j / 2) (by omega)
    rcases Nat.mod_two_eq_zero_or_one j with e | e
    · have : j = 2 * (j / 2) := by omega
      rw [this] at hj ⊢
      rw [hk.1] at hj
      cases hj
      exact ⟨_, rfl, ht.1⟩
    · have : j = 2 * (j / 2) + 1 := by omega
      rw [this] at hj ⊢
      rw [hk.2] at hj
      cases hj
      exact ⟨_, rfl, ht.2⟩
  · cases hcs

theorem own0 : ownKnob Tryz.prog.godebug = none := by kernel_rfl
theorem laidOut0 : laidOutB Tryz.prog = true := by kernel_rfl
theorem vr_of {W : World} {ds : List D} {xs : Array Value} (h : DRs W ds xs.toList) : VR W (g0 W) 0 (.d (.agg ds)) (.agg xs) :=
  .d _ _ (.agg _ _ (by simpa using h.1) fun i c x hc hx => h.2 i c x hc (by simpa using hx))
end Go.Proofs.YtdcpnpcmgfmenaaGreatDoor
/-
  The law TypesChecks of the given program: for every input that the row speaks of the call returns true, and each argument reads afterwards as it read before. Conditions: the row's own (the listed variables read as the program's text lays them).
-/
set_option linter.unusedVariables false
set_option maxRecDepth 100000
namespace Go.Proofs.YtdcpnpcmgfmenaaGreatDoor
open Go Go.Proofs.YtdcpnpcmgfmenaaGreatDoor.Lg Go.ChangeShapes Go.WideShapes Go.ChangeAt Go.RowKit

theorem typesChecks_lifted (os : Os) (started : os.Started) (H : Type) (enc : TypeId × Value → H) :
    ReturnsInHanded {} Tryz.checked os 3 .any (fun w args => (Rows.typesChecksSpec.pre enc Tryz.prog Tryz.f3 [] false w args ∧ laidMetH Tryz.prog laidL w) ∧ sizedMet enc Tryz.prog Tryz.f3 (OpenSpec.ofChange Rows.typesChecksSpec) false w args)
      (Rows.typesChecksSpec.post enc Tryz.prog Tryz.f3 false true false false) := by
  refine returnsInHanded_of_change_and (C := Tryz.checked) (X := fun w _ => laidMetH Tryz.prog laidL w) (fun _ _ _ hh h => h.of_heap hh) own0 started (by kernel_rfl) Tryz.func3
    (ChangeSpec.witness_shaped (enc := enc) (C := Tryz.checked) (os := os) (X := fun w _ => laidMetH Tryz.prog laidL w) false (World.laidAll Tryz.prog os laidL) #[.agg #[.int .i64 0, .slice none 0 0, .slice none 0 0], .agg #[.int .i64 0, .bool false, .bool false, .string ByteArray.empty, .int .i64 0, .int .u64 0, .string ByteArray.empty, .slice none 0 0, .slice none 0 0]] 8 (World.laidAll_os _ _ _)
      (World.shaped_of_ZipB (by kernel_rfl) (by kernel_rfl)) (by kernel_rfl) (by kernel_rfl) (by kernel_rfl)
      (by rw [MakeChecks.laidMetH_plain _ _ _ (by kernel_rfl)]; exact laidMet_laidAll _ (by kernel_rfl) (by kernel_rfl))) ?_
  intro W base args ds gs before hval0 hW hc hsz0 hL _
  have hval : ∀ (j : Nat) t v, Tryz.f3.params[j]? = some t → args[j]? = some v → Value.okWide Tryz.prog W .any base t v := hval0
  have hW' := hW
  obtain ⟨p, q, hA0, hV, rfl, hfz, hnd⟩ := hW
  have hA : DataW.TrodAll enc Tryz.prog W 0 (fun _ => true) true Tryz.f3.params.toList args.toList ds p := hA0
  rw [Tryz.params3] at hA hval
  obtain ⟨v0, vs0, d0, ds0, p0, q0, hargs, rfl, rfl, h0, r0⟩ := trodAll_cons hA
  obtain ⟨v1, vs1, d1, ds1, p1, q1, rfl, rfl, rfl, h1, r1⟩ := trodAll_cons r0
  obtain ⟨rfl, rfl, rfl⟩ := trodAll_nil r1
  obtain rfl : args = #[v0, v1] := by cases args; simp_all
  obtain ⟨rfl, rfl⟩ := trodVars_none hV
  have lt0 : ∀ x ∈ p0, x.block < W.heap.size := by obtain ⟨m, hm⟩ := h0; exact DataW.trod_lt m _ _ _ hm
  have k0 := h0
  obtain ⟨x0, rfl, _⟩ := okWide_struct Tryz.underlying26 (hval 0 26 v0 rfl rfl)
  have s0 : small 26 d0 := fun n hn => by have := List.all_eq_true.1 hsz0 n (DataW.weights_mem_each (j := 0) (by rw [Tryz.params3]; rfl) rfl n hn); exact of_decide_eq_true this
  obtain ⟨t0, ⟨f0, n0⟩, c0⟩ := read_TN _ _ _ (Classical.choose_spec h0) s0
  have c0 := vr_of c0
  have lt1 : ∀ x ∈ p1, x.block < W.heap.size := by obtain ⟨m, hm⟩ := h1; exact DataW.trod_lt m _ _ _ hm
  have k1 := h1
  obtain ⟨x1, rfl, _⟩ := okWide_struct Tryz.underlying33 (hval 1 33 v1 rfl rfl)
  have s1 : small 33 d1 := fun n hn => by have := List.all_eq_true.1 hsz0 n (DataW.weights_mem_each (j := 1) (by rw [Tryz.params3]; rfl) rfl n hn); exact of_decide_eq_true this
  obtain ⟨t1, ⟨f1, n1⟩, c1⟩ := read_VN _ _ _ (Classical.choose_spec h1) s1
  have c1 := vr_of c1
  clear hA0 hval0 hsz0
  refine ((TypesChecks_pure t0 t1 f0 f1 n0 n1).2 W (g0 W) #[.agg x0, .agg x1] (start_hr hL) rfl (fun i c x hc hx => ?_)).mono ?_
  · match i, hc, hx with
    | 0, hc, hx => cases hc; cases hx; exact c0
    | 1, hc, hx => cases hc; cases hx; exact c1
    | i + 2, hc, hx => simp at hc
  rintro e W' ⟨v, rfl, hv, bel⟩
  obtain rfl := vr_val hv
  exact ⟨_, rfl, _, _, _, [], _, [], hW', trodAll_mk1 (shut_bool Tryz.underlying4 _), (trodAll_cons_mk (Below.trod laidOut0 (by kernel_rfl) (of_decide_eq_true (by kernel_rfl)) k0 bel lt0) (trodAll_cons_mk (Below.trod laidOut0 (by kernel_rfl) (of_decide_eq_true (by kernel_rfl)) k1 bel lt1) trodAll_mk0)), rfl, bel.frame _, fun h => by cases h⟩

theorem typesChecks_row : Rows.TypesChecksSaid :=
  OpenClaim.holds_of_wide 3 Tryz.f3 rfl rfl rfl rfl rfl rfl rfl ⟨rfl, rfl, rfl, rfl, rfl⟩ rfl rfl rfl rfl rfl (by kernel_rfl) Tryz.func3 (by kernel_rfl)
    (of_decide_eq_true (by kernel_rfl)) (by unfold Func.isWrapper; first | (rw [if_pos (by decide +kernel)]; kernel_rfl) | (rw [if_neg (by decide +kernel)]; exact ⟨rfl, rfl⟩))
    (fun os started H enc _ => typesChecks_lifted os started H enc)
theorem typesChecks_holds : Rows.TypesChecksCardSaid :=
  Claim7.holds_tied_plain_at .later [] [.data, .data, .pinned] true Rows.typesChecksCard.stood.harness false typesChecks_row (fun _ h => by cases h) (by kernel_rfl) (fun _ h => by cases h) typesChecks_row_tie rfl ⟨rfl, rfl⟩ (by kernel_rfl) rfl
    (fun f fn hf hfn => by
      obtain rfl : f = 3 := Option.some.inj ((show Tryz.prog.funcNamed "calamus/calamuslaw11.TypesChecks" = some 3 by kernel_rfl).symm.trans hf) |>.symm
      obtain rfl : fn = Tryz.f3 := (Option.some.inj (Tryz.func3.symm.trans hfn)).symm
      exact ⟨by kernel_rfl, fun j t ht => by
        rw [Tryz.params3] at ht
        have hm : t ∈ [26, 33] := by have := Array.mem_of_getElem? ht; simp at this ⊢; omega
        have hall : ([26, 33].all fun u => !Tryz.prog.wantsStandIn u) = true := by kernel_rfl
        exact (show Tryz.prog.wantsStandIn t = false by simpa using List.all_eq_true.1 hall t hm)⟩)
    (by kernel_rfl)
#print axioms typesChecks_holds
end Go.Proofs.YtdcpnpcmgfmenaaGreatDoor
