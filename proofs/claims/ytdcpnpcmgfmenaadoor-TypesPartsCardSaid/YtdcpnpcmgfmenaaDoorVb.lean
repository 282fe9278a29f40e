/-
  Walks: is a value short? Conditions: none.
-/
import Derived.Test.YtdcpnpcmgfmenaaDoorVa
set_option linter.unusedVariables false
set_option maxRecDepth 100000
namespace Go.Proofs.YtdcpnpcmgfmenaaDoor
open Go Go.Proofs.YtdcpnpcmgfmenaaDoor.Lg

theorem short_pure (t : V) : ∀ s, Pure env 45 [.d (t.df s)] (.d (.v (.bool t.short))) := by
  revert t
  apply V.ind
  intro kind flag neg digits exp bits text names list ih s
  have hrec : ∀ x ∈ list, Pure env 62 [.d x.d] (.d (.v (.bool (!x.short)))) := fun x hx => short2_pure x (by rw [V.df_d]; exact ih x hx true)
  have hS : (V.mk kind flag neg digits exp bits text names list).short = ((!(decide ((text.size : Int) > (if kind = 9 then 64 else 4096)) || (decide ((list.length : Int) > 256) || names.any fun s => decide ((s.size : Int) > 64)))) && V.shortL list) := by rw [V.short]
  refine pure_of_body Tryd.func45 rfl rfl rfl fun B hB => ?_
  refine swp_seq ?_
  refine swp_region ?_
  refine sops_go rfl (so_box (cs := [_, _, _, _, _, _, _, _, _]) rfl rfl rfl ?_)
  refine sops_go rfl (st_assign (v := .d _) rfl rfl rfl ?_)
  refine sops_nil ?_
  refine swp_seq ?_
  refine swp_region ?_
  refine sops_go rfl (st_assign (v := .d _) rfl rfl rfl ?_)
  refine sops_nil ?_
  -- stop
  let most : Int := if kind = 9 then 64 else 4096
  refine swp_seqF (F := fun _ : Unit => ({ t := upd (upd (fun _ => .any) 1 (.p 0 0 0)) 3 (.d (.v (.int .i64 most))), n := 27, h := upd (fun _ => .dead) 0 (.cells [.any, .any, .any, .any, .any, .any, .d (.v (.string text)), .d (.sl s (strRows names)), .d (.sl s (V.rows list))]), nx := 1 } : St)) (P := fun _ => True) ?_ ?_
  · refine swp_seq ?_
    refine swp_region ?_
    first | refine sops_go rfl (so_fieldAddr (v := .p _ _ _) rfl rfl rfl rfl rfl rfl rfl rfl rfl rfl ?_) | refine sops_go rfl (so_fieldAddr (v := .dp _ _) rfl rfl rfl rfl rfl rfl rfl rfl rfl rfl ?_) | refine sops_go rfl (so_fieldAddr (v := .pe _ _ _ _ _) rfl rfl rfl rfl rfl rfl rfl rfl rfl rfl ?_)
    refine sops_go rfl (so_load (v := .d _) rfl rfl rfl rfl rfl rfl rfl rfl ?_)
    refine sops_go rfl (st_bin rfl rfl rfl rfl rfl ?_)
    refine sops_nil ?_
    -- cond
    refine swp_cond _ rfl (fun hc => ?_) (fun hc => ?_)
    · refine swp_region ?_
      refine sops_go rfl (st_assign (v := .d _) rfl rfl rfl ?_)
      refine sops_nil ?_
      -- cut
      have hm : (64 : Int) = most := (if_pos (by simpa using hc)).symm
      refine ⟨(), trivial, ?_⟩
      refine wk_of rfl (Nat.le_of_ble_eq_true rfl) (by rw [hB]; exact Nat.zero_le _) (tle_upd (le_eq (int_eq hm) rfl) (tle_upd (le_eq rfl rfl) (tle_any _))) (hle_upd (.cells _ _ ⟨le_any _, le_any _, le_any _, le_any _, le_any _, le_any _, le_eq rfl rfl, le_eq rfl rfl, le_eq rfl rfl, trivial⟩) (hle_dead _)) (dead_upd (Nat.le_of_ble_eq_true rfl) (dead_none))
    · refine swp_skip ?_
      -- cut
      have hm : (4096 : Int) = most := (if_neg (by simpa using hc)).symm
      refine ⟨(), trivial, ?_⟩
      refine wk_of rfl (Nat.le_of_ble_eq_true rfl) (by rw [hB]; exact Nat.zero_le _) (tle_upd (le_eq (int_eq hm) rfl) (tle_upd (le_eq rfl rfl) (tle_any _))) (hle_upd (.cells _ _ ⟨le_any _, le_any _, le_any _, le_any _, le_any _, le_any _, le_eq rfl rfl, le_eq rfl rfl, le_eq rfl rfl, trivial⟩) (hle_dead _)) (dead_upd (Nat.le_of_ble_eq_true rfl) (dead_none))
  rintro ⟨⟩ -
  refine swp_seq ?_
  refine swp_seq ?_
  refine swp_region ?_
  first | refine sops_go rfl (so_fieldAddr (v := .p _ _ _) rfl rfl rfl rfl rfl rfl rfl rfl rfl rfl ?_) | refine sops_go rfl (so_fieldAddr (v := .dp _ _) rfl rfl rfl rfl rfl rfl rfl rfl rfl rfl ?_) | refine sops_go rfl (so_fieldAddr (v := .pe _ _ _ _ _) rfl rfl rfl rfl rfl rfl rfl rfl rfl rfl ?_)
  refine sops_go rfl (so_load (v := .d _) rfl rfl rfl rfl rfl rfl rfl rfl ?_)
  refine sops_go rfl (so_lenStr rfl rfl rfl rfl rfl ?_)
  refine sops_go rfl (st_move (v := .d _) rfl rfl rfl ?_)
  refine sops_go rfl (st_bin rfl rfl rfl rfl rfl ?_)
  refine sops_go rfl (st_move (v := .d _) rfl rfl rfl ?_)
  -- guard (some (5, false))
  refine sops_case 12 rfl (fun hb12 => ?_) (fun hb12 => ?_)
  · first | refine sops_yes rfl rfl rfl rfl (so_fieldAddr (v := .p _ _ _) rfl rfl rfl rfl rfl rfl rfl rfl rfl rfl ?_) | refine sops_yes rfl rfl rfl rfl (so_fieldAddr (v := .dp _ _) rfl rfl rfl rfl rfl rfl rfl rfl rfl rfl ?_) | refine sops_yes rfl rfl rfl rfl (so_fieldAddr (v := .pe _ _ _ _ _) rfl rfl rfl rfl rfl rfl rfl rfl rfl rfl ?_) | refine sops_no rfl rfl rfl rfl rfl ?_
    first | refine sops_yes rfl rfl rfl rfl (so_load (v := .d _) rfl rfl rfl rfl rfl rfl rfl rfl ?_) | refine sops_yes rfl rfl rfl rfl (so_load (v := .own _ _ _ _ _) rfl rfl rfl rfl rfl rfl rfl rfl ?_) | refine sops_no rfl rfl rfl rfl rfl ?_
    first | refine sops_yes rfl rfl rfl rfl (so_lenSl rfl rfl rfl rfl rfl ?_) | refine sops_no rfl rfl rfl rfl rfl ?_
    first | refine sops_yes rfl rfl rfl rfl (st_bin rfl rfl rfl rfl rfl ?_) | refine sops_no rfl rfl rfl rfl rfl ?_
    refine sops_go rfl (st_pick (v := .d _) rfl rfl rfl rfl ?_)
    refine sops_go rfl (st_move (v := .d _) rfl rfl rfl ?_)
    -- guard (some (11, false))
    first | refine sops_yes rfl rfl rfl rfl (so_fieldAddr (v := .p _ _ _) rfl rfl rfl rfl rfl rfl rfl rfl rfl rfl ?_) | refine sops_yes rfl rfl rfl rfl (so_fieldAddr (v := .dp _ _) rfl rfl rfl rfl rfl rfl rfl rfl rfl rfl ?_) | refine sops_yes rfl rfl rfl rfl (so_fieldAddr (v := .pe _ _ _ _ _) rfl rfl rfl rfl rfl rfl rfl rfl rfl rfl ?_) | refine sops_no rfl rfl rfl rfl rfl ?_
    first | refine sops_yes rfl rfl rfl rfl (so_load (v := .d _) rfl rfl rfl rfl rfl rfl rfl rfl ?_) | refine sops_yes rfl rfl rfl rfl (so_load (v := .own _ _ _ _ _) rfl rfl rfl rfl rfl rfl rfl rfl ?_) | refine sops_no rfl rfl rfl rfl rfl ?_
    -- hand: CALL f52(t20, f61)
    refine sops_no rfl rfl rfl rfl rfl ?_
    refine sops_go rfl (st_pick (v := .d _) rfl rfl rfl rfl ?_)
    refine sops_nil ?_
    -- cond
    refine swp_condT rfl ?_
    refine swp_seq ?_
    refine swp_region ?_
    refine sops_go rfl (st_assign (v := .d _) rfl rfl rfl ?_)
    refine sops_nil ?_
    refine swp_ret ?_
    with_reducible refine after_ret ?_
    -- ret
    refine ⟨.inl rfl, .inl ⟨2, rfl, ?_⟩⟩
    rw [hS, show decide ((text.size : Int) > (if kind = 9 then 64 else 4096)) = true from hb12]
    exact ra_d (keeps_v _)
  · first | refine sops_yes rfl rfl rfl rfl (so_fieldAddr (v := .p _ _ _) rfl rfl rfl rfl rfl rfl rfl rfl rfl rfl ?_) | refine sops_yes rfl rfl rfl rfl (so_fieldAddr (v := .dp _ _) rfl rfl rfl rfl rfl rfl rfl rfl rfl rfl ?_) | refine sops_yes rfl rfl rfl rfl (so_fieldAddr (v := .pe _ _ _ _ _) rfl rfl rfl rfl rfl rfl rfl rfl rfl rfl ?_) | refine sops_no rfl rfl rfl rfl rfl ?_
    first | refine sops_yes rfl rfl rfl rfl (so_load (v := .d _) rfl rfl rfl rfl rfl rfl rfl rfl ?_) | refine sops_yes rfl rfl rfl rfl (so_load (v := .own _ _ _ _ _) rfl rfl rfl rfl rfl rfl rfl rfl ?_) | refine sops_no rfl rfl rfl rfl rfl ?_
    first | refine sops_yes rfl rfl rfl rfl (so_lenSl rfl rfl rfl rfl rfl ?_) | refine sops_no rfl rfl rfl rfl rfl ?_
    first | refine sops_yes rfl rfl rfl rfl (st_bin rfl rfl rfl rfl rfl ?_) | refine sops_no rfl rfl rfl rfl rfl ?_
    refine sops_go rfl (st_pick (v := .d _) rfl rfl rfl rfl ?_)
    refine sops_go rfl (st_move (v := .d _) rfl rfl rfl ?_)
    -- guard (some (11, false))
    refine sops_case 18 rfl (fun hb18 => ?_) (fun hb18 => ?_)
    · first | refine sops_yes rfl rfl rfl rfl (so_fieldAddr (v := .p _ _ _) rfl rfl rfl rfl rfl rfl rfl rfl rfl rfl ?_) | refine sops_yes rfl rfl rfl rfl (so_fieldAddr (v := .dp _ _) rfl rfl rfl rfl rfl rfl rfl rfl rfl rfl ?_) | refine sops_yes rfl rfl rfl rfl (so_fieldAddr (v := .pe _ _ _ _ _) rfl rfl rfl rfl rfl rfl rfl rfl rfl rfl ?_) | refine sops_no rfl rfl rfl rfl rfl ?_
      first | refine sops_yes rfl rfl rfl rfl (so_load (v := .d _) rfl rfl rfl rfl rfl rfl rfl rfl ?_) | refine sops_yes rfl rfl rfl rfl (so_load (v := .own _ _ _ _ _) rfl rfl rfl rfl rfl rfl rfl rfl ?_) | refine sops_no rfl rfl rfl rfl rfl ?_
      -- hand: CALL f52(t20, f61)
      -- hand: CALL f52(t20, f61)
      refine sops_no rfl rfl rfl rfl rfl ?_
      refine sops_go rfl (st_pick (v := .d _) rfl rfl rfl rfl ?_)
      refine sops_nil ?_
      -- cond
      refine swp_condT rfl ?_
      refine swp_seq ?_
      refine swp_region ?_
      refine sops_go rfl (st_assign (v := .d _) rfl rfl rfl ?_)
      refine sops_nil ?_
      refine swp_ret ?_
      with_reducible refine after_ret ?_
      -- ret
      refine ⟨.inl rfl, .inl ⟨2, rfl, ?_⟩⟩
      have h2 : decide ((list.length : Int) > 256) = true := by rw [← V.rows_len list]; exact hb18
      rw [hS, show decide ((text.size : Int) > (if kind = 9 then 64 else 4096)) = false from hb12, h2]
      exact ra_d (keeps_v _)
    · have h2 : decide ((list.length : Int) > 256) = false := by rw [← V.rows_len list]; exact hb18
      first | refine sops_yes rfl rfl rfl rfl (so_fieldAddr (v := .p _ _ _) rfl rfl rfl rfl rfl rfl rfl rfl rfl rfl ?_) | refine sops_yes rfl rfl rfl rfl (so_fieldAddr (v := .dp _ _) rfl rfl rfl rfl rfl rfl rfl rfl rfl rfl ?_) | refine sops_yes rfl rfl rfl rfl (so_fieldAddr (v := .pe _ _ _ _ _) rfl rfl rfl rfl rfl rfl rfl rfl rfl rfl ?_) | refine sops_no rfl rfl rfl rfl rfl ?_
      first | refine sops_yes rfl rfl rfl rfl (so_load (v := .d _) rfl rfl rfl rfl rfl rfl rfl rfl ?_) | refine sops_yes rfl rfl rfl rfl (so_load (v := .own _ _ _ _ _) rfl rfl rfl rfl rfl rfl rfl rfl ?_) | refine sops_no rfl rfl rfl rfl rfl ?_
      -- hand: CALL f52(t20, f61)
      first | refine sops_yes rfl rfl rfl rfl (st_call rfl rfl (containsFuncS_pure s names 61 [] (fun x => decide ((x.size : Int) > 64)) (fun x hx => short1_pure x) rfl) ⟨na_d _, na_free rfl, trivial⟩ rfl ?_) | refine sops_no rfl rfl rfl rfl rfl ?_
      refine sops_go rfl (st_pick (v := .d _) rfl rfl rfl rfl ?_)
      refine sops_nil ?_
      -- cond
      refine swp_cond _ rfl (fun hc => ?_) (fun hc => ?_)
      · refine swp_seq ?_
        refine swp_region ?_
        refine sops_go rfl (st_assign (v := .d _) rfl rfl rfl ?_)
        refine sops_nil ?_
        refine swp_ret ?_
        with_reducible refine after_ret ?_
        -- ret
        refine ⟨.inl rfl, .inl ⟨2, rfl, ?_⟩⟩
        rw [hS, show decide ((text.size : Int) > (if kind = 9 then 64 else 4096)) = false from hb12, h2, hc]
        exact ra_d (keeps_v _)
      · refine swp_skip ?_
        refine swp_seq ?_
        refine swp_region ?_
        first | refine sops_go rfl (so_fieldAddr (v := .p _ _ _) rfl rfl rfl rfl rfl rfl rfl rfl rfl rfl ?_) | refine sops_go rfl (so_fieldAddr (v := .dp _ _) rfl rfl rfl rfl rfl rfl rfl rfl rfl rfl ?_) | refine sops_go rfl (so_fieldAddr (v := .pe _ _ _ _ _) rfl rfl rfl rfl rfl rfl rfl rfl rfl rfl ?_)
        first | refine sops_go rfl (so_load (v := .d _) rfl rfl rfl rfl rfl rfl rfl rfl ?_) | refine sops_go rfl (so_load (v := .own _ _ _ _ _) rfl rfl rfl rfl rfl rfl rfl rfl ?_)
        -- hand: CALL f48(t24, f62)
        refine sops_go rfl (st_call rfl rfl (containsFuncV_pure s list 62 [] (fun x => !x.short) hrec rfl) ⟨na_d _, na_free rfl, trivial⟩ rfl ?_)
        refine sops_go rfl (st_not rfl rfl rfl ?_)
        refine sops_go rfl (st_assign (v := .d _) rfl rfl rfl ?_)
        refine sops_nil ?_
        refine swp_ret ?_
        -- ret
        refine ⟨.inl rfl, .inl ⟨2, rfl, ?_⟩⟩
        rw [hS, show decide ((text.size : Int) > (if kind = 9 then 64 else 4096)) = false from hb12, h2, hc, V.shortL_any]
        exact ra_d (keeps_v _)
end Go.Proofs.YtdcpnpcmgfmenaaDoor
