/-
  Walks: are texts names, no two alike? Conditions: none.
-/
import Derived.Test.YtdcpnpcmgfmenaaDoorVc
import Derived.Test.YtdcpnpcmgfmenaaDoorSr
import Derived.Test.YtdcpnpcmgfmenaaDoorPl
set_option linter.unusedVariables false
set_option maxRecDepth 100000
namespace Go.Proofs.YtdcpnpcmgfmenaaDoor
open Go Go.Proofs.YtdcpnpcmgfmenaaDoor.Lg

/-- Names that have not been seen, one after another. -/
def namesOk : List ByteArray → List ByteArray → Bool
  | [], _ => true
  | s :: r, seen => if (hasS seen s || !utfOk s) = true then false else namesOk r (seen ++ [s])

theorem names_pure (s : Bool) (l : List ByteArray) (hf : ∀ n ∈ l, fits n) : Pure env 59 [.d (.sl s (strRows l))] (.d (.v (.bool (namesOk l [])))) := by
  refine pure_of_body Tryd.func59 rfl rfl rfl fun B hB => ?_
  refine swp_lenT (i := 0) rfl fun hlen => ?_
  rw [strRows_len] at hlen
  refine swp_seq ?_
  refine swp_region ?_
  refine sops_go rfl (st_assign (v := .d _) rfl rfl rfl ?_)
  refine sops_nil ?_
  refine swp_seq ?_
  refine swp_region ?_
  refine sops_go rfl (so_makeMap rfl rfl ?_)
  first | refine sops_go rfl (st_assign (v := .map _) rfl rfl rfl ?_) | refine sops_go rfl (st_assign (v := .d _) rfl rfl rfl ?_)
  refine sops_nil ?_
  refine swp_seq ?_
  refine swp_seq ?_
  refine swp_region ?_
  first | refine sops_go rfl (st_move (v := .d _) rfl rfl rfl ?_) | refine sops_go rfl (st_move (v := .own _ _ _ _ _) rfl rfl rfl ?_)
  refine sops_go rfl (so_lenSl rfl rfl rfl rfl rfl ?_)
  refine sops_go rfl (st_move (v := .d _) rfl rfl rfl ?_)
  refine sops_nil ?_
  refine swp_block ?_
  refine swp_loopF (F := fun k : Nat => { t := upd (upd (upd (upd (fun _ => .any) 3 (.map 0)) 7 (.d (.sl s (strRows l)))) 8 (.d (.v (.int .i64 l.length)))) 9 (.d (.v (.int .i64 k))), n := 24, h := upd (fun _ => .dead) 0 (.map (encS (l.take k))), nx := 1 })
    (fun k => k ≤ l.length ∧ namesOk l [] = namesOk (l.drop k) (l.take k)) (fun k => l.length - k) 0 ⟨Nat.zero_le _, rfl⟩ ?_ ?_
  · refine wk_of rfl (Nat.le_of_ble_eq_true rfl) (by rw [hB]; exact Nat.zero_le _) (tle_upd (le_eq rfl rfl) (tle_upd (le_eq (int_eq (by rw [strRows_len])) rfl) (tle_upd (le_eq rfl rfl) (tle_upd (le_eq rfl rfl) (tle_any _))))) (hle_upd (.map _ _ (rfl) (encS_bnd _ _)) (hle_dead _)) (dead_upd (Nat.le_of_ble_eq_true rfl) (dead_none))
  rintro k ⟨hk, ha⟩
  refine swp_seq ?_
  refine swp_region ?_
  refine sops_go rfl (st_bin rfl rfl rfl rfl rfl ?_)
  refine sops_nil ?_
  refine swp_seq ?_
  refine swp_cond _ rfl (fun hc10 => ?_) (fun hc10 => ?_)
  · have hlt : k < l.length := by have := of_decide_eq_true hc10; omega
    rw [List.drop_eq_getElem_cons hlt, namesOk] at ha
    refine swp_skip ?_
    refine swp_seq ?_
    refine swp_block ?_
    refine swp_seq ?_
    refine swp_region ?_
    refine sops_go rfl (so_indexSl rfl rfl rfl rfl rfl rfl rfl (strRows_all _) (by omega) (by rw [strRows_len]; omega) (strRows_get _ _ hlt) ?_)
    refine sops_go rfl (so_load (v := .d _) rfl rfl rfl rfl rfl rfl rfl rfl ?_)
    refine sops_go rfl (st_assign (v := .d _) rfl rfl rfl ?_)
    refine sops_nil ?_
    refine swp_seq ?_
    refine swp_seq ?_
    refine swp_region ?_
    first | refine sops_go rfl (st_move (v := .map _) rfl rfl rfl ?_) | refine sops_go rfl (st_move (v := .d _) rfl rfl rfl ?_)
    refine sops_go rfl (st_move (v := .d _) rfl rfl rfl ?_)
    refine sops_go rfl (so_setHas rfl rfl rfl rfl rfl rfl rfl rfl rfl rfl rfl ?_)
    refine sops_go rfl (st_move (v := .d _) rfl rfl rfl ?_)
    refine' sops_or (d := 16) (p := 20) [17, 18, 19] 4 rfl rfl rfl (fun hb16 => ?a16) (fun hb16 => ?b16) ?_
    case a16 =>
      refine sops_yes rfl rfl rfl rfl (st_move (v := .d _) rfl rfl rfl ?_)
      refine sops_yes rfl rfl rfl rfl (st_call rfl rfl (valid_pure _ (hf _ (List.getElem_mem hlt))) ⟨na_d _, trivial⟩ rfl ?_)
      refine sops_yes rfl rfl rfl rfl (st_not rfl rfl rfl ?_)
      refine sops_go rfl (st_pick (v := .d _) rfl rfl rfl rfl ?_)
      refine sops_nil ?_
      exact ⟨rfl, rfl, rfl, rfl, [_, _, _], rfl, rfl⟩
    case b16 =>
      refine sops_no rfl rfl rfl rfl rfl ?_
      refine sops_no rfl rfl rfl rfl rfl ?_
      refine sops_no rfl rfl rfl rfl rfl ?_
      refine sops_go rfl (st_pick (v := .d _) rfl rfl rfl rfl ?_)
      refine sops_nil ?_
      exact ⟨rfl, rfl, rfl, rfl, [_, _, _], rfl, rfl⟩
    refine sops_nil ?_
    refine swp_cond _ rfl (fun hc20 => ?_) (fun hc20 => ?_)
    · rw [if_pos hc20] at ha
      refine swp_seq ?_
      refine swp_region ?_
      refine sops_go rfl (st_assign (v := .d _) rfl rfl rfl ?_)
      refine sops_nil ?_
      refine swp_ret ?_
      with_reducible refine after_ret ?_
      with_reducible refine inblk_ret ?_
      with_reducible refine after_ret ?_
      with_reducible refine after_ret ?_
      with_reducible refine inblk_ret ?_
      with_reducible refine after_ret ?_
      exact fin_b rfl rfl ha
    · rw [if_neg (by rw [hc20]; simp)] at ha
      have hnew := (Bool.or_eq_false_iff.1 hc20).1
      refine swp_skip ?_
      refine swp_region ?_
      first | refine sops_go rfl (st_move (v := .map _) rfl rfl rfl ?_) | refine sops_go rfl (st_move (v := .d _) rfl rfl rfl ?_)
      refine sops_go rfl (st_move (v := .d _) rfl rfl rfl ?_)
      refine sops_go rfl (so_setPut rfl rfl rfl rfl rfl rfl rfl rfl rfl rfl hnew ?_)
      refine sops_nil ?_
      refine swp_region ?_
      refine sops_go rfl (st_bin rfl rfl rfl rfl rfl ?_)
      refine sops_go rfl (st_move (v := .d _) rfl rfl rfl ?_)
      refine sops_nil ?_
      refine ⟨k + 1, ⟨hlt, by rw [ha, List.take_succ_eq_append_getElem hlt]⟩, by omega, ?_⟩
      refine wk_of rfl (Nat.le_of_ble_eq_true rfl) (by rw [hB]; exact Nat.zero_le _) (tle_upd (le_eq (next_i64 hlt hlen) rfl) (tle_upd (le_eq rfl rfl) (tle_upd (le_eq rfl rfl) (tle_upd (le_eq rfl rfl) (tle_any _))))) (hle_upd (.map _ _ ((by rw [List.take_succ_eq_append_getElem hlt])) (encS_bnd _ _)) (hle_dead _)) (dead_upd (Nat.le_of_ble_eq_true rfl) (dead_none))
  · have he : k = l.length := by have := of_decide_eq_false hc10; omega
    rw [he, List.drop_length] at ha
    refine swp_exit ?_
    with_reducible refine after_exit ?_
    with_reducible refine after_exit ?_
    refine inblk_hit ?_
    refine swp_seq ?_
    refine swp_region ?_
    refine sops_go rfl (st_assign (v := .d _) rfl rfl rfl ?_)
    refine sops_nil ?_
    refine swp_ret ?_
    exact fin_b rfl rfl ha
end Go.Proofs.YtdcpnpcmgfmenaaDoor
