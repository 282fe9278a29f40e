/-
  Walks: how deep and how big a type is. Conditions: none.
-/
import Derived.Test.YtdcpnpcmgfmenaaDoorPn
set_option linter.unusedVariables false
set_option maxRecDepth 100000
namespace Go.Proofs.YtdcpnpcmgfmenaaDoor
open Go Go.Proofs.YtdcpnpcmgfmenaaDoor.Lg

theorem span1_pure (s : ByteArray) : Pure env 57 [.d (.v (.string s))] (.d (.v (.bool (decide ((s.size : Int) > 64))))) := by
  refine pure_of_body Tryd.func57 rfl rfl rfl fun B hB => ?_
  refine swp_seq ?_
  refine swp_region ?_
  refine sops_go rfl (st_assign (v := .d _) rfl rfl rfl ?_)
  refine sops_nil ?_
  refine swp_seq ?_
  refine swp_region ?_
  refine sops_go rfl (st_move (v := .d _) rfl rfl rfl ?_)
  refine sops_go rfl (so_lenStr rfl rfl rfl rfl rfl ?_)
  refine sops_go rfl (st_bin rfl rfl rfl rfl rfl ?_)
  refine sops_go rfl (st_assign (v := .d _) rfl rfl rfl ?_)
  refine sops_nil ?_
  refine swp_ret ?_
  -- ret
  exact ⟨.inl rfl, .inl ⟨2, rfl, ra_d (keeps_v _)⟩⟩

structure Sp where
  deep : Int
  many : Int
  ok : Bool
def Sp.add (a x : Sp) : Sp := ⟨max a.deep x.deep, IntKind.i64.wrap (a.many + x.many), a.ok && x.ok⟩
def shortRows (names : List ByteArray) (n : Nat) : Bool := decide ((n : Int) ≤ 256) && !(names.any fun s => decide ((s.size : Int) > 64))
mutual
def T.span : T → Sp
  | .mk _ names list => let r := T.spanF list ⟨0, 1, shortRows names list.length⟩; ⟨IntKind.i64.wrap (r.deep + 1), r.many, r.ok⟩
def T.spanF : List T → Sp → Sp
  | [], a => a
  | x :: r, a => T.spanF r (a.add x.span)
end
theorem T.spanF_take : ∀ (l : List T) (a : Sp) (k : Nat) (h : k < l.length), T.spanF (l.take (k + 1)) a = (T.spanF (l.take k) a).add l[k].span
  | x :: r, a, 0, _ => by simp [T.spanF]
  | x :: r, a, k + 1, h => by
    simp only [List.take_succ_cons, T.spanF, List.getElem_cons_succ]
    exact T.spanF_take r _ k (by simpa using h)

theorem span_pure (t : T) : ∀ s, Pure env 43 [.d (t.df s)] (.tup [.d (.v (.int .i64 t.span.deep)), .d (.v (.int .i64 t.span.many)), .d (.v (.bool t.span.ok))]) := by
  revert t
  apply T.ind
  intro kind names list ih s
  refine pure_of_body Tryd.func43 rfl rfl rfl fun B hB => ?_
  refine swp_seq ?_
  refine swp_region ?_
  refine sops_go rfl (so_box (cs := [_, _, _]) rfl rfl rfl ?_)
  refine sops_go rfl (st_assign (v := .d _) rfl rfl rfl ?_)
  refine sops_go rfl (st_assign (v := .d _) rfl rfl rfl ?_)
  refine sops_go rfl (st_assign (v := .d _) rfl rfl rfl ?_)
  refine sops_nil ?_
  -- stop
  refine swp_len (l := 0) (i := 2) rfl rfl rfl fun hll => ?_
  rw [T.rows_len] at hll
  refine swp_seqF (F := fun _ : Unit => ({ t := upd (upd (upd (fun _ => .any) 1 (.p 0 0 0)) 2 (.d (.v (.int .i64 0)))) 4 (.d (.v (.bool (shortRows names list.length)))), n := 48, h := upd (fun _ => .dead) 0 (.cells [.any, .any, .d (.sl s (T.rows list))]), nx := 1 } : St)) (P := fun _ => True) ?_ ?_
  · refine swp_region ?_
    first | refine sops_go rfl (so_fieldAddr (v := .p _ _ _) rfl rfl rfl rfl rfl rfl rfl rfl rfl rfl ?_) | refine sops_go rfl (so_fieldAddr (v := .dp _ _) rfl rfl rfl rfl rfl rfl rfl rfl rfl rfl ?_) | refine sops_go rfl (so_fieldAddr (v := .pe _ _ _ _ _) rfl rfl rfl rfl rfl rfl rfl rfl rfl rfl ?_)
    first | refine sops_go rfl (so_load (v := .d _) rfl rfl rfl rfl rfl rfl rfl rfl ?_) | refine sops_go rfl (so_load (v := .own _ _ _ _ _) rfl rfl rfl rfl rfl rfl rfl rfl ?_)
    refine sops_go rfl (so_lenSl rfl rfl rfl rfl rfl ?_)
    refine sops_go rfl (st_bin rfl rfl rfl rfl rfl ?_)
    refine sops_go rfl (st_move (v := .d _) rfl rfl rfl ?_)
    -- guard (some (4, true))
    refine sops_case 14 rfl (fun hb14 => ?_) (fun hb14 => ?_)
    · first | refine sops_yes rfl rfl rfl rfl (so_fieldAddr (v := .p _ _ _) rfl rfl rfl rfl rfl rfl rfl rfl rfl rfl ?_) | refine sops_yes rfl rfl rfl rfl (so_fieldAddr (v := .dp _ _) rfl rfl rfl rfl rfl rfl rfl rfl rfl rfl ?_) | refine sops_yes rfl rfl rfl rfl (so_fieldAddr (v := .pe _ _ _ _ _) rfl rfl rfl rfl rfl rfl rfl rfl rfl rfl ?_) | refine sops_no rfl rfl rfl rfl rfl ?_
      first | refine sops_yes rfl rfl rfl rfl (so_load (v := .d _) rfl rfl rfl rfl rfl rfl rfl rfl ?_) | refine sops_yes rfl rfl rfl rfl (so_load (v := .own _ _ _ _ _) rfl rfl rfl rfl rfl rfl rfl rfl ?_) | refine sops_no rfl rfl rfl rfl rfl ?_
      -- hand: CALL f52(t16, f57)
      first | refine sops_yes rfl rfl rfl rfl (st_call rfl rfl (containsFuncS_pure s names 57 [] (fun x => decide ((x.size : Int) > 64)) (fun x hx => span1_pure x) rfl) ⟨na_d _, na_free rfl, trivial⟩ rfl ?_) | refine sops_no rfl rfl rfl rfl rfl ?_
      first | refine sops_yes rfl rfl rfl rfl (st_not rfl rfl rfl ?_) | refine sops_no rfl rfl rfl rfl rfl ?_
      refine sops_go rfl (st_pick (v := .d _) rfl rfl rfl rfl ?_)
      refine sops_go rfl (st_assign (v := .d _) rfl rfl rfl ?_)
      refine sops_nil ?_
      -- cut
      have e : shortRows names list.length = !(names.any fun x => decide ((x.size : Int) > 64)) := by
        have h : decide (((T.rows list).length : Int) ≤ 256) = true := hb14
        rw [T.rows_len] at h
        unfold shortRows; rw [h]; rfl
      refine ⟨(), trivial, ?_⟩
      rw [e]
      refine wk_of rfl (Nat.le_of_ble_eq_true rfl) (by rw [hB]; exact Nat.zero_le _) (tle_upd (le_eq rfl rfl) (tle_upd (le_eq rfl rfl) (tle_upd (le_eq rfl rfl) (tle_any _)))) (hle_upd (.cells _ _ ⟨le_any _, le_any _, le_eq rfl rfl, trivial⟩) (hle_dead _)) (dead_upd (Nat.le_of_ble_eq_true rfl) (dead_none))
    · first | refine sops_yes rfl rfl rfl rfl (so_fieldAddr (v := .p _ _ _) rfl rfl rfl rfl rfl rfl rfl rfl rfl rfl ?_) | refine sops_yes rfl rfl rfl rfl (so_fieldAddr (v := .dp _ _) rfl rfl rfl rfl rfl rfl rfl rfl rfl rfl ?_) | refine sops_yes rfl rfl rfl rfl (so_fieldAddr (v := .pe _ _ _ _ _) rfl rfl rfl rfl rfl rfl rfl rfl rfl rfl ?_) | refine sops_no rfl rfl rfl rfl rfl ?_
      first | refine sops_yes rfl rfl rfl rfl (so_load (v := .d _) rfl rfl rfl rfl rfl rfl rfl rfl ?_) | refine sops_yes rfl rfl rfl rfl (so_load (v := .own _ _ _ _ _) rfl rfl rfl rfl rfl rfl rfl rfl ?_) | refine sops_no rfl rfl rfl rfl rfl ?_
      -- hand: CALL f52(t16, f57)
      first | refine sops_yes rfl rfl rfl rfl (st_call rfl rfl (containsFuncS_pure s names 57 [] (fun x => decide ((x.size : Int) > 64)) (fun x hx => span1_pure x) rfl) ⟨na_d _, na_free rfl, trivial⟩ rfl ?_) | refine sops_no rfl rfl rfl rfl rfl ?_
      first | refine sops_yes rfl rfl rfl rfl (st_not rfl rfl rfl ?_) | refine sops_no rfl rfl rfl rfl rfl ?_
      refine sops_go rfl (st_pick (v := .d _) rfl rfl rfl rfl ?_)
      refine sops_go rfl (st_assign (v := .d _) rfl rfl rfl ?_)
      refine sops_nil ?_
      -- cut
      have e : shortRows names list.length = false := by
        have h : decide (((T.rows list).length : Int) ≤ 256) = false := hb14
        rw [T.rows_len] at h
        unfold shortRows; rw [h]; rfl
      refine ⟨(), trivial, ?_⟩
      rw [e]
      refine wk_of rfl (Nat.le_of_ble_eq_true rfl) (by rw [hB]; exact Nat.zero_le _) (tle_upd (le_eq rfl rfl) (tle_upd (le_eq rfl rfl) (tle_upd (le_eq rfl rfl) (tle_any _)))) (hle_upd (.cells _ _ ⟨le_any _, le_any _, le_eq rfl rfl, trivial⟩) (hle_dead _)) (dead_upd (Nat.le_of_ble_eq_true rfl) (dead_none))
  rintro ⟨⟩ -
  refine swp_seq ?_
  refine swp_region ?_
  refine sops_go rfl (st_assign (v := .d _) rfl rfl rfl ?_)
  refine sops_nil ?_
  refine swp_seq ?_
  refine swp_seq ?_
  refine swp_region ?_
  first | refine sops_go rfl (so_fieldAddr (v := .p _ _ _) rfl rfl rfl rfl rfl rfl rfl rfl rfl rfl ?_) | refine sops_go rfl (so_fieldAddr (v := .dp _ _) rfl rfl rfl rfl rfl rfl rfl rfl rfl rfl ?_) | refine sops_go rfl (so_fieldAddr (v := .pe _ _ _ _ _) rfl rfl rfl rfl rfl rfl rfl rfl rfl rfl ?_)
  first | refine sops_go rfl (so_load (v := .d _) rfl rfl rfl rfl rfl rfl rfl rfl ?_) | refine sops_go rfl (so_load (v := .own _ _ _ _ _) rfl rfl rfl rfl rfl rfl rfl rfl ?_)
  refine sops_go rfl (so_lenSl rfl rfl rfl rfl rfl ?_)
  refine sops_go rfl (st_move (v := .d _) rfl rfl rfl ?_)
  refine sops_nil ?_
  refine swp_block ?_
  -- loop
  let a : Nat → Sp := fun k => T.spanF (list.take k) ⟨0, 1, shortRows names list.length⟩
  refine swp_loopF (F := fun k : Nat => { t := upd (upd (upd (upd (upd (upd (fun _ => .any) 2 (.d (.v (.int .i64 (a k).deep)))) 3 (.d (.v (.int .i64 (a k).many)))) 4 (.d (.v (.bool (a k).ok)))) 21 (.d (.sl s (T.rows list)))) 22 (.d (.v (.int .i64 list.length)))) 23 (.d (.v (.int .i64 k))), n := 48, h := fun _ => .dead, nx := 0 })
    (fun k => k ≤ list.length) (fun k => list.length - k) 0 (Nat.zero_le _) ?_ ?_
  · refine wk_of rfl (Nat.le_of_ble_eq_true rfl) (by rw [hB]; exact Nat.zero_le _) (tle_upd (le_eq rfl rfl) (tle_upd (le_eq (int_eq (by rw [T.rows_len])) rfl) (tle_upd (le_eq rfl rfl) (tle_upd (le_eq rfl rfl) (tle_upd (le_eq rfl rfl) (tle_upd (le_eq rfl rfl) (tle_any _))))))) (hle_dead _) (dead_none)
  intro k hk
  refine swp_seq ?_
  refine swp_region ?_
  refine sops_go rfl (st_bin rfl rfl rfl rfl rfl ?_)
  refine sops_nil ?_
  refine swp_seq ?_
  -- cond
  refine swp_cond _ rfl (fun hc => ?_) (fun hc => ?_)
  · have hlt : k < list.length := by have := of_decide_eq_true hc; omega
    refine swp_skip ?_
    refine swp_seq ?_
    refine swp_block ?_
    refine swp_seq ?_
    refine swp_region ?_
    -- hand: indexAddr 24 t21 t23
    refine sops_go rfl (so_indexSl rfl rfl rfl rfl rfl rfl rfl (T.rows_all _) (by omega) (by rw [T.rows_len]; omega) (T.rows_get _ _ hlt) ?_)
    have ihk := ih _ (List.getElem_mem hlt) true
    have hak := T.spanF_take list ⟨0, 1, shortRows names list.length⟩ k hlt
    generalize list[k] = x at ihk hak ⊢
    obtain ⟨a1, a2, a3⟩ := x
    first | refine sops_go rfl (so_load (v := .d (.agg [_, _, _])) rfl rfl rfl rfl rfl rfl rfl rfl ?_) | refine sops_go rfl (so_load (v := .agg [_, _, _]) rfl rfl rfl rfl rfl rfl rfl rfl ?_)
    refine sops_go rfl (so_alloc (cs := [_, _, _]) rfl rfl rfl rfl ?_)
    refine sops_go rfl (so_store rfl rfl rfl rfl rfl rfl rfl rfl rfl (zs := [_, _, _]) rfl ?_)
    refine sops_nil ?_
    refine swp_seq ?_
    refine swp_region ?_
    first | refine sops_go rfl (so_load (v := .d (.agg [_, _, _])) rfl rfl rfl rfl rfl rfl rfl rfl ?_) | refine sops_go rfl (so_load (v := .agg [_, _, _]) rfl rfl rfl rfl rfl rfl rfl rfl ?_)
    -- hand: CALL f43(t28)
    refine sops_go rfl (st_call rfl rfl (ihk) ⟨na_d _, trivial⟩ rfl ?_)
    refine sops_go rfl (st_move (v := .tup _) rfl rfl rfl ?_)
    refine sops_go rfl (st_extract (c := .d _) rfl rfl rfl rfl ?_)
    refine sops_go rfl (st_extract (c := .d _) rfl rfl rfl rfl ?_)
    refine sops_go rfl (st_extract (c := .d _) rfl rfl rfl rfl ?_)
    refine sops_go rfl (st_assign (v := .d _) rfl rfl rfl ?_)
    refine sops_go rfl (st_assign (v := .d _) rfl rfl rfl ?_)
    refine sops_go rfl (st_assign (v := .d _) rfl rfl rfl ?_)
    refine sops_nil ?_
    refine swp_region ?_
    refine sops_go rfl (st_move (v := .d _) rfl rfl rfl ?_)
    refine sops_go rfl (st_move (v := .d _) rfl rfl rfl ?_)
    refine sops_go rfl (so_max rfl rfl rfl rfl rfl ?_)
    refine sops_go rfl (st_move (v := .d _) rfl rfl rfl ?_)
    refine sops_go rfl (st_move (v := .d _) rfl rfl rfl ?_)
    refine sops_go rfl (st_bin rfl rfl rfl rfl rfl ?_)
    refine sops_go rfl (st_move (v := .d _) rfl rfl rfl ?_)
    refine sops_go rfl (st_move (v := .d _) rfl rfl rfl ?_)
    -- guard (some (7, true))
    refine sops_case 40 rfl (fun hb40 => ?_) (fun hb40 => ?_)
    · first | refine sops_yes rfl rfl rfl rfl (st_move (v := .d _) rfl rfl rfl ?_) | refine sops_no rfl rfl rfl rfl rfl ?_
      refine sops_go rfl (st_pick (v := .d _) rfl rfl rfl rfl ?_)
      refine sops_go rfl (st_assign (v := .d _) rfl rfl rfl ?_)
      refine sops_go rfl (st_assign (v := .d _) rfl rfl rfl ?_)
      refine sops_go rfl (st_assign (v := .d _) rfl rfl rfl ?_)
      refine sops_nil ?_
      refine swp_region ?_
      refine sops_go rfl (st_bin rfl rfl rfl rfl rfl ?_)
      refine sops_go rfl (st_move (v := .d _) rfl rfl rfl ?_)
      refine sops_nil ?_
      -- loopend
      have e : a (k + 1) = ⟨max (a k).deep (T.mk a1 a2 a3).span.deep, IntKind.i64.wrap ((a k).many + (T.mk a1 a2 a3).span.many), (T.mk a1 a2 a3).span.ok⟩ := by
        show T.spanF (list.take (k + 1)) _ = _
        rw [hak]; unfold Sp.add
        have h : (T.spanF (list.take k) ⟨0, 1, shortRows names list.length⟩).ok = true := hb40
        rw [h]; rfl
      refine ⟨k + 1, hlt, by omega, ?_⟩
      simp only [e]
      refine wk_of rfl (Nat.le_of_ble_eq_true rfl) (by rw [hB]; exact Nat.zero_le _) (tle_upd (le_eq (next_i64 hlt hll) rfl) (tle_upd (le_eq rfl rfl) (tle_upd (le_eq rfl rfl) (tle_upd (le_eq rfl rfl) (tle_upd (le_eq rfl rfl) (tle_upd (le_eq rfl rfl) (tle_any _))))))) (hle_dead _) (dead_none)
    · first | refine sops_yes rfl rfl rfl rfl (st_move (v := .d _) rfl rfl rfl ?_) | refine sops_no rfl rfl rfl rfl rfl ?_
      refine sops_go rfl (st_pick (v := .d _) rfl rfl rfl rfl ?_)
      refine sops_go rfl (st_assign (v := .d _) rfl rfl rfl ?_)
      refine sops_go rfl (st_assign (v := .d _) rfl rfl rfl ?_)
      refine sops_go rfl (st_assign (v := .d _) rfl rfl rfl ?_)
      refine sops_nil ?_
      refine swp_region ?_
      refine sops_go rfl (st_bin rfl rfl rfl rfl rfl ?_)
      refine sops_go rfl (st_move (v := .d _) rfl rfl rfl ?_)
      refine sops_nil ?_
      -- loopend
      -- loopend
      have e : a (k + 1) = ⟨max (a k).deep (T.mk a1 a2 a3).span.deep, IntKind.i64.wrap ((a k).many + (T.mk a1 a2 a3).span.many), false⟩ := by
        show T.spanF (list.take (k + 1)) _ = _
        rw [hak]; unfold Sp.add
        have h : (T.spanF (list.take k) ⟨0, 1, shortRows names list.length⟩).ok = false := hb40
        rw [h]; rfl
      refine ⟨k + 1, hlt, by omega, ?_⟩
      simp only [e]
      refine wk_of rfl (Nat.le_of_ble_eq_true rfl) (by rw [hB]; exact Nat.zero_le _) (tle_upd (le_eq (next_i64 hlt hll) rfl) (tle_upd (le_eq rfl rfl) (tle_upd (le_eq rfl rfl) (tle_upd (le_eq rfl rfl) (tle_upd (le_eq rfl rfl) (tle_upd (le_eq rfl rfl) (tle_any _))))))) (hle_dead _) (dead_none)
  · refine swp_exit ?_
    with_reducible refine after_exit ?_
    with_reducible refine after_exit ?_
    refine inblk_hit ?_
    refine swp_seq ?_
    refine swp_region ?_
    refine sops_go rfl (st_move (v := .d _) rfl rfl rfl ?_)
    refine sops_go rfl (st_bin rfl rfl rfl rfl rfl ?_)
    refine sops_go rfl (st_move (v := .d _) rfl rfl rfl ?_)
    refine sops_go rfl (st_move (v := .d _) rfl rfl rfl ?_)
    refine sops_go rfl (st_assign (v := .d _) rfl rfl rfl ?_)
    refine sops_go rfl (st_assign (v := .d _) rfl rfl rfl ?_)
    refine sops_go rfl (st_assign (v := .d _) rfl rfl rfl ?_)
    refine sops_nil ?_
    refine swp_ret ?_
    -- ret
    have : k = list.length := by have := of_decide_eq_false hc; omega
    have e : T.spanF list ⟨0, 1, shortRows names list.length⟩ = a k := by show _ = T.spanF (list.take k) _; rw [this, List.take_length]
    refine ⟨.inl rfl, .inr (.inr (.inl ⟨2, 3, 4, _, _, _, rfl, rfl, ?_, ?_, ?_⟩))⟩
    · simp only [T.span, e]; exact ra_d (keeps_v _)
    · simp only [T.span, e]; exact ra_d (keeps_v _)
    · simp only [T.span, e]; exact ra_d (keeps_v _)
end Go.Proofs.YtdcpnpcmgfmenaaDoor
