/-
  Walks: rows cloned. Conditions: none.
-/
import Derived.Test.YtdcpnpcmgfmenaaDoorHb
import Derived.Test.YtdcpnpcmgfmenaaDoorSs
set_option linter.unusedVariables false
set_option maxRecDepth 100000
namespace Go.Proofs.YtdcpnpcmgfmenaaDoor
open Go Go.Proofs.YtdcpnpcmgfmenaaDoor.Lg

theorem strRows_keeps (l : List ByteArray) : ∀ r ∈ strRows l, ∀ c ∈ r, Keeps c := by
  intro r hr c hc
  obtain ⟨s, _, rfl⟩ := List.mem_map.1 hr
  simp at hc; subst hc; exact keeps_v _
theorem T.rows_keeps (l : List T) : ∀ r ∈ T.rows l, ∀ c ∈ r, Keeps c := by
  intro r hr c hc
  rw [T.rows_eq] at hr
  obtain ⟨x, _, rfl⟩ := List.mem_map.1 hr
  exact x.keeps c hc
theorem strRows_ok (l : List ByteArray) : ∀ r ∈ (strRows l).map (·.map AV.d), r.length = 1 ∧ r.all cellOk = true := by
  intro r hr
  obtain ⟨r', hr', rfl⟩ := List.mem_map.1 hr
  obtain ⟨s, _, rfl⟩ := List.mem_map.1 hr'
  exact ⟨rfl, rfl⟩
theorem T.rows_ok (l : List T) : ∀ r ∈ (T.rows l).map (·.map AV.d), r.length = 3 ∧ r.all cellOk = true := by
  intro r hr
  obtain ⟨r', hr', rfl⟩ := List.mem_map.1 hr
  rw [T.rows_eq] at hr'
  obtain ⟨x, _, rfl⟩ := List.mem_map.1 hr'
  obtain ⟨a, b, c⟩ := x
  exact ⟨rfl, rfl⟩
theorem own_len {l k sz off n n' : Nat} (h : n = n') : AV.own l k sz off n = AV.own l k sz off n' := by rw [h]

theorem cloneS_pure (s : Bool) (l : List ByteArray) (hl : l.length ≤ 1000000) : PureO env 40 [.d (.sl s (strRows l))] 9 1 (strRows l) := by
  refine pureO_of_body Tryd.func40 rfl rfl rfl fun B hB => ?_
  refine swp_seq ?_
  refine swp_region ?_
  first | refine sops_go rfl (st_assign (v := .d _) rfl rfl rfl ?_) | refine sops_go rfl (st_assign (v := .own _ _ _ _ _) rfl rfl rfl ?_)
  refine sops_nil ?_
  refine swp_seq ?_
  refine swp_seq ?_
  refine swp_region ?_
  first | refine sops_go rfl (st_move (v := .d _) rfl rfl rfl ?_) | refine sops_go rfl (st_move (v := .own _ _ _ _ _) rfl rfl rfl ?_)
  refine sops_go rfl (so_nilSl rfl rfl rfl rfl rfl rfl fun bz hbz => ?_)
  refine sops_nil ?_
  refine swp_cond _ rfl (fun hc4 => ?_) (fun hc4 => ?_)
  · refine swp_seq ?_
    refine swp_region ?_
    first | refine sops_go rfl (st_assign (v := .d _) rfl rfl rfl ?_) | refine sops_go rfl (st_assign (v := .own _ _ _ _ _) rfl rfl rfl ?_)
    refine sops_nil ?_
    refine swp_ret ?_
    with_reducible refine after_ret ?_
    exact ⟨.inl rfl, strRows_keeps l, 2, rfl, .inl ⟨rfl, hbz hc4⟩⟩
  · refine swp_skip ?_
    refine swp_seq ?_
    refine swp_region ?_
    refine sops_go rfl (so_buildSlice (rows := []) rfl rfl rfl rfl rfl rfl rfl rfl rfl ?_)
    first | refine sops_go rfl (st_move (v := .d _) rfl rfl rfl ?_) | refine sops_go rfl (st_move (v := .own _ _ _ _ _) rfl rfl rfl ?_)
    refine sops_go rfl (so_append rfl rfl rfl rfl rfl rfl rfl rfl rfl rfl rfl (strRows_ok l) (by show (_ + _) * 16 ≤ _; simp [strRows]; omega) (by first | (simp [strRows]; done) | (simp [strRows]; omega)) ?_)
    first | refine sops_go rfl (st_assign (v := .d _) rfl rfl rfl ?_) | refine sops_go rfl (st_assign (v := .own _ _ _ _ _) rfl rfl rfl ?_)
    refine sops_nil ?_
    refine swp_ret ?_
    exact ⟨.inl rfl, strRows_keeps l, 2, rfl, .inr ⟨0, 1, own_len (by simp), rfl⟩⟩
theorem cloneT_pure (s : Bool) (l : List T) (hl : l.length ≤ 1000000) : PureO env 41 [.d (.sl s (T.rows l))] 26 3 (T.rows l) := by
  refine pureO_of_body Tryd.func41 rfl rfl rfl fun B hB => ?_
  refine swp_seq ?_
  refine swp_region ?_
  first | refine sops_go rfl (st_assign (v := .d _) rfl rfl rfl ?_) | refine sops_go rfl (st_assign (v := .own _ _ _ _ _) rfl rfl rfl ?_)
  refine sops_nil ?_
  refine swp_seq ?_
  refine swp_seq ?_
  refine swp_region ?_
  first | refine sops_go rfl (st_move (v := .d _) rfl rfl rfl ?_) | refine sops_go rfl (st_move (v := .own _ _ _ _ _) rfl rfl rfl ?_)
  refine sops_go rfl (so_nilSl rfl rfl rfl rfl rfl rfl fun bz hbz => ?_)
  refine sops_nil ?_
  refine swp_cond _ rfl (fun hc4 => ?_) (fun hc4 => ?_)
  · refine swp_seq ?_
    refine swp_region ?_
    first | refine sops_go rfl (st_assign (v := .d _) rfl rfl rfl ?_) | refine sops_go rfl (st_assign (v := .own _ _ _ _ _) rfl rfl rfl ?_)
    refine sops_nil ?_
    refine swp_ret ?_
    with_reducible refine after_ret ?_
    exact ⟨.inl rfl, T.rows_keeps l, 2, rfl, .inl ⟨rfl, hbz hc4⟩⟩
  · refine swp_skip ?_
    refine swp_seq ?_
    refine swp_region ?_
    refine sops_go rfl (so_buildSlice (rows := []) rfl rfl rfl rfl rfl rfl rfl rfl rfl ?_)
    first | refine sops_go rfl (st_move (v := .d _) rfl rfl rfl ?_) | refine sops_go rfl (st_move (v := .own _ _ _ _ _) rfl rfl rfl ?_)
    refine sops_go rfl (so_append rfl rfl rfl rfl rfl rfl rfl rfl rfl rfl rfl (T.rows_ok l) (by show (_ + _) * 56 ≤ _; simp [T.rows_eq]; omega) (by first | (simp [T.rows_eq]; done) | (simp [T.rows_eq]; omega)) ?_)
    first | refine sops_go rfl (st_assign (v := .d _) rfl rfl rfl ?_) | refine sops_go rfl (st_assign (v := .own _ _ _ _ _) rfl rfl rfl ?_)
    refine sops_nil ?_
    refine swp_ret ?_
    exact ⟨.inl rfl, T.rows_keeps l, 2, rfl, .inr ⟨0, 1, own_len (by simp), rfl⟩⟩
end Go.Proofs.YtdcpnpcmgfmenaaDoor
