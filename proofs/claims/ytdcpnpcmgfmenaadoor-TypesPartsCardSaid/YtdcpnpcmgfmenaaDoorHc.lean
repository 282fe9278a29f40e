/-
  Walks: types.Has, both, Sub. Conditions: none.
-/
import Derived.Test.YtdcpnpcmgfmenaaDoorHb
set_option linter.unusedVariables false
set_option maxRecDepth 100000
namespace Go.Proofs.YtdcpnpcmgfmenaaDoor
open Go Go.Proofs.YtdcpnpcmgfmenaaDoor.Lg

theorem T.check_ok {t : T} (h : t.check = 0) : t.formed = true := by
  unfold T.check at h
  split at h
  · assumption
  · simp at h
theorem V.check_ok {v : V} (h : v.check = 0) : v.formed = true := by
  unfold V.check at h
  split at h
  · assumption
  · simp at h

def T.Has (t : T) (v : V) : Bool × Int := if (t.check != 0) = true then (false, t.check) else if (v.check != 0) = true then (false, v.check) else (t.has v, 0)

theorem Has_pure (t : T) (v : V) (ht : t.fit) (hv : v.fit) (s s' : Bool) : Pure env 15 [.d (t.df s), .d (v.df s')] (.tup [.d (.v (.bool (t.Has v).1)), .d (.v (.int .i64 (t.Has v).2))]) := by
  have h1 := checkT_pure t ht s
  have h2 := checkV_pure v hv s'
  have h3 : t.check = 0 → v.check = 0 → Pure env 31 [.d (t.df s), .d (v.df s')] (.d (.v (.bool (t.has v)))) := fun e1 e2 => has_pure t v (T.check_ok e1) (V.check_ok e2) s s'
  have hS : t.Has v = if (t.check != 0) = true then (false, t.check) else if (v.check != 0) = true then (false, v.check) else (t.has v, 0) := rfl
  generalize t.check = tc at *
  generalize v.check = vc at *
  generalize t.has v = r at *
  generalize t.Has v = R at *
  obtain ⟨kind, names, list⟩ := t
  obtain ⟨vk, flag, neg, digits, exp, bits, text, vnames, vlist⟩ := v
  refine pure_of_body Tryd.func15 rfl rfl rfl fun B hB => ?_
  refine swp_seq ?_
  refine swp_region ?_
  refine sops_go rfl (so_box (cs := [_, _, _]) rfl rfl rfl ?_)
  refine sops_go rfl (so_box (cs := [_, _, _, _, _, _, _, _, _]) rfl rfl rfl ?_)
  refine sops_go rfl (st_assign (v := .d _) rfl rfl rfl ?_)
  refine sops_go rfl (st_assign (v := .d _) rfl rfl rfl ?_)
  refine sops_nil ?_
  refine swp_seq ?_
  refine swp_seq ?_
  refine swp_region ?_
  first | refine sops_go rfl (so_load (v := .d (.agg [_, _, _])) rfl rfl rfl rfl rfl rfl rfl rfl ?_) | refine sops_go rfl (so_load (v := .agg [_, _, _]) rfl rfl rfl rfl rfl rfl rfl rfl ?_)
  refine sops_go rfl (st_call rfl rfl (h1) ⟨na_d _, trivial⟩ rfl ?_)
  refine sops_go rfl (st_assign (v := .d _) rfl rfl rfl ?_)
  refine sops_nil ?_
  refine swp_seq ?_
  refine swp_region ?_
  refine sops_go rfl (st_move (v := .d _) rfl rfl rfl ?_)
  refine sops_go rfl (st_bin rfl rfl rfl rfl rfl ?_)
  refine sops_nil ?_
  refine swp_cond _ rfl (fun hc11 => ?_) (fun hc11 => ?_)
  · rw [if_pos hc11] at hS
    refine swp_seq ?_
    refine swp_region ?_
    refine sops_go rfl (st_move (v := .d _) rfl rfl rfl ?_)
    refine sops_go rfl (st_assign (v := .d _) rfl rfl rfl ?_)
    refine sops_go rfl (st_assign (v := .d _) rfl rfl rfl ?_)
    refine sops_nil ?_
    refine swp_ret ?_
    with_reducible refine after_ret ?_
    exact fin_2v rfl rfl rfl (by rw [hS]) (by rw [hS])
  · rw [if_neg (by rw [hc11]; simp)] at hS
    refine swp_skip ?_
    refine swp_seq ?_
    refine swp_seq ?_
    refine swp_region ?_
    first | refine sops_go rfl (so_load (v := .d (.agg [_, _, _, _, _, _, _, _, _])) rfl rfl rfl rfl rfl rfl rfl rfl ?_) | refine sops_go rfl (so_load (v := .agg [_, _, _, _, _, _, _, _, _]) rfl rfl rfl rfl rfl rfl rfl rfl ?_)
    refine sops_go rfl (st_call rfl rfl (h2) ⟨na_d _, trivial⟩ rfl ?_)
    refine sops_go rfl (st_assign (v := .d _) rfl rfl rfl ?_)
    refine sops_nil ?_
    refine swp_seq ?_
    refine swp_region ?_
    refine sops_go rfl (st_move (v := .d _) rfl rfl rfl ?_)
    refine sops_go rfl (st_bin rfl rfl rfl rfl rfl ?_)
    refine sops_nil ?_
    refine swp_cond _ rfl (fun hc16 => ?_) (fun hc16 => ?_)
    · rw [if_pos hc16] at hS
      refine swp_seq ?_
      refine swp_region ?_
      refine sops_go rfl (st_move (v := .d _) rfl rfl rfl ?_)
      refine sops_go rfl (st_assign (v := .d _) rfl rfl rfl ?_)
      refine sops_go rfl (st_assign (v := .d _) rfl rfl rfl ?_)
      refine sops_nil ?_
      refine swp_ret ?_
      with_reducible refine after_ret ?_
      exact fin_2v rfl rfl rfl (by rw [hS]) (by rw [hS])
    · rw [if_neg (by rw [hc16]; simp)] at hS
      refine swp_skip ?_
      refine swp_seq ?_
      refine swp_region ?_
      first | refine sops_go rfl (so_load (v := .d (.agg [_, _, _])) rfl rfl rfl rfl rfl rfl rfl rfl ?_) | refine sops_go rfl (so_load (v := .agg [_, _, _]) rfl rfl rfl rfl rfl rfl rfl rfl ?_)
      first | refine sops_go rfl (so_load (v := .d (.agg [_, _, _, _, _, _, _, _, _])) rfl rfl rfl rfl rfl rfl rfl rfl ?_) | refine sops_go rfl (so_load (v := .agg [_, _, _, _, _, _, _, _, _]) rfl rfl rfl rfl rfl rfl rfl rfl ?_)
      refine sops_go rfl (st_call rfl rfl (h3 (by simpa using hc11) (by simpa using hc16)) ⟨na_d _, na_d _, trivial⟩ rfl ?_)
      refine sops_go rfl (st_assign (v := .d _) rfl rfl rfl ?_)
      refine sops_go rfl (st_assign (v := .d _) rfl rfl rfl ?_)
      refine sops_nil ?_
      refine swp_ret ?_
      exact fin_2v rfl rfl rfl (by rw [hS]) (by rw [hS])

def T.both (a b : T) : Int := if (a.check != 0) = true then a.check else b.check
theorem both_pure (a b : T) (ha : a.fit) (hb : b.fit) (s s' : Bool) : Pure env 19 [.d (a.df s), .d (b.df s')] (.d (.v (.int .i64 (a.both b)))) := by
  have h1 := checkT_pure a ha s
  have h2 := checkT_pure b hb s'
  have hS : a.both b = if (a.check != 0) = true then a.check else b.check := rfl
  generalize a.check = ac at *
  generalize b.check = bc at *
  generalize a.both b = R at *
  obtain ⟨kind, names, list⟩ := a
  obtain ⟨kind', names', list'⟩ := b
  refine pure_of_body Tryd.func19 rfl rfl rfl fun B hB => ?_
  refine swp_seq ?_
  refine swp_region ?_
  refine sops_go rfl (so_box (cs := [_, _, _]) rfl rfl rfl ?_)
  refine sops_go rfl (so_box (cs := [_, _, _]) rfl rfl rfl ?_)
  refine sops_go rfl (st_assign (v := .d _) rfl rfl rfl ?_)
  refine sops_nil ?_
  refine swp_seq ?_
  refine swp_seq ?_
  refine swp_region ?_
  first | refine sops_go rfl (so_load (v := .d (.agg [_, _, _])) rfl rfl rfl rfl rfl rfl rfl rfl ?_) | refine sops_go rfl (so_load (v := .agg [_, _, _]) rfl rfl rfl rfl rfl rfl rfl rfl ?_)
  refine sops_go rfl (st_call rfl rfl (h1) ⟨na_d _, trivial⟩ rfl ?_)
  refine sops_go rfl (st_assign (v := .d _) rfl rfl rfl ?_)
  refine sops_nil ?_
  refine swp_seq ?_
  refine swp_region ?_
  refine sops_go rfl (st_move (v := .d _) rfl rfl rfl ?_)
  refine sops_go rfl (st_bin rfl rfl rfl rfl rfl ?_)
  refine sops_nil ?_
  refine swp_cond _ rfl (fun hc9 => ?_) (fun hc9 => ?_)
  · rw [if_pos hc9] at hS
    refine swp_seq ?_
    refine swp_region ?_
    refine sops_go rfl (st_move (v := .d _) rfl rfl rfl ?_)
    refine sops_go rfl (st_assign (v := .d _) rfl rfl rfl ?_)
    refine sops_nil ?_
    refine swp_ret ?_
    with_reducible refine after_ret ?_
    exact fin_i rfl rfl hS
  · rw [if_neg (by rw [hc9]; simp)] at hS
    refine swp_skip ?_
    refine swp_seq ?_
    refine swp_region ?_
    first | refine sops_go rfl (so_load (v := .d (.agg [_, _, _])) rfl rfl rfl rfl rfl rfl rfl rfl ?_) | refine sops_go rfl (so_load (v := .agg [_, _, _]) rfl rfl rfl rfl rfl rfl rfl rfl ?_)
    refine sops_go rfl (st_call rfl rfl (h2) ⟨na_d _, trivial⟩ rfl ?_)
    refine sops_go rfl (st_assign (v := .d _) rfl rfl rfl ?_)
    refine sops_nil ?_
    refine swp_ret ?_
    exact fin_i rfl rfl hS
theorem T.both_ok {a b : T} (h : a.both b = 0) : a.formed = true ∧ b.formed = true := by
  unfold T.both at h
  split at h
  · rename_i hc; simp at hc; exact absurd h hc
  · rename_i hc; simp at hc; exact ⟨T.check_ok hc, T.check_ok h⟩

def T.Sub (a b : T) : Bool × Int := if (a.both b != 0) = true then (false, a.both b) else (a.sub b, 0)
theorem Sub_pure (a b : T) (ha : a.fit) (hb : b.fit) (s s' : Bool) : Pure env 8 [.d (a.df s), .d (b.df s')] (.tup [.d (.v (.bool (a.Sub b).1)), .d (.v (.int .i64 (a.Sub b).2))]) := by
  have h1 := both_pure a b ha hb s s'
  have h2 : a.both b = 0 → Pure env 20 [.d (a.df s), .d (b.df s')] (.d (.v (.bool (a.sub b)))) := fun e => sub_pure a b (T.both_ok e).1 (T.both_ok e).2 s s'
  have hS : a.Sub b = if (a.both b != 0) = true then (false, a.both b) else (a.sub b, 0) := rfl
  generalize a.both b = ac at *
  generalize a.sub b = r at *
  generalize a.Sub b = R at *
  obtain ⟨kind, names, list⟩ := a
  obtain ⟨kind', names', list'⟩ := b
  refine pure_of_body Tryd.func8 rfl rfl rfl fun B hB => ?_
  refine swp_seq ?_
  refine swp_region ?_
  refine sops_go rfl (so_box (cs := [_, _, _]) rfl rfl rfl ?_)
  refine sops_go rfl (so_box (cs := [_, _, _]) rfl rfl rfl ?_)
  refine sops_go rfl (st_assign (v := .d _) rfl rfl rfl ?_)
  refine sops_go rfl (st_assign (v := .d _) rfl rfl rfl ?_)
  refine sops_nil ?_
  refine swp_seq ?_
  refine swp_seq ?_
  refine swp_region ?_
  first | refine sops_go rfl (so_load (v := .d (.agg [_, _, _])) rfl rfl rfl rfl rfl rfl rfl rfl ?_) | refine sops_go rfl (so_load (v := .agg [_, _, _]) rfl rfl rfl rfl rfl rfl rfl rfl ?_)
  first | refine sops_go rfl (so_load (v := .d (.agg [_, _, _])) rfl rfl rfl rfl rfl rfl rfl rfl ?_) | refine sops_go rfl (so_load (v := .agg [_, _, _]) rfl rfl rfl rfl rfl rfl rfl rfl ?_)
  refine sops_go rfl (st_call rfl rfl (h1) ⟨na_d _, na_d _, trivial⟩ rfl ?_)
  refine sops_go rfl (st_assign (v := .d _) rfl rfl rfl ?_)
  refine sops_nil ?_
  refine swp_seq ?_
  refine swp_region ?_
  refine sops_go rfl (st_move (v := .d _) rfl rfl rfl ?_)
  refine sops_go rfl (st_bin rfl rfl rfl rfl rfl ?_)
  refine sops_nil ?_
  refine swp_cond _ rfl (fun hc11 => ?_) (fun hc11 => ?_)
  · rw [if_pos hc11] at hS
    refine swp_seq ?_
    refine swp_region ?_
    refine sops_go rfl (st_move (v := .d _) rfl rfl rfl ?_)
    refine sops_go rfl (st_assign (v := .d _) rfl rfl rfl ?_)
    refine sops_go rfl (st_assign (v := .d _) rfl rfl rfl ?_)
    refine sops_nil ?_
    refine swp_ret ?_
    with_reducible refine after_ret ?_
    exact fin_2v rfl rfl rfl (by rw [hS]) (by rw [hS])
  · rw [if_neg (by rw [hc11]; simp)] at hS
    refine swp_skip ?_
    refine swp_seq ?_
    refine swp_region ?_
    first | refine sops_go rfl (so_load (v := .d (.agg [_, _, _])) rfl rfl rfl rfl rfl rfl rfl rfl ?_) | refine sops_go rfl (so_load (v := .agg [_, _, _]) rfl rfl rfl rfl rfl rfl rfl rfl ?_)
    first | refine sops_go rfl (so_load (v := .d (.agg [_, _, _])) rfl rfl rfl rfl rfl rfl rfl rfl ?_) | refine sops_go rfl (so_load (v := .agg [_, _, _]) rfl rfl rfl rfl rfl rfl rfl rfl ?_)
    refine sops_go rfl (st_call rfl rfl (h2 (by simpa using hc11)) ⟨na_d _, na_d _, trivial⟩ rfl ?_)
    refine sops_go rfl (st_assign (v := .d _) rfl rfl rfl ?_)
    refine sops_go rfl (st_assign (v := .d _) rfl rfl rfl ?_)
    refine sops_nil ?_
    refine swp_ret ?_
    exact fin_2v rfl rfl rfl (by rw [hS]) (by rw [hS])
end Go.Proofs.YtdcpnpcmgfmenaaDoor
