/-
  Walks: types.Join, and the laws' own examples. Conditions: none.
-/
import Derived.Test.YtdcpnpcmgfmenaaDoorHf
set_option linter.unusedVariables false
set_option maxRecDepth 100000
namespace Go.Proofs.YtdcpnpcmgfmenaaDoor
open Go Go.Proofs.YtdcpnpcmgfmenaaDoor.Lg

theorem na_dagg {E : Env} {σ : St} {cs ds : List D} (h : NAs E σ (cs.map .d) (ds.map .d)) : NA E σ (.d (.agg cs)) (.d (.agg ds)) := fun B g w a hr y hy => by
  obtain ⟨h1, h2⟩ := nas_get h
  have hy := vr_data hy
  cases hy with
  | agg _ xs g1 g2 =>
    refine .d _ _ (.agg _ _ (by simp at h1; omega) fun i d x hd hx => ?_)
    have hi : i < cs.length := by simp at h1; rw [h1]; exact (List.getElem?_eq_some_iff.1 hd).1
    exact vr_data (h2 i (.d cs[i]) (.d d) (by simp [hi]) (by simp [hd]) B g w a hr x (.d _ _ (g2 i _ x (List.getElem?_eq_getElem hi) hx)))

theorem T.spanF_ok : ∀ (l : List T) (a : Sp), (T.spanF l a).ok = (a.ok && l.all fun x => x.span.ok)
  | [], a => by rw [T.spanF]; simp
  | x :: r, a => by rw [T.spanF, T.spanF_ok r]; simp [Sp.add, Bool.and_assoc]
theorem T.slim_of : ∀ t : T, t.formed = true → t.span.ok = true → t.slim := by
  apply T.ind
  intro kind names list ih hf hs
  have ti := T.inv hf
  rw [T.span] at hs
  simp only [T.spanF_ok, Bool.and_eq_true, List.all_eq_true] at hs
  obtain ⟨h1, h2⟩ := hs
  have hl : list.length ≤ 256 := by
    simp only [shortRows, Bool.and_eq_true, decide_eq_true_eq] at h1
    omega
  refine ⟨?_, by omega, (T.slimL_iff list).2 fun x hx => ih x hx (ti.all x hx) (h2 x hx)⟩
  by_cases h9 : kind = 9
  · rw [ti.bare h9]; simp
  · by_cases h10 : kind = 10 ∨ kind = 11
    · have := ti.same h10; omega
    · rw [(ti.leaf (by omega)).1]; simp
theorem T.check_slim {t : T} (h : t.check = 0) : t.slim := by
  have hf := T.check_ok h
  refine T.slim_of t hf ?_
  unfold T.check at h
  rw [if_pos hf] at h
  split at h
  · simp at h
  · rename_i hl
    simp only [T.long, Bool.or_eq_true, not_or, Bool.not_eq_true, Bool.not_eq_false'] at hl
    simpa using hl.1
theorem T.join_slim {a b : T} (ha : a.slim) (hb : b.slim) : (a.join b).slim := by
  have hv : T.every.slim := ⟨by simp, by simp, by trivial⟩
  unfold T.join
  split
  · exact hb
  · split
    · exact ha
    · split
      · exact hv
      · unfold T.joinFin
        split
        · exact hv
        · split
          · exact hv
          · rename_i h; exact T.check_slim (by simpa using h)

def T.none : T := .mk 0 [] []
def T.Join (a b : T) : T × Int := if (a.both b != 0) = true then (.none, a.both b) else (a.join b, 0)
theorem T.both_checks {a b : T} (h : a.both b = 0) : a.check = 0 ∧ b.check = 0 := by
  unfold T.both at h
  split at h
  · rename_i hc; simp at hc; exact absurd h hc
  · rename_i hc; simp at hc; exact ⟨hc, h⟩

theorem Join_pure (a b : T) (ha : a.fit) (hb : b.fit) : Pure env 10 [.d (a.df true), .d (b.df true)] (.tup [.d (a.Join b).1.d, .d (.v (.int .i64 (a.Join b).2))]) := by
  have h1 := both_pure a b ha hb true true
  have h2 : a.both b = 0 → Pure env 24 [.d (a.df true), .d (b.df true)] (.d ((a.join b).df true)) := fun e =>
    join_pure a b (T.both_ok e).1 (T.both_ok e).2 ha hb (T.check_slim (T.both_checks e).1) (T.check_slim (T.both_checks e).2)
  have h3 : a.both b = 0 → Pure env 23 [.d ((a.join b).df true)] (.d (a.join b).d) := fun e => own_pure _ (T.join_slim (T.check_slim (T.both_checks e).1) (T.check_slim (T.both_checks e).2)) true
  have hS : a.Join b = if (a.both b != 0) = true then (.none, a.both b) else (a.join b, 0) := rfl
  generalize a.both b = ac at *
  generalize a.join b = r at *
  generalize a.Join b = R at *
  obtain ⟨kind, names, list⟩ := a
  obtain ⟨kind', names', list'⟩ := b
  obtain ⟨r1, r2, r3⟩ := r
  refine pure_of_body Tryd.func10 rfl rfl rfl fun B hB => ?_
  refine swp_seq ?_
  refine swp_region ?_
  refine sops_go rfl (so_box (cs := [_, _, _]) rfl rfl rfl ?_)
  refine sops_go rfl (so_box (cs := [_, _, _]) rfl rfl rfl ?_)
  refine sops_go rfl (so_alloc (cs := [_, _, _]) rfl rfl rfl rfl ?_)
  refine sops_go rfl (st_assign (v := .d _) rfl rfl rfl ?_)
  refine sops_nil ?_
  refine swp_seq ?_
  refine swp_seq ?_
  refine swp_region ?_
  first | refine sops_go rfl (so_load (v := .d (.agg [_, _, _])) rfl rfl rfl rfl rfl rfl rfl rfl ?_) | refine sops_go rfl (so_load (v := .agg [_, _, _]) rfl rfl rfl rfl rfl rfl rfl rfl ?_)
  first | refine sops_go rfl (so_load (v := .d (.agg [_, _, _])) rfl rfl rfl rfl rfl rfl rfl rfl ?_) | refine sops_go rfl (so_load (v := .agg [_, _, _]) rfl rfl rfl rfl rfl rfl rfl rfl ?_)
  refine sops_go rfl (st_call rfl rfl (h1) ⟨na_d _, na_d _, trivial⟩ rfl ?_)
  refine sops_go rfl (st_assign (v := .d _) rfl rfl rfl ?_)
  refine sops_nil ?_
  refine swp_seq ?_
  refine swp_region ?_
  refine sops_go rfl (st_move (v := .d _) rfl rfl rfl ?_)
  refine sops_go rfl (st_bin rfl rfl rfl rfl rfl ?_)
  refine sops_nil ?_
  refine swp_cond _ rfl (fun hc11 => ?_) (fun hc11 => ?_)
  · rw [if_pos hc11] at hS
    refine swp_seq ?_
    refine swp_region ?_
    first | refine sops_go rfl (so_build (v := .d (.agg [_, _, _])) rfl rfl rfl rfl rfl rfl rfl ?_) | refine sops_go rfl (so_build (v := .agg [_, _, _]) rfl rfl rfl rfl rfl rfl rfl ?_)
    refine sops_go rfl (st_move (v := .d _) rfl rfl rfl ?_)
    refine sops_go rfl (so_store rfl rfl rfl rfl rfl rfl rfl rfl rfl (zs := [_, _, _]) rfl ?_)
    refine sops_go rfl (st_assign (v := .d _) rfl rfl rfl ?_)
    refine sops_nil ?_
    refine swp_ret ?_
    with_reducible refine after_ret ?_
    rw [hS]; exact fin_cv rfl (rc_of rfl rfl rfl rfl rfl (ra_dagg ⟨ra_d (keeps_v _), ra_nil, ra_nil, trivial⟩)) rfl rfl
  · rw [if_neg (by rw [hc11]; simp)] at hS
    refine swp_skip ?_
    refine swp_seq ?_
    refine swp_region ?_
    first | refine sops_go rfl (so_load (v := .d (.agg [_, _, _])) rfl rfl rfl rfl rfl rfl rfl rfl ?_) | refine sops_go rfl (so_load (v := .agg [_, _, _]) rfl rfl rfl rfl rfl rfl rfl rfl ?_)
    first | refine sops_go rfl (so_load (v := .d (.agg [_, _, _])) rfl rfl rfl rfl rfl rfl rfl rfl ?_) | refine sops_go rfl (so_load (v := .agg [_, _, _]) rfl rfl rfl rfl rfl rfl rfl rfl ?_)
    refine sops_go rfl (st_call rfl rfl (h2 (by simpa using hc11)) ⟨na_d _, na_d _, trivial⟩ rfl ?_)
    refine sops_go rfl (st_call rfl rfl (h3 (by simpa using hc11)) ⟨na_d _, trivial⟩ rfl ?_)
    refine sops_go rfl (so_store rfl rfl rfl rfl rfl rfl rfl rfl rfl (zs := [_, _, _]) rfl ?_)
    refine sops_go rfl (st_assign (v := .d _) rfl rfl rfl ?_)
    refine sops_nil ?_
    refine swp_ret ?_
    rw [hS]; exact fin_cv rfl (rc_of rfl rfl rfl rfl rfl (ra_d (T.keepsD (.mk r1 r2 r3)))) rfl rfl

theorem plain_pure (k : Int) : Pure env 16 [.d (.v (.int .i64 k))] (.d (T.mk k [] []).d) := by
  refine pure_of_body Tryd.func16 rfl rfl rfl fun B hB => ?_
  refine swp_seq ?_
  refine swp_region ?_
  refine sops_go rfl (so_alloc (cs := [_, _, _]) rfl rfl rfl rfl ?_)
  refine sops_nil ?_
  refine swp_seq ?_
  refine swp_region ?_
  refine sops_go rfl (st_move (v := .d _) rfl rfl rfl ?_)
  first | refine sops_go rfl (so_build (v := .d (.agg [_, _, _])) rfl rfl rfl rfl rfl rfl rfl ?_) | refine sops_go rfl (so_build (v := .agg [_, _, _]) rfl rfl rfl rfl rfl rfl rfl ?_)
  refine sops_go rfl (so_store rfl rfl rfl rfl rfl rfl rfl rfl rfl (zs := [_, _, _]) rfl ?_)
  refine sops_nil ?_
  refine swp_ret ?_
  exact fin_c rfl (rc_of rfl rfl rfl rfl rfl (ra_dagg ⟨ra_d (keeps_v _), ra_nil, ra_nil, trivial⟩))
theorem union_pure (s : ByteArray) (t : T) : Pure env 26 [.d (.v (.string s)), .d t.d] (.d (T.mk 11 [s] [t]).d) := by
  obtain ⟨kind, names, list⟩ := t
  refine pure_of_body Tryd.func26 rfl rfl rfl fun B hB => ?_
  refine swp_seq ?_
  refine swp_region ?_
  refine sops_go rfl (so_box (cs := [_, _, _]) rfl rfl rfl ?_)
  refine sops_go rfl (so_alloc (cs := [_, _, _]) rfl rfl rfl rfl ?_)
  refine sops_nil ?_
  refine swp_seq ?_
  refine swp_region ?_
  refine sops_go rfl (st_move (v := .d _) rfl rfl rfl ?_)
  refine sops_go rfl (so_buildSlice (rows := [[_]]) rfl rfl rfl rfl rfl rfl rfl rfl rfl ?_)
  first | refine sops_go rfl (so_load (v := .d (.agg [_, _, _])) rfl rfl rfl rfl rfl rfl rfl rfl ?_) | refine sops_go rfl (so_load (v := .agg [_, _, _]) rfl rfl rfl rfl rfl rfl rfl rfl ?_)
  refine sops_go rfl (so_buildSlice (rows := [[_, _, _]]) rfl rfl rfl rfl rfl rfl rfl rfl rfl ?_)
  first | refine sops_go rfl (so_build (v := .d (.agg [_, _, _])) rfl rfl rfl rfl rfl rfl rfl ?_) | refine sops_go rfl (so_build (v := .agg [_, _, _]) rfl rfl rfl rfl rfl rfl rfl ?_)
  refine sops_go rfl (so_store rfl rfl rfl rfl rfl rfl rfl rfl rfl (zs := [_, _, _]) rfl ?_)
  refine sops_nil ?_
  refine swp_ret ?_
  exact fin_c rfl (rc_of rfl rfl rfl rfl rfl (ra_agg ⟨ra_d (keeps_v _), ra_row (rows := strRows [s]) rfl rfl (strRows_keeps _), ra_row (rows := T.rows [.mk kind names list]) rfl rfl (T.rows_keeps _), trivial⟩))

def tA : T := .mk 11 [⟨#[97]⟩] [.mk 5 [] []]
def tB : T := .mk 11 [⟨#[98]⟩] [.mk 7 [] []]
def vFive : V := .mk 3 false false ⟨#[53]⟩ 0 0 ⟨#[]⟩ [] []
def vHalf : V := .mk 3 false false ⟨#[53]⟩ (-1) 0 ⟨#[]⟩ [] []
theorem aw1 : (T.mk 5 [] []).Has vFive = (true, 0) := by kernel_rfl
theorem aw2 : (T.mk 5 [] []).Has vHalf = (false, 0) := by kernel_rfl
theorem aw3 : (T.mk 5 [] []).Sub (T.mk 4 [] []) = (true, 0) := by kernel_rfl
theorem aw4 : (T.mk 4 [] []).Sub (T.mk 5 [] []) = (false, 0) := by kernel_rfl
theorem aw5 : tA.Join tB = (.mk 11 [⟨#[97]⟩, ⟨#[98]⟩] [.mk 5 [] [], .mk 7 [] []], 0) := by kernel_rfl
theorem aw6 : (T.mk 0 [] []).check = 110 := by kernel_rfl
theorem aw7 : (T.mk 9 [] []).check = 110 := by kernel_rfl
end Go.Proofs.YtdcpnpcmgfmenaaDoor
