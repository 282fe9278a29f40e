/-
  Walks: types checked. Conditions: none.
-/
import Derived.Test.YtdcpnpcmgfmenaaDoorPo
set_option linter.unusedVariables false
set_option maxRecDepth 100000
namespace Go.Proofs.YtdcpnpcmgfmenaaDoor
open Go Go.Proofs.YtdcpnpcmgfmenaaDoor.Lg

def T.long (t : T) : Bool := !t.span.ok || (decide (t.span.deep > 16) || decide (t.span.many > 4096))
def T.check (t : T) : Int := if t.formed = true then (if t.long = true then 2 else 0) else 110

theorem checkT_pure (t : T) (hf : t.fit) (s : Bool) : Pure env 27 [.d (t.df s)] (.d (.v (.int .i64 t.check))) := by
  have hform := formed_pure t hf s
  have hspan := span_pure t s
  obtain ⟨kind, names, list⟩ := t
  refine pure_of_body Tryd.func27 rfl rfl rfl fun B hB => ?_
  refine swp_seq ?_
  refine swp_region ?_
  refine sops_go rfl (so_box (cs := [_, _, _]) rfl rfl rfl ?_)
  refine sops_go rfl (st_assign (v := .d _) rfl rfl rfl ?_)
  refine sops_nil ?_
  refine swp_seq ?_
  refine swp_seq ?_
  refine swp_region ?_
  first | refine sops_go rfl (so_load (v := .d (.agg [_, _, _])) rfl rfl rfl rfl rfl rfl rfl rfl ?_) | refine sops_go rfl (so_load (v := .agg [_, _, _]) rfl rfl rfl rfl rfl rfl rfl rfl ?_)
  -- hand: CALL f42(t6)
  refine sops_go rfl (st_call rfl rfl (hform) ⟨na_d _, trivial⟩ rfl ?_)
  refine sops_go rfl (st_not rfl rfl rfl ?_)
  refine sops_nil ?_
  -- cond
  refine swp_cond _ rfl (fun hc => ?_) (fun hc => ?_)
  · refine swp_seq ?_
    refine swp_region ?_
    refine sops_go rfl (st_assign (v := .d _) rfl rfl rfl ?_)
    refine sops_nil ?_
    refine swp_ret ?_
    with_reducible refine after_ret ?_
    -- ret
    refine ⟨.inl rfl, .inl ⟨2, rfl, ?_⟩⟩
    have e : (T.mk kind names list).check = 110 := by unfold T.check; rw [if_neg (by simpa using hc)]
    rw [e]; exact ra_d (keeps_v _)
  · refine swp_skip ?_
    refine swp_seq ?_
    refine swp_seq ?_
    refine swp_region ?_
    first | refine sops_go rfl (so_load (v := .d (.agg [_, _, _])) rfl rfl rfl rfl rfl rfl rfl rfl ?_) | refine sops_go rfl (so_load (v := .agg [_, _, _]) rfl rfl rfl rfl rfl rfl rfl rfl ?_)
    -- hand: CALL f43(t10)
    have hck : (T.mk kind names list).check = if (T.mk kind names list).long = true then 2 else 0 := by unfold T.check; rw [if_pos (by simpa using hc)]
    refine sops_go rfl (st_call rfl rfl (hspan) ⟨na_d _, trivial⟩ rfl ?_)
    refine sops_go rfl (st_move (v := .tup _) rfl rfl rfl ?_)
    refine sops_go rfl (st_extract (c := .d _) rfl rfl rfl rfl ?_)
    refine sops_go rfl (st_extract (c := .d _) rfl rfl rfl rfl ?_)
    refine sops_go rfl (st_extract (c := .d _) rfl rfl rfl rfl ?_)
    refine sops_go rfl (st_assign (v := .d _) rfl rfl rfl ?_)
    refine sops_go rfl (st_assign (v := .d _) rfl rfl rfl ?_)
    refine sops_go rfl (st_assign (v := .d _) rfl rfl rfl ?_)
    refine sops_nil ?_
    refine swp_seq ?_
    refine swp_region ?_
    refine sops_go rfl (st_move (v := .d _) rfl rfl rfl ?_)
    refine sops_go rfl (st_not rfl rfl rfl ?_)
    refine sops_go rfl (st_move (v := .d _) rfl rfl rfl ?_)
    -- guard (some (2, false))
    refine sops_case 17 rfl (fun hb17 => ?_) (fun hb17 => ?_)
    · first | refine sops_yes rfl rfl rfl rfl (st_move (v := .d _) rfl rfl rfl ?_) | refine sops_no rfl rfl rfl rfl rfl ?_
      first | refine sops_yes rfl rfl rfl rfl (st_bin rfl rfl rfl rfl rfl ?_) | refine sops_no rfl rfl rfl rfl rfl ?_
      refine sops_go rfl (st_pick (v := .d _) rfl rfl rfl rfl ?_)
      refine sops_go rfl (st_move (v := .d _) rfl rfl rfl ?_)
      -- guard (some (6, false))
      first | refine sops_yes rfl rfl rfl rfl (st_move (v := .d _) rfl rfl rfl ?_) | refine sops_no rfl rfl rfl rfl rfl ?_
      first | refine sops_yes rfl rfl rfl rfl (st_bin rfl rfl rfl rfl rfl ?_) | refine sops_no rfl rfl rfl rfl rfl ?_
      refine sops_go rfl (st_pick (v := .d _) rfl rfl rfl rfl ?_)
      refine sops_nil ?_
      -- cond
      refine swp_condT rfl ?_
      refine swp_seq ?_
      refine swp_region ?_
      refine sops_go rfl (st_assign (v := .d _) rfl rfl rfl ?_)
      refine sops_nil ?_
      refine swp_ret ?_
      with_reducible refine after_ret ?_
      -- ret
      refine ⟨.inl rfl, .inl ⟨2, rfl, ?_⟩⟩
      rw [hck, if_pos (by unfold T.long; rw [show (!(T.mk kind names list).span.ok) = true from hb17]; rfl)]
      exact ra_d (keeps_v _)
    · first | refine sops_yes rfl rfl rfl rfl (st_move (v := .d _) rfl rfl rfl ?_) | refine sops_no rfl rfl rfl rfl rfl ?_
      first | refine sops_yes rfl rfl rfl rfl (st_bin rfl rfl rfl rfl rfl ?_) | refine sops_no rfl rfl rfl rfl rfl ?_
      refine sops_go rfl (st_pick (v := .d _) rfl rfl rfl rfl ?_)
      refine sops_go rfl (st_move (v := .d _) rfl rfl rfl ?_)
      -- guard (some (6, false))
      refine sops_case 21 rfl (fun hb21 => ?_) (fun hb21 => ?_)
      · first | refine sops_yes rfl rfl rfl rfl (st_move (v := .d _) rfl rfl rfl ?_) | refine sops_no rfl rfl rfl rfl rfl ?_
        first | refine sops_yes rfl rfl rfl rfl (st_bin rfl rfl rfl rfl rfl ?_) | refine sops_no rfl rfl rfl rfl rfl ?_
        refine sops_go rfl (st_pick (v := .d _) rfl rfl rfl rfl ?_)
        refine sops_nil ?_
        -- cond
        -- cond
        refine swp_condT rfl ?_
        refine swp_seq ?_
        refine swp_region ?_
        refine sops_go rfl (st_assign (v := .d _) rfl rfl rfl ?_)
        refine sops_nil ?_
        refine swp_ret ?_
        with_reducible refine after_ret ?_
        -- ret
        refine ⟨.inl rfl, .inl ⟨2, rfl, ?_⟩⟩
        rw [hck, if_pos (by unfold T.long; rw [show (!(T.mk kind names list).span.ok) = false from hb17, show decide ((T.mk kind names list).span.deep > 16) = true from hb21]; rfl)]
        exact ra_d (keeps_v _)
      · first | refine sops_yes rfl rfl rfl rfl (st_move (v := .d _) rfl rfl rfl ?_) | refine sops_no rfl rfl rfl rfl rfl ?_
        first | refine sops_yes rfl rfl rfl rfl (st_bin rfl rfl rfl rfl rfl ?_) | refine sops_no rfl rfl rfl rfl rfl ?_
        refine sops_go rfl (st_pick (v := .d _) rfl rfl rfl rfl ?_)
        refine sops_nil ?_
        -- cond
        -- cond
        have e : (T.mk kind names list).long = decide ((T.mk kind names list).span.many > 4096) := by
          unfold T.long; rw [show (!(T.mk kind names list).span.ok) = false from hb17, show decide ((T.mk kind names list).span.deep > 16) = false from hb21]; rfl
        refine swp_cond _ rfl (fun hc => ?_) (fun hc => ?_)
        · refine swp_seq ?_
          refine swp_region ?_
          refine sops_go rfl (st_assign (v := .d _) rfl rfl rfl ?_)
          refine sops_nil ?_
          refine swp_ret ?_
          with_reducible refine after_ret ?_
          -- ret
          refine ⟨.inl rfl, .inl ⟨2, rfl, ?_⟩⟩
          rw [hck, if_pos (e.trans hc)]
          exact ra_d (keeps_v _)
        · refine swp_skip ?_
          refine swp_seq ?_
          refine swp_region ?_
          refine sops_go rfl (st_assign (v := .d _) rfl rfl rfl ?_)
          refine sops_nil ?_
          refine swp_ret ?_
          -- ret
          refine ⟨.inl rfl, .inl ⟨2, rfl, ?_⟩⟩
          rw [hck, if_neg (by rw [e]; simpa using hc)]
          exact ra_d (keeps_v _)
end Go.Proofs.YtdcpnpcmgfmenaaDoor
