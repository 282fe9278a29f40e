/-
  Walks: texts and numbers checked. Conditions: none.
-/
import Derived.Test.YtdcpnpcmgfmenaaDoorLu
set_option linter.unusedVariables false
set_option maxRecDepth 100000
namespace Go.Proofs.YtdcpnpcmgfmenaaDoor
open Go Go.Proofs.YtdcpnpcmgfmenaaDoor.Lg

theorem fitsAll : ∀ t j, env.ti t = some j → fitsT env t = true := by
  intro t j h
  change tiT t = some j at h
  unfold tiT at h
  split at h
  all_goals first | rfl | cases h

theorem valid_pure (s : ByteArray) (hs : fits s) : Pure env 54 [.d (.v (.string s))] (.d (.v (.bool (utfOk s)))) := by
  refine pure_of_body Tryd.func54 rfl rfl rfl fun B hB => ?_
  refine swp_seq ?_
  refine swp_region ?_
  refine sops_go rfl (st_assign (v := .d _) rfl rfl rfl ?_)
  refine sops_nil ?_
  refine swp_seq ?_
  refine swp_region ?_
  refine sops_go rfl (st_move (v := .d _) rfl rfl rfl ?_)
  -- hand: CALL f66(t3)
  refine sops_go rfl (st_call rfl rfl (validString_pure s hs) ⟨na_d _, trivial⟩ rfl ?_)
  refine sops_go rfl (st_assign (v := .d _) rfl rfl rfl ?_)
  refine sops_nil ?_
  refine swp_ret ?_
  -- ret
  exact ⟨.inl rfl, .inl ⟨2, rfl, ra_d (keeps_v _)⟩⟩

/-- The ten digits. -/
def tenDigits : ByteArray := ⟨#[48, 49, 50, 51, 52, 53, 54, 55, 56, 57]⟩
def noText : ByteArray := ⟨#[]⟩
def zeroText : ByteArray := ⟨#[48]⟩
def numDigits (s : ByteArray) : Bool := !(s.toList == noText.toList) && ((⟨(Lib.trimS s.data.toList tenDigits.data.toList).toArray⟩ : ByteArray).toList == noText.toList)

theorem digits_pure (s : ByteArray) (hs : fits s) : Pure env 68 [.d (.v (.string s))] (.d (.v (.bool (numDigits s)))) := by
  refine pure_of_body Tryd.func68 rfl rfl rfl fun B hB => ?_
  refine swp_seq ?_
  refine swp_region ?_
  refine sops_go rfl (st_assign (v := .d _) rfl rfl rfl ?_)
  refine sops_nil ?_
  refine swp_seq ?_
  refine swp_region ?_
  refine sops_go rfl (st_move (v := .d _) rfl rfl rfl ?_)
  refine sops_go rfl (st_bin rfl rfl rfl rfl rfl ?_)
  refine sops_go rfl (st_move (v := .d _) rfl rfl rfl ?_)
  -- guard (some (2, true))
  refine sops_case 5 rfl (fun hb5 => ?_) (fun hb5 => ?_)
  · first | refine sops_yes rfl rfl rfl rfl (st_move (v := .d _) rfl rfl rfl ?_) | refine sops_no rfl rfl rfl rfl rfl ?_
    -- hand: CALL f72(t6, sb'0123456789')
    first | refine sops_yes rfl rfl rfl rfl (st_call rfl rfl (trim_pure s tenDigits hs (by decide) (by decide)) ⟨na_d _, na_d _, trivial⟩ rfl ?_) | refine sops_no rfl rfl rfl rfl rfl ?_
    first | refine sops_yes rfl rfl rfl rfl (st_bin rfl rfl rfl rfl rfl ?_) | refine sops_no rfl rfl rfl rfl rfl ?_
    refine sops_go rfl (st_pick (v := .d _) rfl rfl rfl rfl ?_)
    refine sops_go rfl (st_assign (v := .d _) rfl rfl rfl ?_)
    refine sops_nil ?_
    refine swp_ret ?_
    -- ret
    refine ⟨.inl rfl, .inl ⟨2, rfl, ?_⟩⟩
    have e : numDigits s = ((⟨(Lib.trimS s.data.toList tenDigits.data.toList).toArray⟩ : ByteArray).toList == noText.toList) := by
      have h : (!(s.toList == noText.toList)) = true := hb5
      unfold numDigits; rw [h]; rfl
    rw [e]; exact ra_d (keeps_v _)
  · first | refine sops_yes rfl rfl rfl rfl (st_move (v := .d _) rfl rfl rfl ?_) | refine sops_no rfl rfl rfl rfl rfl ?_
    -- hand: CALL f72(t6, sb'0123456789')
    first | refine sops_yes rfl rfl rfl rfl (st_call rfl rfl (trim_pure s tenDigits hs (by decide) (by decide)) ⟨na_d _, na_d _, trivial⟩ rfl ?_) | refine sops_no rfl rfl rfl rfl rfl ?_
    first | refine sops_yes rfl rfl rfl rfl (st_bin rfl rfl rfl rfl rfl ?_) | refine sops_no rfl rfl rfl rfl rfl ?_
    refine sops_go rfl (st_pick (v := .d _) rfl rfl rfl rfl ?_)
    refine sops_go rfl (st_assign (v := .d _) rfl rfl rfl ?_)
    refine sops_nil ?_
    refine swp_ret ?_
    -- ret
    refine ⟨.inl rfl, .inl ⟨2, rfl, ?_⟩⟩
    have e : numDigits s = false := by
      have h : (!(s.toList == noText.toList)) = false := hb5
      unfold numDigits; rw [h]; rfl
    rw [e]; exact ra_d (keeps_v _)

theorem numDigits_pos {s : ByteArray} (h : numDigits s = true) : 0 < s.size := by
  rcases Nat.eq_zero_or_pos s.size with h0 | h0
  · exfalso
    have : s = noText := by
      obtain ⟨d⟩ := s
      have : d = #[] := Array.eq_empty_of_size_eq_zero h0
      subst this; rfl
    subst this
    have hr : (noText.toList == noText.toList) = true := beq_self_eq_true _
    unfold numDigits at h
    rw [hr] at h; cases h
  · exact h0
end Go.Proofs.YtdcpnpcmgfmenaaDoor
