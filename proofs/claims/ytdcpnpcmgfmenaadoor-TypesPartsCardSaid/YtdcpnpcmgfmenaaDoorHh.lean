/-
  Walks: the document's examples; the law TypesParts. Conditions: none.
-/
import Derived.Test.YtdcpnpcmgfmenaaDoorQa
import Derived.Test.YtdcpnpcmgfmenaaDoorTb
import Derived.Test.YtdcpnpcmgfmenaaDoorTc
set_option linter.unusedVariables false
set_option maxRecDepth 100000
namespace Go.Proofs.YtdcpnpcmgfmenaaDoor
open Go Go.Proofs.YtdcpnpcmgfmenaaDoor.Lg

theorem na_nilF {E : Env} {σ : St} (s : Bool) : NA E σ (.d (.v (.slice none 0 0))) (.d (.sl s [])) := fun B g w a hr y h => by rw [vr_val h]; exact .d _ _ (.nil _ _ _)
theorem tf_plain (k : Int) : (T.mk k [] []).fit := ⟨by simp, trivial⟩
theorem fits_of {s : ByteArray} (h : s.size ≤ 1000000) : fits s := by unfold fits; omega
theorem tA_fit : tA.fit := ⟨by intro n hn; simp at hn; subst hn; exact fits_of (by decide), ⟨by simp, trivial⟩, trivial⟩
theorem tB_fit : tB.fit := ⟨by intro n hn; simp at hn; subst hn; exact fits_of (by decide), ⟨by simp, trivial⟩, trivial⟩
theorem vFive_fit : vFive.fit := ⟨fits_of (by decide), fits_of (by decide), by simp, trivial⟩
theorem vHalf_fit : vHalf.fit := ⟨fits_of (by decide), fits_of (by decide), by simp, trivial⟩

theorem T.Sub_ok {a b : T} (h : (a.Sub b).2 = 0) : a.check = 0 ∧ b.check = 0 ∧ (a.Sub b).1 = a.sub b := by
  unfold T.Sub at h ⊢
  split at h
  · rename_i hc; simp at hc; exact absurd h hc
  · rename_i hc
    rw [if_neg hc]
    simp at hc
    exact ⟨(T.both_checks hc).1, (T.both_checks hc).2, rfl⟩
theorem T.Has_ok {t : T} {v : V} (h : (t.Has v).2 = 0) : t.check = 0 ∧ v.check = 0 ∧ (t.Has v).1 = t.has v := by
  unfold T.Has at h ⊢
  split at h
  · rename_i hc; simp at hc; exact absurd h hc
  · rename_i hc
    split at h
    · rename_i hd; simp at hd; exact absurd h hd
    · rename_i hd
      rw [if_neg hc, if_neg hd]
      simp at hc hd
      exact ⟨hc, hd, rfl⟩

theorem awake_pure : Pure env 12 [] (.d (.v (.bool true))) := by
  have c1 := Has_pure (T.mk 5 [] []) vFive (tf_plain 5) vFive_fit true true
  have c2 := Has_pure (T.mk 5 [] []) vHalf (tf_plain 5) vHalf_fit true true
  have c3 := Sub_pure (T.mk 5 [] []) (T.mk 4 [] []) (tf_plain 5) (tf_plain 4) true true
  have c4 := Sub_pure (T.mk 4 [] []) (T.mk 5 [] []) (tf_plain 4) (tf_plain 5) true true
  have c5 := Join_pure tA tB tA_fit tB_fit
  have c6 := checkT_pure (T.mk 0 [] []) (tf_plain 0) true
  have c7 := checkT_pure (T.mk 9 [] []) (tf_plain 9) true
  rw [aw1] at c1
  rw [aw2] at c2
  rw [aw3] at c3
  rw [aw4] at c4
  rw [aw5] at c5
  rw [aw6] at c6
  rw [aw7] at c7
  refine pure_of_body Tryd.func12 rfl rfl rfl fun B hB => ?_
  refine swp_seq ?_
  refine swp_region ?_
  refine sops_go rfl (st_assign (v := .d _) rfl rfl rfl ?_)
  refine sops_nil ?_
  refine swp_seq ?_
  refine swp_region ?_
  first | refine sops_go rfl (so_build (v := .d (.agg [_, _, _])) rfl rfl rfl rfl rfl rfl rfl ?_) | refine sops_go rfl (so_build (v := .agg [_, _, _]) rfl rfl rfl rfl rfl rfl rfl ?_)
  first | refine sops_go rfl (so_build (v := .d (.agg [_, _, _, _, _, _, _, _, _])) rfl rfl rfl rfl rfl rfl rfl ?_) | refine sops_go rfl (so_build (v := .agg [_, _, _, _, _, _, _, _, _]) rfl rfl rfl rfl rfl rfl rfl ?_)
  refine sops_go rfl (so_alloc (cs := [_, _, _, _, _, _, _, _, _]) rfl rfl rfl rfl ?_)
  refine sops_go rfl (so_store rfl rfl rfl rfl rfl rfl rfl rfl rfl (zs := [_, _, _, _, _, _, _, _, _]) rfl ?_)
  refine sops_nil ?_
  refine swp_seq ?_
  refine swp_region ?_
  first | refine sops_go rfl (so_build (v := .d (.agg [_, _, _])) rfl rfl rfl rfl rfl rfl rfl ?_) | refine sops_go rfl (so_build (v := .agg [_, _, _]) rfl rfl rfl rfl rfl rfl rfl ?_)
  first | refine sops_go rfl (so_build (v := .d (.agg [_, _, _, _, _, _, _, _, _])) rfl rfl rfl rfl rfl rfl rfl ?_) | refine sops_go rfl (so_build (v := .agg [_, _, _, _, _, _, _, _, _]) rfl rfl rfl rfl rfl rfl rfl ?_)
  refine sops_go rfl (so_alloc (cs := [_, _, _, _, _, _, _, _, _]) rfl rfl rfl rfl ?_)
  refine sops_go rfl (so_store rfl rfl rfl rfl rfl rfl rfl rfl rfl (zs := [_, _, _, _, _, _, _, _, _]) rfl ?_)
  refine sops_nil ?_
  refine swp_seq ?_
  refine swp_regionQ 7 (by kernel_rfl) rfl rfl rfl ?_
  refine h0_go rfl (st_call rfl rfl (plain_pure _) ⟨na_d _, trivial⟩ rfl ⟨_, rfl, ?_⟩)
  first | refine h0_go rfl (so_load (v := .d (.agg [_, _, _, _, _, _, _, _, _])) rfl rfl rfl rfl rfl rfl rfl rfl ⟨_, rfl, ?_⟩) | refine h0_go rfl (so_load (v := .agg [_, _, _, _, _, _, _, _, _]) rfl rfl rfl rfl rfl rfl rfl rfl ⟨_, rfl, ?_⟩)
  refine h0_go rfl (st_call rfl rfl (c1) ⟨na_d _, na_dagg ⟨na_d _, na_d _, na_d _, na_d _, na_d _, na_d _, na_d _, na_nil, na_nil, trivial⟩, trivial⟩ rfl ⟨_, rfl, ?_⟩)
  refine h0_go rfl (st_move (v := .tup _) rfl rfl rfl ⟨_, rfl, ?_⟩)
  refine h0_go rfl (st_extract (c := .d _) rfl rfl rfl rfl ⟨_, rfl, ?_⟩)
  refine h0_go rfl (st_extract (c := .d _) rfl rfl rfl rfl ⟨_, rfl, ?_⟩)
  refine h0_go rfl (st_assign (v := .d _) rfl rfl rfl ⟨_, rfl, ?_⟩)
  refine h0_nil ?_
  refine sops_go rfl (st_assign (v := .d _) rfl rfl rfl ?_)
  refine sops_nil ?_
  refine swp_seq ?_
  refine swp_regionQ 7 (by kernel_rfl) rfl rfl rfl ?_
  refine h0_go rfl (st_call rfl rfl (plain_pure _) ⟨na_d _, trivial⟩ rfl ⟨_, rfl, ?_⟩)
  first | refine h0_go rfl (so_load (v := .d (.agg [_, _, _, _, _, _, _, _, _])) rfl rfl rfl rfl rfl rfl rfl rfl ⟨_, rfl, ?_⟩) | refine h0_go rfl (so_load (v := .agg [_, _, _, _, _, _, _, _, _]) rfl rfl rfl rfl rfl rfl rfl rfl ⟨_, rfl, ?_⟩)
  refine h0_go rfl (st_call rfl rfl (c2) ⟨na_d _, na_dagg ⟨na_d _, na_d _, na_d _, na_d _, na_d _, na_d _, na_d _, na_nil, na_nil, trivial⟩, trivial⟩ rfl ⟨_, rfl, ?_⟩)
  refine h0_go rfl (st_move (v := .tup _) rfl rfl rfl ⟨_, rfl, ?_⟩)
  refine h0_go rfl (st_extract (c := .d _) rfl rfl rfl rfl ⟨_, rfl, ?_⟩)
  refine h0_go rfl (st_extract (c := .d _) rfl rfl rfl rfl ⟨_, rfl, ?_⟩)
  refine h0_go rfl (st_assign (v := .d _) rfl rfl rfl ⟨_, rfl, ?_⟩)
  refine h0_nil ?_
  refine sops_go rfl (st_assign (v := .d _) rfl rfl rfl ?_)
  refine sops_nil ?_
  refine swp_seq ?_
  refine swp_region ?_
  refine sops_go rfl (st_call rfl rfl (plain_pure _) ⟨na_d _, trivial⟩ rfl ?_)
  refine sops_go rfl (st_call rfl rfl (plain_pure _) ⟨na_d _, trivial⟩ rfl ?_)
  refine sops_go rfl (st_call rfl rfl (c3) ⟨na_d _, na_d _, trivial⟩ rfl ?_)
  refine sops_go rfl (st_move (v := .tup _) rfl rfl rfl ?_)
  refine sops_go rfl (st_extract (c := .d _) rfl rfl rfl rfl ?_)
  refine sops_go rfl (st_extract (c := .d _) rfl rfl rfl rfl ?_)
  refine sops_go rfl (st_assign (v := .d _) rfl rfl rfl ?_)
  refine sops_go rfl (st_assign (v := .d _) rfl rfl rfl ?_)
  refine sops_nil ?_
  refine swp_seq ?_
  refine swp_region ?_
  refine sops_go rfl (st_call rfl rfl (plain_pure _) ⟨na_d _, trivial⟩ rfl ?_)
  refine sops_go rfl (st_call rfl rfl (plain_pure _) ⟨na_d _, trivial⟩ rfl ?_)
  refine sops_go rfl (st_call rfl rfl (c4) ⟨na_d _, na_d _, trivial⟩ rfl ?_)
  refine sops_go rfl (st_move (v := .tup _) rfl rfl rfl ?_)
  refine sops_go rfl (st_extract (c := .d _) rfl rfl rfl rfl ?_)
  refine sops_go rfl (st_extract (c := .d _) rfl rfl rfl rfl ?_)
  refine sops_go rfl (st_assign (v := .d _) rfl rfl rfl ?_)
  refine sops_go rfl (st_assign (v := .d _) rfl rfl rfl ?_)
  refine sops_nil ?_
  refine swp_seq ?_
  refine swp_region ?_
  refine sops_go rfl (st_call rfl rfl (plain_pure _) ⟨na_d _, trivial⟩ rfl ?_)
  refine sops_go rfl (st_call rfl rfl (union_pure _ (T.mk 5 [] [])) ⟨na_d _, na_d _, trivial⟩ rfl ?_)
  refine sops_go rfl (st_call rfl rfl (plain_pure _) ⟨na_d _, trivial⟩ rfl ?_)
  refine sops_go rfl (st_call rfl rfl (union_pure _ (T.mk 7 [] [])) ⟨na_d _, na_d _, trivial⟩ rfl ?_)
  refine sops_go rfl (st_call rfl rfl (c5) ⟨na_d _, na_d _, trivial⟩ rfl ?_)
  refine sops_go rfl (st_move (v := .tup _) rfl rfl rfl ?_)
  first | refine sops_go rfl (st_extract (c := .d _) rfl rfl rfl rfl ?_) | refine sops_go rfl (st_extract (c := .agg _) rfl rfl rfl rfl ?_)
  refine sops_go rfl (st_extract (c := .d _) rfl rfl rfl rfl ?_)
  refine sops_go rfl (so_alloc (cs := [_, _, _]) rfl rfl rfl rfl ?_)
  refine sops_go rfl (so_store rfl rfl rfl rfl rfl rfl rfl rfl rfl (zs := [_, _, _]) rfl ?_)
  refine sops_go rfl (st_assign (v := .d _) rfl rfl rfl ?_)
  refine sops_nil ?_
  refine swp_seq ?_
  refine swp_region ?_
  refine sops_go rfl (st_move (v := .d _) rfl rfl rfl ?_)
  refine sops_go rfl (st_bin rfl rfl rfl rfl rfl ?_)
  refine sops_go rfl (st_move (v := .d _) rfl rfl rfl ?_)
  refine' sops_and (d := 52) (p := 55) [53, 54] 3 rfl rfl rfl (fun hb52 => ?a52) (fun hb52 => ?b52) ?_
  case a52 =>
    refine sops_yes rfl rfl rfl rfl (st_move (v := .d _) rfl rfl rfl ?_)
    refine sops_yes rfl rfl rfl rfl (st_bin rfl rfl rfl rfl rfl ?_)
    refine sops_go rfl (st_pick (v := .d _) rfl rfl rfl rfl ?_)
    refine sops_nil ?_
    exact ⟨rfl, rfl, rfl, rfl, [_, _], rfl, rfl⟩
  case b52 =>
    refine sops_no rfl rfl rfl rfl rfl ?_
    refine sops_no rfl rfl rfl rfl rfl ?_
    refine sops_go rfl (st_pick (v := .d _) rfl rfl rfl rfl ?_)
    refine sops_nil ?_
    exact ⟨rfl, rfl, rfl, rfl, [_, _], rfl, rfl⟩
  refine sops_go rfl (st_move (v := .d _) rfl rfl rfl ?_)
  refine' sops_and (d := 56) (p := 59) [57, 58] 3 rfl rfl rfl (fun hb56 => ?a56) (fun hb56 => ?b56) ?_
  case a56 =>
    refine sops_yes rfl rfl rfl rfl (st_move (v := .d _) rfl rfl rfl ?_)
    refine sops_yes rfl rfl rfl rfl (st_bin rfl rfl rfl rfl rfl ?_)
    refine sops_go rfl (st_pick (v := .d _) rfl rfl rfl rfl ?_)
    refine sops_nil ?_
    exact ⟨rfl, rfl, rfl, rfl, [_, _], rfl, rfl⟩
  case b56 =>
    refine sops_no rfl rfl rfl rfl rfl ?_
    refine sops_no rfl rfl rfl rfl rfl ?_
    refine sops_go rfl (st_pick (v := .d _) rfl rfl rfl rfl ?_)
    refine sops_nil ?_
    exact ⟨rfl, rfl, rfl, rfl, [_, _], rfl, rfl⟩
  refine sops_go rfl (st_move (v := .d _) rfl rfl rfl ?_)
  refine' sops_and (d := 60) (p := 63) [61, 62] 3 rfl rfl rfl (fun hb60 => ?a60) (fun hb60 => ?b60) ?_
  case a60 =>
    refine sops_yes rfl rfl rfl rfl (st_move (v := .d _) rfl rfl rfl ?_)
    refine sops_yes rfl rfl rfl rfl (st_bin rfl rfl rfl rfl rfl ?_)
    refine sops_go rfl (st_pick (v := .d _) rfl rfl rfl rfl ?_)
    refine sops_nil ?_
    exact ⟨rfl, rfl, rfl, rfl, [_, _], rfl, rfl⟩
  case b60 =>
    refine sops_no rfl rfl rfl rfl rfl ?_
    refine sops_no rfl rfl rfl rfl rfl ?_
    refine sops_go rfl (st_pick (v := .d _) rfl rfl rfl rfl ?_)
    refine sops_nil ?_
    exact ⟨rfl, rfl, rfl, rfl, [_, _], rfl, rfl⟩
  refine sops_go rfl (st_move (v := .d _) rfl rfl rfl ?_)
  refine' sops_and (d := 64) (p := 67) [65, 66] 3 rfl rfl rfl (fun hb64 => ?a64) (fun hb64 => ?b64) ?_
  case a64 =>
    refine sops_yes rfl rfl rfl rfl (st_move (v := .d _) rfl rfl rfl ?_)
    refine sops_yes rfl rfl rfl rfl (st_bin rfl rfl rfl rfl rfl ?_)
    refine sops_go rfl (st_pick (v := .d _) rfl rfl rfl rfl ?_)
    refine sops_nil ?_
    exact ⟨rfl, rfl, rfl, rfl, [_, _], rfl, rfl⟩
  case b64 =>
    refine sops_no rfl rfl rfl rfl rfl ?_
    refine sops_no rfl rfl rfl rfl rfl ?_
    refine sops_go rfl (st_pick (v := .d _) rfl rfl rfl rfl ?_)
    refine sops_nil ?_
    exact ⟨rfl, rfl, rfl, rfl, [_, _], rfl, rfl⟩
  refine sops_go rfl (st_move (v := .d _) rfl rfl rfl ?_)
  refine' sops_and (d := 68) (p := 70) [69] 2 rfl rfl rfl (fun hb68 => ?a68) (fun hb68 => ?b68) ?_
  case a68 =>
    refine sops_yes rfl rfl rfl rfl (st_move (v := .d _) rfl rfl rfl ?_)
    refine sops_go rfl (st_pick (v := .d _) rfl rfl rfl rfl ?_)
    refine sops_nil ?_
    exact ⟨rfl, rfl, rfl, rfl, [_], rfl, rfl⟩
  case b68 =>
    refine sops_no rfl rfl rfl rfl rfl ?_
    refine sops_go rfl (st_pick (v := .d _) rfl rfl rfl rfl ?_)
    refine sops_nil ?_
    exact ⟨rfl, rfl, rfl, rfl, [_], rfl, rfl⟩
  refine sops_go rfl (st_move (v := .d _) rfl rfl rfl ?_)
  refine' sops_and (d := 71) (p := 74) [72, 73] 3 rfl rfl rfl (fun hb71 => ?a71) (fun hb71 => ?b71) ?_
  case a71 =>
    refine sops_yes rfl rfl rfl rfl (st_move (v := .d _) rfl rfl rfl ?_)
    refine sops_yes rfl rfl rfl rfl (st_not rfl rfl rfl ?_)
    refine sops_go rfl (st_pick (v := .d _) rfl rfl rfl rfl ?_)
    refine sops_nil ?_
    exact ⟨rfl, rfl, rfl, rfl, [_, _], rfl, rfl⟩
  case b71 =>
    refine sops_no rfl rfl rfl rfl rfl ?_
    refine sops_no rfl rfl rfl rfl rfl ?_
    refine sops_go rfl (st_pick (v := .d _) rfl rfl rfl rfl ?_)
    refine sops_nil ?_
    exact ⟨rfl, rfl, rfl, rfl, [_, _], rfl, rfl⟩
  refine sops_go rfl (st_move (v := .d _) rfl rfl rfl ?_)
  refine' sops_and (d := 75) (p := 77) [76] 2 rfl rfl rfl (fun hb75 => ?a75) (fun hb75 => ?b75) ?_
  case a75 =>
    refine sops_yes rfl rfl rfl rfl (st_move (v := .d _) rfl rfl rfl ?_)
    refine sops_go rfl (st_pick (v := .d _) rfl rfl rfl rfl ?_)
    refine sops_nil ?_
    exact ⟨rfl, rfl, rfl, rfl, [_], rfl, rfl⟩
  case b75 =>
    refine sops_no rfl rfl rfl rfl rfl ?_
    refine sops_go rfl (st_pick (v := .d _) rfl rfl rfl rfl ?_)
    refine sops_nil ?_
    exact ⟨rfl, rfl, rfl, rfl, [_], rfl, rfl⟩
  refine sops_go rfl (st_move (v := .d _) rfl rfl rfl ?_)
  refine' sops_and (d := 78) (p := 81) [79, 80] 3 rfl rfl rfl (fun hb78 => ?a78) (fun hb78 => ?b78) ?_
  case a78 =>
    refine sops_yes rfl rfl rfl rfl (st_move (v := .d _) rfl rfl rfl ?_)
    refine sops_yes rfl rfl rfl rfl (st_not rfl rfl rfl ?_)
    refine sops_go rfl (st_pick (v := .d _) rfl rfl rfl rfl ?_)
    refine sops_nil ?_
    exact ⟨rfl, rfl, rfl, rfl, [_, _], rfl, rfl⟩
  case b78 =>
    refine sops_no rfl rfl rfl rfl rfl ?_
    refine sops_no rfl rfl rfl rfl rfl ?_
    refine sops_go rfl (st_pick (v := .d _) rfl rfl rfl rfl ?_)
    refine sops_nil ?_
    exact ⟨rfl, rfl, rfl, rfl, [_, _], rfl, rfl⟩
  refine sops_go rfl (st_assign (v := .d _) rfl rfl rfl ?_)
  refine sops_nil ?_
  refine swp_seq ?_
  refine swp_region ?_
  refine sops_go rfl (st_move (v := .d _) rfl rfl rfl ?_)
  refine sops_go rfl (st_move (v := .d _) rfl rfl rfl ?_)
  refine' sops_and (d := 83) (p := 87) [84, 85, 86] 4 rfl rfl rfl (fun hb83 => ?a83) (fun hb83 => ?b83) ?_
  case a83 =>
    first | refine sops_yes rfl rfl rfl rfl (so_fieldAddr (v := .p _ _ _) rfl rfl rfl rfl rfl rfl rfl rfl rfl rfl ?_) | refine sops_yes rfl rfl rfl rfl (so_fieldAddr (v := .dp _ _) rfl rfl rfl rfl rfl rfl rfl rfl rfl rfl ?_) | refine sops_yes rfl rfl rfl rfl (so_fieldAddr (v := .pe _ _ _ _ _) rfl rfl rfl rfl rfl rfl rfl rfl rfl rfl ?_)
    refine sops_yes rfl rfl rfl rfl (so_load (v := .d _) rfl rfl rfl rfl rfl rfl rfl rfl ?_)
    refine sops_yes rfl rfl rfl rfl (st_bin rfl rfl rfl rfl rfl ?_)
    refine sops_go rfl (st_pick (v := .d _) rfl rfl rfl rfl ?_)
    refine sops_nil ?_
    exact ⟨rfl, rfl, rfl, rfl, [_, _, _], rfl, rfl⟩
  case b83 =>
    refine sops_no rfl rfl rfl rfl rfl ?_
    refine sops_no rfl rfl rfl rfl rfl ?_
    refine sops_no rfl rfl rfl rfl rfl ?_
    refine sops_go rfl (st_pick (v := .d _) rfl rfl rfl rfl ?_)
    refine sops_nil ?_
    exact ⟨rfl, rfl, rfl, rfl, [_, _, _], rfl, rfl⟩
  refine sops_go rfl (st_move (v := .d _) rfl rfl rfl ?_)
  refine' sops_and (d := 88) (p := 93) [89, 90, 91, 92] 5 rfl rfl rfl (fun hb88 => ?a88) (fun hb88 => ?b88) ?_
  case a88 =>
    first | refine sops_yes rfl rfl rfl rfl (so_fieldAddr (v := .p _ _ _) rfl rfl rfl rfl rfl rfl rfl rfl rfl rfl ?_) | refine sops_yes rfl rfl rfl rfl (so_fieldAddr (v := .dp _ _) rfl rfl rfl rfl rfl rfl rfl rfl rfl rfl ?_) | refine sops_yes rfl rfl rfl rfl (so_fieldAddr (v := .pe _ _ _ _ _) rfl rfl rfl rfl rfl rfl rfl rfl rfl rfl ?_)
    first | refine sops_yes rfl rfl rfl rfl (so_load (v := .d _) rfl rfl rfl rfl rfl rfl rfl rfl ?_) | refine sops_yes rfl rfl rfl rfl (so_load (v := .own _ _ _ _ _) rfl rfl rfl rfl rfl rfl rfl rfl ?_)
    refine sops_yes rfl rfl rfl rfl (so_lenSl rfl rfl rfl rfl rfl ?_)
    refine sops_yes rfl rfl rfl rfl (st_bin rfl rfl rfl rfl rfl ?_)
    refine sops_go rfl (st_pick (v := .d _) rfl rfl rfl rfl ?_)
    refine sops_nil ?_
    exact ⟨rfl, rfl, rfl, rfl, [_, _, _, _], rfl, rfl⟩
  case b88 =>
    refine sops_no rfl rfl rfl rfl rfl ?_
    refine sops_no rfl rfl rfl rfl rfl ?_
    refine sops_no rfl rfl rfl rfl rfl ?_
    refine sops_no rfl rfl rfl rfl rfl ?_
    refine sops_go rfl (st_pick (v := .d _) rfl rfl rfl rfl ?_)
    refine sops_nil ?_
    exact ⟨rfl, rfl, rfl, rfl, [_, _, _, _], rfl, rfl⟩
  refine sops_go rfl (st_move (v := .d _) rfl rfl rfl ?_)
  refine' sops_and (d := 94) (p := 100) [95, 96, 97, 98, 99] 6 rfl rfl rfl (fun hb94 => ?a94) (fun hb94 => ?b94) ?_
  case a94 =>
    first | refine sops_yes rfl rfl rfl rfl (so_fieldAddr (v := .p _ _ _) rfl rfl rfl rfl rfl rfl rfl rfl rfl rfl ?_) | refine sops_yes rfl rfl rfl rfl (so_fieldAddr (v := .dp _ _) rfl rfl rfl rfl rfl rfl rfl rfl rfl rfl ?_) | refine sops_yes rfl rfl rfl rfl (so_fieldAddr (v := .pe _ _ _ _ _) rfl rfl rfl rfl rfl rfl rfl rfl rfl rfl ?_)
    first | refine sops_yes rfl rfl rfl rfl (so_load (v := .d _) rfl rfl rfl rfl rfl rfl rfl rfl ?_) | refine sops_yes rfl rfl rfl rfl (so_load (v := .own _ _ _ _ _) rfl rfl rfl rfl rfl rfl rfl rfl ?_)
    refine sops_yes rfl rfl rfl rfl (so_indexSl rfl rfl rfl rfl rfl rfl rfl (strRows_all _) (by omega) (by simp [strRows]) rfl ?_)
    refine sops_yes rfl rfl rfl rfl (so_load (v := .d _) rfl rfl rfl rfl rfl rfl rfl rfl ?_)
    refine sops_yes rfl rfl rfl rfl (st_bin rfl rfl rfl rfl rfl ?_)
    refine sops_go rfl (st_pick (v := .d _) rfl rfl rfl rfl ?_)
    refine sops_nil ?_
    exact ⟨rfl, rfl, rfl, rfl, [_, _, _, _, _], rfl, rfl⟩
  case b94 =>
    refine sops_no rfl rfl rfl rfl rfl ?_
    refine sops_no rfl rfl rfl rfl rfl ?_
    refine sops_no rfl rfl rfl rfl rfl ?_
    refine sops_no rfl rfl rfl rfl rfl ?_
    refine sops_no rfl rfl rfl rfl rfl ?_
    refine sops_go rfl (st_pick (v := .d _) rfl rfl rfl rfl ?_)
    refine sops_nil ?_
    exact ⟨rfl, rfl, rfl, rfl, [_, _, _, _, _], rfl, rfl⟩
  refine sops_go rfl (st_move (v := .d _) rfl rfl rfl ?_)
  refine' sops_and (d := 101) (p := 105) [102, 103, 104] 4 rfl rfl rfl (fun hb101 => ?a101) (fun hb101 => ?b101) ?_
  case a101 =>
    first | refine sops_yes rfl rfl rfl rfl (so_build (v := .d (.agg [_, _, _])) rfl rfl rfl rfl rfl rfl rfl ?_) | refine sops_yes rfl rfl rfl rfl (so_build (v := .agg [_, _, _]) rfl rfl rfl rfl rfl rfl rfl ?_)
    refine sops_yes rfl rfl rfl rfl (st_call rfl rfl (c6) ⟨na_dagg ⟨na_d _, na_nil, na_nil, trivial⟩, trivial⟩ rfl ?_)
    refine sops_yes rfl rfl rfl rfl (st_bin rfl rfl rfl rfl rfl ?_)
    refine sops_go rfl (st_pick (v := .d _) rfl rfl rfl rfl ?_)
    refine sops_nil ?_
    exact ⟨rfl, rfl, rfl, rfl, [_, _, _], rfl, rfl⟩
  case b101 =>
    refine sops_no rfl rfl rfl rfl rfl ?_
    refine sops_no rfl rfl rfl rfl rfl ?_
    refine sops_no rfl rfl rfl rfl rfl ?_
    refine sops_go rfl (st_pick (v := .d _) rfl rfl rfl rfl ?_)
    refine sops_nil ?_
    exact ⟨rfl, rfl, rfl, rfl, [_, _, _], rfl, rfl⟩
  refine sops_go rfl (st_move (v := .d _) rfl rfl rfl ?_)
  refine' sops_and (d := 106) (p := 110) [107, 108, 109] 4 rfl rfl rfl (fun hb106 => ?a106) (fun hb106 => ?b106) ?_
  case a106 =>
    refine sops_yes rfl rfl rfl rfl (st_call rfl rfl (plain_pure _) ⟨na_d _, trivial⟩ rfl ?_)
    refine sops_yes rfl rfl rfl rfl (st_call rfl rfl (c7) ⟨na_d _, trivial⟩ rfl ?_)
    refine sops_yes rfl rfl rfl rfl (st_bin rfl rfl rfl rfl rfl ?_)
    refine sops_go rfl (st_pick (v := .d _) rfl rfl rfl rfl ?_)
    refine sops_nil ?_
    exact ⟨rfl, rfl, rfl, rfl, [_, _, _], rfl, rfl⟩
  case b106 =>
    refine sops_no rfl rfl rfl rfl rfl ?_
    refine sops_no rfl rfl rfl rfl rfl ?_
    refine sops_no rfl rfl rfl rfl rfl ?_
    refine sops_go rfl (st_pick (v := .d _) rfl rfl rfl rfl ?_)
    refine sops_nil ?_
    exact ⟨rfl, rfl, rfl, rfl, [_, _, _], rfl, rfl⟩
  refine sops_go rfl (st_assign (v := .d _) rfl rfl rfl ?_)
  refine sops_nil ?_
  refine swp_ret ?_
  exact fin_b rfl rfl (by simp [strRows])

theorem TypesParts_pure (a b : T) (v : V) (ha : a.fit) (hb : b.fit) (hv : v.fit) : Pure env 4 [.d a.d, .d b.d, .d v.d] (.d (.v (.bool true))) := by
  have c0a := bigType_s a
  have c0b := bigType_s b
  have c0v := big_s v
  have c1 := Sub_pure a b ha hb true true
  have c2 := Has_pure a v ha hv true true
  have c3 := Has_pure b v hb hv true true
  have hlaw : (a.Sub b).2 = 0 → (a.Has v).2 = 0 → (b.Has v).2 = 0 → (a.Sub b).1 = true → (a.Has v).1 = true → (b.Has v).1 = true := by
    intro e1 e2 e3
    obtain ⟨h1, h2, h3⟩ := T.Sub_ok e1
    obtain ⟨h4, h5, h6⟩ := T.Has_ok e2
    obtain ⟨h7, h8, h9⟩ := T.Has_ok e3
    rw [h3, h6, h9]
    exact fun s h => T.sub_has a b v (T.check_ok h1) (T.check_ok h2) (V.check_ok h5) s h
  generalize a.Sub b = r1 at *
  generalize a.Has v = r2 at *
  generalize b.Has v = r3 at *
  rw [T.df_d] at c0a c0b ⊢
  rw [T.df_d] at ⊢
  rw [V.df_d] at c0v ⊢
  obtain ⟨p1, e1⟩ := r1
  obtain ⟨p2, e2⟩ := r2
  obtain ⟨p3, e3⟩ := r3
  obtain ⟨ka, na, la⟩ := a
  obtain ⟨kb, nb, lb⟩ := b
  obtain ⟨vk, flag, neg, digits, exp, bits, text, vnames, vlist⟩ := v
  refine pure_of_body Tryd.func4 rfl rfl rfl fun B hB => ?_
  refine swp_seq ?_
  refine swp_region ?_
  refine sops_go rfl (so_box (cs := [_, _, _]) rfl rfl rfl ?_)
  refine sops_go rfl (so_box (cs := [_, _, _]) rfl rfl rfl ?_)
  refine sops_go rfl (so_box (cs := [_, _, _, _, _, _, _, _, _]) rfl rfl rfl ?_)
  refine sops_go rfl (st_assign (v := .d _) rfl rfl rfl ?_)
  refine sops_nil ?_
  refine swp_seq ?_
  refine swp_seq ?_
  refine swp_region ?_
  first | refine sops_go rfl (so_load (v := .d (.agg [_, _, _])) rfl rfl rfl rfl rfl rfl rfl rfl ?_) | refine sops_go rfl (so_load (v := .agg [_, _, _]) rfl rfl rfl rfl rfl rfl rfl rfl ?_)
  refine sops_go rfl (st_callS rfl rfl (c0a) ⟨na_d _, trivial⟩ rfl fun r hr => ?_)
  obtain ⟨b1, rfl⟩ := hr
  refine sops_go rfl (st_move (v := .d _) rfl rfl rfl ?_)
  refine sops_case 15 rfl (fun hb15 => ?_) (fun hb15 => ?_)
  · refine sops_no rfl rfl rfl rfl rfl ?_
    refine sops_no rfl rfl rfl rfl rfl ?_
    refine sops_go rfl (st_pick (v := .d _) rfl rfl rfl rfl ?_)
    refine sops_go rfl (st_move (v := .d _) rfl rfl rfl ?_)
    refine sops_no rfl rfl rfl rfl rfl ?_
    refine sops_no rfl rfl rfl rfl rfl ?_
    refine sops_go rfl (st_pick (v := .d _) rfl rfl rfl rfl ?_)
    refine sops_nil ?_
    refine swp_condT rfl ?_
    refine swp_seq ?_
    refine swp_region ?_
    refine sops_go rfl (st_assign (v := .d _) rfl rfl rfl ?_)
    refine sops_nil ?_
    refine swp_ret ?_
    with_reducible refine after_ret ?_
    exact fin_b rfl rfl rfl
  · first | refine sops_yes rfl rfl rfl rfl (so_load (v := .d (.agg [_, _, _])) rfl rfl rfl rfl rfl rfl rfl rfl ?_) | refine sops_yes rfl rfl rfl rfl (so_load (v := .agg [_, _, _]) rfl rfl rfl rfl rfl rfl rfl rfl ?_)
    refine sops_yes rfl rfl rfl rfl (st_callS rfl rfl (c0b) ⟨na_d _, trivial⟩ rfl fun r hr => ?_)
    obtain ⟨b2, rfl⟩ := hr
    refine sops_go rfl (st_pick (v := .d _) rfl rfl rfl rfl ?_)
    refine sops_go rfl (st_move (v := .d _) rfl rfl rfl ?_)
    refine sops_case 19 rfl (fun hb19 => ?_) (fun hb19 => ?_)
    · refine sops_no rfl rfl rfl rfl rfl ?_
      refine sops_no rfl rfl rfl rfl rfl ?_
      refine sops_go rfl (st_pick (v := .d _) rfl rfl rfl rfl ?_)
      refine sops_nil ?_
      refine swp_condT rfl ?_
      refine swp_seq ?_
      refine swp_region ?_
      refine sops_go rfl (st_assign (v := .d _) rfl rfl rfl ?_)
      refine sops_nil ?_
      refine swp_ret ?_
      with_reducible refine after_ret ?_
      exact fin_b rfl rfl rfl
    · first | refine sops_yes rfl rfl rfl rfl (so_load (v := .d (.agg [_, _, _, _, _, _, _, _, _])) rfl rfl rfl rfl rfl rfl rfl rfl ?_) | refine sops_yes rfl rfl rfl rfl (so_load (v := .agg [_, _, _, _, _, _, _, _, _]) rfl rfl rfl rfl rfl rfl rfl rfl ?_)
      refine sops_yes rfl rfl rfl rfl (st_callS rfl rfl (c0v) ⟨na_d _, trivial⟩ rfl fun r hr => ?_)
      obtain ⟨b3, rfl⟩ := hr
      refine sops_go rfl (st_pick (v := .d _) rfl rfl rfl rfl ?_)
      refine sops_nil ?_
      refine swp_cond _ rfl (fun hc22 => ?_) (fun hc22 => ?_)
      · refine swp_seq ?_
        refine swp_region ?_
        refine sops_go rfl (st_assign (v := .d _) rfl rfl rfl ?_)
        refine sops_nil ?_
        refine swp_ret ?_
        with_reducible refine after_ret ?_
        exact fin_b rfl rfl rfl
      · refine swp_skip ?_
        refine swp_seq ?_
        refine swp_region ?_
        first | refine sops_go rfl (so_load (v := .d (.agg [_, _, _])) rfl rfl rfl rfl rfl rfl rfl rfl ?_) | refine sops_go rfl (so_load (v := .agg [_, _, _]) rfl rfl rfl rfl rfl rfl rfl rfl ?_)
        first | refine sops_go rfl (so_load (v := .d (.agg [_, _, _])) rfl rfl rfl rfl rfl rfl rfl rfl ?_) | refine sops_go rfl (so_load (v := .agg [_, _, _]) rfl rfl rfl rfl rfl rfl rfl rfl ?_)
        refine sops_go rfl (st_call rfl rfl (c1) ⟨na_d _, na_d _, trivial⟩ rfl ?_)
        refine sops_go rfl (st_move (v := .tup _) rfl rfl rfl ?_)
        refine sops_go rfl (st_extract (c := .d _) rfl rfl rfl rfl ?_)
        refine sops_go rfl (st_extract (c := .d _) rfl rfl rfl rfl ?_)
        refine sops_go rfl (st_assign (v := .d _) rfl rfl rfl ?_)
        refine sops_go rfl (st_assign (v := .d _) rfl rfl rfl ?_)
        refine sops_nil ?_
        refine swp_seq ?_
        refine swp_region ?_
        first | refine sops_go rfl (so_load (v := .d (.agg [_, _, _])) rfl rfl rfl rfl rfl rfl rfl rfl ?_) | refine sops_go rfl (so_load (v := .agg [_, _, _]) rfl rfl rfl rfl rfl rfl rfl rfl ?_)
        first | refine sops_go rfl (so_load (v := .d (.agg [_, _, _, _, _, _, _, _, _])) rfl rfl rfl rfl rfl rfl rfl rfl ?_) | refine sops_go rfl (so_load (v := .agg [_, _, _, _, _, _, _, _, _]) rfl rfl rfl rfl rfl rfl rfl rfl ?_)
        refine sops_go rfl (st_call rfl rfl (c2) ⟨na_d _, na_d _, trivial⟩ rfl ?_)
        refine sops_go rfl (st_move (v := .tup _) rfl rfl rfl ?_)
        refine sops_go rfl (st_extract (c := .d _) rfl rfl rfl rfl ?_)
        refine sops_go rfl (st_extract (c := .d _) rfl rfl rfl rfl ?_)
        refine sops_go rfl (st_assign (v := .d _) rfl rfl rfl ?_)
        refine sops_go rfl (st_assign (v := .d _) rfl rfl rfl ?_)
        refine sops_nil ?_
        refine swp_seq ?_
        refine swp_region ?_
        first | refine sops_go rfl (so_load (v := .d (.agg [_, _, _])) rfl rfl rfl rfl rfl rfl rfl rfl ?_) | refine sops_go rfl (so_load (v := .agg [_, _, _]) rfl rfl rfl rfl rfl rfl rfl rfl ?_)
        first | refine sops_go rfl (so_load (v := .d (.agg [_, _, _, _, _, _, _, _, _])) rfl rfl rfl rfl rfl rfl rfl rfl ?_) | refine sops_go rfl (so_load (v := .agg [_, _, _, _, _, _, _, _, _]) rfl rfl rfl rfl rfl rfl rfl rfl ?_)
        refine sops_go rfl (st_call rfl rfl (c3) ⟨na_d _, na_d _, trivial⟩ rfl ?_)
        refine sops_go rfl (st_move (v := .tup _) rfl rfl rfl ?_)
        refine sops_go rfl (st_extract (c := .d _) rfl rfl rfl rfl ?_)
        refine sops_go rfl (st_extract (c := .d _) rfl rfl rfl rfl ?_)
        refine sops_go rfl (st_assign (v := .d _) rfl rfl rfl ?_)
        refine sops_go rfl (st_assign (v := .d _) rfl rfl rfl ?_)
        refine sops_nil ?_
        refine swp_seq ?_
        refine swp_seq ?_
        refine swp_region ?_
        refine sops_go rfl (st_move (v := .d _) rfl rfl rfl ?_)
        refine sops_go rfl (st_bin rfl rfl rfl rfl rfl ?_)
        refine sops_go rfl (st_move (v := .d _) rfl rfl rfl ?_)
        refine' sops_or (d := 43) (p := 46) [44, 45] 3 rfl rfl rfl (fun hb43 => ?a43) (fun hb43 => ?b43) ?_
        case a43 =>
          refine sops_yes rfl rfl rfl rfl (st_move (v := .d _) rfl rfl rfl ?_)
          refine sops_yes rfl rfl rfl rfl (st_bin rfl rfl rfl rfl rfl ?_)
          refine sops_go rfl (st_pick (v := .d _) rfl rfl rfl rfl ?_)
          refine sops_nil ?_
          exact ⟨rfl, rfl, rfl, rfl, [_, _], rfl, rfl⟩
        case b43 =>
          refine sops_no rfl rfl rfl rfl rfl ?_
          refine sops_no rfl rfl rfl rfl rfl ?_
          refine sops_go rfl (st_pick (v := .d _) rfl rfl rfl rfl ?_)
          refine sops_nil ?_
          exact ⟨rfl, rfl, rfl, rfl, [_, _], rfl, rfl⟩
        refine sops_go rfl (st_move (v := .d _) rfl rfl rfl ?_)
        refine' sops_or (d := 47) (p := 50) [48, 49] 3 rfl rfl rfl (fun hb47 => ?a47) (fun hb47 => ?b47) ?_
        case a47 =>
          refine sops_yes rfl rfl rfl rfl (st_move (v := .d _) rfl rfl rfl ?_)
          refine sops_yes rfl rfl rfl rfl (st_bin rfl rfl rfl rfl rfl ?_)
          refine sops_go rfl (st_pick (v := .d _) rfl rfl rfl rfl ?_)
          refine sops_nil ?_
          exact ⟨rfl, rfl, rfl, rfl, [_, _], rfl, rfl⟩
        case b47 =>
          refine sops_no rfl rfl rfl rfl rfl ?_
          refine sops_no rfl rfl rfl rfl rfl ?_
          refine sops_go rfl (st_pick (v := .d _) rfl rfl rfl rfl ?_)
          refine sops_nil ?_
          exact ⟨rfl, rfl, rfl, rfl, [_, _], rfl, rfl⟩
        refine sops_nil ?_
        refine swp_cond _ rfl (fun hc50 => ?_) (fun hc50 => ?_)
        · refine swp_seq ?_
          refine swp_region ?_
          refine sops_go rfl (st_call rfl rfl (awake_pure) trivial rfl ?_)
          refine sops_go rfl (st_assign (v := .d _) rfl rfl rfl ?_)
          refine sops_nil ?_
          refine swp_ret ?_
          with_reducible refine after_ret ?_
          exact fin_b rfl rfl rfl
        · have hlaw : p1 = true → p2 = true → p3 = true := by
            simp only [Bool.or_eq_false_iff, bne_eq_false_iff_eq] at hc50
            exact hlaw hc50.1.1 hc50.1.2 hc50.2
          refine swp_skip ?_
          refine swp_seq ?_
          refine swp_region ?_
          refine sops_go rfl (st_call rfl rfl (awake_pure) trivial rfl ?_)
          refine sops_go rfl (st_move (v := .d _) rfl rfl rfl ?_)
          refine' sops_and (d := 53) (p := 63) [54, 55, 56, 57, 58, 59, 60, 61, 62] 10 rfl rfl rfl (fun hb53 => ?a53) (fun hb53 => ?b53) ?_
          case a53 =>
            refine sops_yes rfl rfl rfl rfl (st_move (v := .d _) rfl rfl rfl ?_)
            refine sops_yes rfl rfl rfl rfl (st_not rfl rfl rfl ?_)
            refine sops_yes rfl rfl rfl rfl (st_move (v := .d _) rfl rfl rfl ?_)
            refine' sops_or (d := 56) (p := 59) [57, 58] 3 rfl rfl rfl (fun hb56 => ?a56) (fun hb56 => ?b56) ?_
            case a56 =>
              refine sops_yes rfl rfl rfl rfl (st_move (v := .d _) rfl rfl rfl ?_)
              refine sops_yes rfl rfl rfl rfl (st_not rfl rfl rfl ?_)
              refine sops_yes rfl rfl rfl rfl (st_pick (v := .d _) rfl rfl rfl rfl ?_)
              refine sops_nil ?_
              exact ⟨rfl, rfl, rfl, rfl, [_, _], rfl, rfl⟩
            case b56 =>
              refine sops_no rfl rfl rfl rfl rfl ?_
              refine sops_no rfl rfl rfl rfl rfl ?_
              refine sops_yes rfl rfl rfl rfl (st_pick (v := .d _) rfl rfl rfl rfl ?_)
              refine sops_nil ?_
              exact ⟨rfl, rfl, rfl, rfl, [_, _], rfl, rfl⟩
            refine sops_yes rfl rfl rfl rfl (st_move (v := .d _) rfl rfl rfl ?_)
            refine' sops_or (d := 60) (p := 62) [61] 2 rfl rfl rfl (fun hb60 => ?a60) (fun hb60 => ?b60) ?_
            case a60 =>
              refine sops_yes rfl rfl rfl rfl (st_move (v := .d _) rfl rfl rfl ?_)
              refine sops_yes rfl rfl rfl rfl (st_pick (v := .d _) rfl rfl rfl rfl ?_)
              refine sops_nil ?_
              exact ⟨rfl, rfl, rfl, rfl, [_], rfl, rfl⟩
            case b60 =>
              refine sops_no rfl rfl rfl rfl rfl ?_
              refine sops_yes rfl rfl rfl rfl (st_pick (v := .d _) rfl rfl rfl rfl ?_)
              refine sops_nil ?_
              exact ⟨rfl, rfl, rfl, rfl, [_], rfl, rfl⟩
            refine sops_go rfl (st_pick (v := .d _) rfl rfl rfl rfl ?_)
            refine sops_nil ?_
            exact ⟨rfl, rfl, rfl, rfl, [_, _, _, _, _, _, _, _, _], rfl, rfl⟩
          case b53 =>
            refine sops_no rfl rfl rfl rfl rfl ?_
            refine sops_no rfl rfl rfl rfl rfl ?_
            refine sops_no rfl rfl rfl rfl rfl ?_
            refine sops_un rfl rfl rfl rfl rfl ?_
            refine sops_un rfl rfl rfl rfl rfl ?_
            refine sops_no rfl rfl rfl rfl rfl ?_
            refine sops_no rfl rfl rfl rfl rfl ?_
            refine sops_un rfl rfl rfl rfl rfl ?_
            refine sops_no rfl rfl rfl rfl rfl ?_
            refine sops_go rfl (st_pick (v := .d _) rfl rfl rfl rfl ?_)
            refine sops_nil ?_
            exact ⟨rfl, rfl, rfl, rfl, [_, _, _, _, _, _, _, _, _], rfl, rfl⟩
          refine sops_go rfl (st_assign (v := .d _) rfl rfl rfl ?_)
          refine sops_nil ?_
          refine swp_ret ?_
          refine fin_b rfl rfl ?_
          cases p1 <;> cases p2 <;> cases p3 <;> simp_all
end Go.Proofs.YtdcpnpcmgfmenaaDoor
