/-
  Walks: values checked. Conditions: none.
-/
import Derived.Test.YtdcpnpcmgfmenaaDoorVe
import Derived.Test.YtdcpnpcmgfmenaaDoorVc
set_option linter.unusedVariables false
set_option maxRecDepth 100000
namespace Go.Proofs.YtdcpnpcmgfmenaaDoor
open Go Go.Proofs.YtdcpnpcmgfmenaaDoor.Lg

def V.long (t : V) : Bool := (!t.short || decide (t.depthW > 16)) || decide (t.sizeW > 4096)
def V.check (t : V) : Int := if t.formed = true then (if t.long = true then 2 else 0) else 40

theorem checkV_pure (t : V) (hf : t.fit) (s : Bool) : Pure env 30 [.d (t.df s)] (.d (.v (.int .i64 t.check))) := by
  have h1 := formedV_pure t hf s
  have h2 := short_pure t s
  have h3 := depthW_pure t s
  have h4 := size_pure t s
  have hL : t.long = ((!t.short || decide (t.depthW > 16)) || decide (t.sizeW > 4096)) := rfl
  have hC : t.check = if t.formed = true then (if t.long = true then 2 else 0) else 40 := rfl
  generalize t.formed = a1 at *
  generalize t.short = a2 at *
  generalize t.depthW = a3 at *
  generalize t.sizeW = a4 at *
  generalize t.check = c at *
  generalize t.long = l at *
  obtain ⟨kind, flag, neg, digits, exp, bits, text, names, list⟩ := t
  refine pure_of_body Tryd.func30 rfl rfl rfl fun B hB => ?_
  refine swp_seq ?_
  refine swp_region ?_
  refine sops_go rfl (so_box (cs := [_, _, _, _, _, _, _, _, _]) rfl rfl rfl ?_)
  refine sops_go rfl (st_assign (v := .d _) rfl rfl rfl ?_)
  refine sops_nil ?_
  refine swp_seq ?_
  refine swp_block ?_
  refine swp_seq ?_
  refine swp_region ?_
  first | refine sops_go rfl (so_load (v := .d (.agg [_, _, _, _, _, _, _, _, _])) rfl rfl rfl rfl rfl rfl rfl rfl ?_) | refine sops_go rfl (so_load (v := .agg [_, _, _, _, _, _, _, _, _]) rfl rfl rfl rfl rfl rfl rfl rfl ?_)
  refine sops_go rfl (st_call rfl rfl (h1) ⟨na_d _, trivial⟩ rfl ?_)
  refine sops_go rfl (st_not rfl rfl rfl ?_)
  refine sops_go rfl (st_assign (v := .d _) rfl rfl rfl ?_)
  refine sops_nil ?_
  refine swp_cond _ rfl (fun hc3 => ?_) (fun hc3 => ?_)
  · refine swp_seq ?_
    refine swp_region ?_
    refine sops_go rfl (st_assign (v := .d _) rfl rfl rfl ?_)
    refine sops_nil ?_
    refine swp_ret ?_
    with_reducible refine inblk_ret ?_
    with_reducible refine after_ret ?_
    exact fin_i rfl rfl (by rw [hC, if_neg (by simpa using hc3)])
  · refine swp_seq ?_
    refine swp_region ?_
    first | refine sops_go rfl (so_load (v := .d (.agg [_, _, _, _, _, _, _, _, _])) rfl rfl rfl rfl rfl rfl rfl rfl ?_) | refine sops_go rfl (so_load (v := .agg [_, _, _, _, _, _, _, _, _]) rfl rfl rfl rfl rfl rfl rfl rfl ?_)
    refine sops_go rfl (st_call rfl rfl (h2) ⟨na_d _, trivial⟩ rfl ?_)
    refine sops_go rfl (st_not rfl rfl rfl ?_)
    refine sops_go rfl (st_move (v := .d _) rfl rfl rfl ?_)
    refine' sops_or (d := 11) (p := 15) [12, 13, 14] 4 rfl rfl rfl (fun hb11 => ?a11) (fun hb11 => ?b11) ?_
    case a11 =>
      first | refine sops_yes rfl rfl rfl rfl (so_load (v := .d (.agg [_, _, _, _, _, _, _, _, _])) rfl rfl rfl rfl rfl rfl rfl rfl ?_) | refine sops_yes rfl rfl rfl rfl (so_load (v := .agg [_, _, _, _, _, _, _, _, _]) rfl rfl rfl rfl rfl rfl rfl rfl ?_)
      refine sops_yes rfl rfl rfl rfl (st_call rfl rfl (h3) ⟨na_d _, trivial⟩ rfl ?_)
      refine sops_yes rfl rfl rfl rfl (st_bin rfl rfl rfl rfl rfl ?_)
      refine sops_go rfl (st_pick (v := .d _) rfl rfl rfl rfl ?_)
      refine sops_nil ?_
      exact ⟨rfl, rfl, rfl, rfl, [_, _, _], rfl, rfl⟩
    case b11 =>
      refine sops_no rfl rfl rfl rfl rfl ?_
      refine sops_no rfl rfl rfl rfl rfl ?_
      refine sops_no rfl rfl rfl rfl rfl ?_
      refine sops_go rfl (st_pick (v := .d _) rfl rfl rfl rfl ?_)
      refine sops_nil ?_
      exact ⟨rfl, rfl, rfl, rfl, [_, _, _], rfl, rfl⟩
    refine sops_go rfl (st_move (v := .d _) rfl rfl rfl ?_)
    refine' sops_or (d := 16) (p := 20) [17, 18, 19] 4 rfl rfl rfl (fun hb16 => ?a16) (fun hb16 => ?b16) ?_
    case a16 =>
      first | refine sops_yes rfl rfl rfl rfl (so_load (v := .d (.agg [_, _, _, _, _, _, _, _, _])) rfl rfl rfl rfl rfl rfl rfl rfl ?_) | refine sops_yes rfl rfl rfl rfl (so_load (v := .agg [_, _, _, _, _, _, _, _, _]) rfl rfl rfl rfl rfl rfl rfl rfl ?_)
      refine sops_yes rfl rfl rfl rfl (st_call rfl rfl (h4) ⟨na_d _, trivial⟩ rfl ?_)
      refine sops_yes rfl rfl rfl rfl (st_bin rfl rfl rfl rfl rfl ?_)
      refine sops_go rfl (st_pick (v := .d _) rfl rfl rfl rfl ?_)
      refine sops_nil ?_
      exact ⟨rfl, rfl, rfl, rfl, [_, _, _], rfl, rfl⟩
    case b16 =>
      refine sops_no rfl rfl rfl rfl rfl ?_
      refine sops_no rfl rfl rfl rfl rfl ?_
      refine sops_no rfl rfl rfl rfl rfl ?_
      refine sops_go rfl (st_pick (v := .d _) rfl rfl rfl rfl ?_)
      refine sops_nil ?_
      exact ⟨rfl, rfl, rfl, rfl, [_, _, _], rfl, rfl⟩
    refine sops_go rfl (st_assign (v := .d _) rfl rfl rfl ?_)
    refine sops_nil ?_
    refine swp_cond _ rfl (fun hc7 => ?_) (fun hc7 => ?_)
    · refine swp_seq ?_
      refine swp_region ?_
      refine sops_go rfl (st_assign (v := .d _) rfl rfl rfl ?_)
      refine sops_nil ?_
      refine swp_ret ?_
      with_reducible refine inblk_ret ?_
      with_reducible refine after_ret ?_
      exact fin_i rfl rfl (by rw [hC, if_pos (by simpa using hc3), if_pos (hL.trans hc7)])
    · refine swp_skip ?_
      refine swp_seq ?_
      refine swp_region ?_
      refine sops_go rfl (st_assign (v := .d _) rfl rfl rfl ?_)
      refine sops_nil ?_
      refine swp_ret ?_
      exact fin_i rfl rfl (by rw [hC, if_pos (by simpa using hc3), if_neg (by rw [hL.trans hc7]; simp)])
end Go.Proofs.YtdcpnpcmgfmenaaDoor
