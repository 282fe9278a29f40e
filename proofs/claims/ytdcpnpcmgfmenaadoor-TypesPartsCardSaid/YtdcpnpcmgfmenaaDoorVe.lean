/-
  Walks: is a struct a value? And its limits. Conditions: none.
-/
import Derived.Test.YtdcpnpcmgfmenaaDoorVd
import Derived.Test.YtdcpnpcmgfmenaaDoorVb
set_option linter.unusedVariables false
set_option maxRecDepth 100000
namespace Go.Proofs.YtdcpnpcmgfmenaaDoor
open Go Go.Proofs.YtdcpnpcmgfmenaaDoor.Lg

mutual
/-- No text is longer than a text may be. -/
def V.fit : V → Prop
  | .mk _ _ _ digits _ _ text names list => fits digits ∧ fits text ∧ (∀ n ∈ names, fits n) ∧ V.fitL list
def V.fitL : List V → Prop
  | [] => True
  | x :: r => x.fit ∧ V.fitL r
end
theorem V.fitL_iff : ∀ l : List V, V.fitL l ↔ ∀ x ∈ l, x.fit
  | [] => by simp [V.fitL]
  | x :: r => by rw [V.fitL, V.fitL_iff r]; simp

/-- Is something left that may not be? -/
def V.bad (ok flag neg : Bool) (digits : ByteArray) (exp bits : Int) (text : ByteArray) (nn nl : Nat) : Bool :=
  (((((!ok || flag) || !((neg == false) && ((digits.toList == noText.toList) && ((exp == 0) && true)))) || (bits != 0)) || !(text.toList == noText.toList)) || decide ((nn : Int) > 0)) || decide ((nl : Int) > 0)
mutual
def V.formed : V → Bool
  | .mk kind flag neg digits exp bits text names list =>
    (if kind = 1 then !(V.bad true flag neg digits exp bits text names.length list.length)
    else if kind = 2 then !(V.bad true false neg digits exp bits text names.length list.length)
    else if kind = 3 then !(V.bad (numCheck neg digits exp == 0) flag false noText 0 bits text names.length list.length)
    else if kind = 4 then !(V.bad true flag neg digits exp 0 text names.length list.length)
    else if kind = 5 then !(V.bad (utfOk text) flag neg digits exp bits noText names.length list.length)
    else if kind = 6 then !(V.bad true flag neg digits exp bits noText names.length list.length)
    else if kind = 7 then !(V.bad true flag neg digits exp bits text names.length 0)
    else if kind = 8 then !(V.bad (((names.length : Int) == (list.length : Int)) && namesOk names []) flag neg digits exp bits text 0 0)
    else if kind = 9 then !(V.bad (((list.length : Int) == 1) && utfOk text) flag neg digits exp bits noText names.length 0)
    else false) && V.formedL list
def V.formedL : List V → Bool
  | [] => true
  | x :: r => x.formed && V.formedL r
end
theorem V.formedL_any : ∀ l : List V, V.formedL l = !(l.any fun x => !x.formed)
  | [] => rfl
  | x :: r => by rw [V.formedL, V.formedL_any r]; simp

theorem formedV1_pure (x : V) (hx : Pure env 44 [.d x.d] (.d (.v (.bool x.formed)))) : Pure env 60 [.d x.d] (.d (.v (.bool (!x.formed)))) := by
  rw [V.df_d] at hx ⊢
  obtain ⟨kind, flag, neg, digits, exp, bits, text, names, list⟩ := x
  refine pure_of_body Tryd.func60 rfl rfl rfl fun B hB => ?_
  refine swp_seq ?_
  refine swp_region ?_
  refine sops_go rfl (so_box (cs := [_, _, _, _, _, _, _, _, _]) rfl rfl rfl ?_)
  refine sops_go rfl (st_assign (v := .d _) rfl rfl rfl ?_)
  refine sops_nil ?_
  refine swp_seq ?_
  refine swp_region ?_
  first | refine sops_go rfl (so_load (v := .d (.agg [_, _, _, _, _, _, _, _, _])) rfl rfl rfl rfl rfl rfl rfl rfl ?_) | refine sops_go rfl (so_load (v := .agg [_, _, _, _, _, _, _, _, _]) rfl rfl rfl rfl rfl rfl rfl rfl ?_)
  refine sops_go rfl (st_call rfl rfl (hx) ⟨na_d _, trivial⟩ rfl ?_)
  refine sops_go rfl (st_not rfl rfl rfl ?_)
  refine sops_go rfl (st_assign (v := .d _) rfl rfl rfl ?_)
  refine sops_nil ?_
  refine swp_ret ?_
  exact fin_b rfl rfl rfl

structure Rest where
  ok : Bool
  flag : Bool
  neg : Bool
  digits : ByteArray
  exp : Int
  bits : Int
  text : ByteArray
  sn : Bool
  names : List ByteArray
  sl : Bool
  list : List V
def Rest.bad (r : Rest) : Bool := V.bad r.ok r.flag r.neg r.digits r.exp r.bits r.text r.names.length r.list.length

theorem formedV_pure (t : V) : t.fit → ∀ s, Pure env 44 [.d (t.df s)] (.d (.v (.bool t.formed))) := by
  revert t
  apply V.ind
  intro kind flag neg digits exp bits text names list ih hfit s
  obtain ⟨hf1, hf2, hf3, hf4⟩ := hfit
  refine pure_of_body Tryd.func44 rfl rfl rfl fun B hB => ?_
  let P : Rest → Prop := fun r => (V.mk kind flag neg digits exp bits text names list).formed = (!(V.bad r.ok r.flag r.neg r.digits r.exp r.bits r.text r.names.length r.list.length) && V.formedL list)
  refine swp_seq ?_
  refine swp_region ?_
  refine sops_go rfl (so_box (cs := [_, _, _, _, _, _, _, _, _]) rfl rfl rfl ?_)
  refine sops_go rfl (st_assign (v := .d _) rfl rfl rfl ?_)
  refine sops_nil ?_
  refine swp_seq ?_
  refine swp_region ?_
  first | refine sops_go rfl (so_load (v := .d (.agg [_, _, _, _, _, _, _, _, _])) rfl rfl rfl rfl rfl rfl rfl rfl ?_) | refine sops_go rfl (so_load (v := .agg [_, _, _, _, _, _, _, _, _]) rfl rfl rfl rfl rfl rfl rfl rfl ?_)
  refine sops_go rfl (so_alloc (cs := [_, _, _, _, _, _, _, _, _]) rfl rfl rfl rfl ?_)
  refine sops_go rfl (so_store rfl rfl rfl rfl rfl rfl rfl rfl rfl (zs := [_, _, _, _, _, _, _, _, _]) rfl ?_)
  refine sops_nil ?_
  refine swp_seq ?_
  refine swp_region ?_
  refine sops_go rfl (st_assign (v := .d _) rfl rfl rfl ?_)
  refine sops_nil ?_
  refine swp_seqF (F := fun r : Rest => ({ t := upd (upd (upd (fun _ => .any) 1 (.p 0 0 0)) 3 (.p 1 0 0)) 4 (.d (.v (.bool r.ok))), n := 103, h := upd (upd (fun _ => .dead) 0 (.cells [.any, .any, .any, .any, .any, .any, .any, .any, .d (.sl s (V.rows list))])) 1 (.cells [.any, .d (.v (.bool r.flag)), .d (.v (.bool r.neg)), .d (.v (.string r.digits)), .d (.v (.int .i64 r.exp)), .d (.v (.int .u64 r.bits)), .d (.v (.string r.text)), .d (.sl r.sn (strRows r.names)), .d (.sl r.sl (V.rows r.list))]), nx := 2 } : St)) (P := P) ?_ ?_
  · refine swp_seq ?_
    refine swp_region ?_
    first | refine sops_go rfl (so_fieldAddr (v := .p _ _ _) rfl rfl rfl rfl rfl rfl rfl rfl rfl rfl ?_) | refine sops_go rfl (so_fieldAddr (v := .dp _ _) rfl rfl rfl rfl rfl rfl rfl rfl rfl rfl ?_) | refine sops_go rfl (so_fieldAddr (v := .pe _ _ _ _ _) rfl rfl rfl rfl rfl rfl rfl rfl rfl rfl ?_)
    refine sops_go rfl (so_load (v := .d _) rfl rfl rfl rfl rfl rfl rfl rfl ?_)
    refine sops_nil ?_
    refine swp_block ?_
    refine swp_seq ?_
    refine swp_region ?_
    refine sops_go rfl (st_bin rfl rfl rfl rfl rfl ?_)
    refine sops_go rfl (st_assign (v := .d _) rfl rfl rfl ?_)
    refine sops_nil ?_
    refine swp_cond _ rfl (fun hc8 => ?_) (fun hc8 => ?_)
    · let r : Rest := ⟨true, flag, neg, digits, exp, bits, text, s, names, s, list⟩
      have hP : P r := by show V.formed _ = _; rw [V.formed, show kind = 1 by simpa using hc8]; rfl
      refine swp_skip ?_
      refine ⟨r, hP, ?_⟩
      refine wk_of rfl (Nat.le_of_ble_eq_true rfl) (by rw [hB]; exact Nat.zero_le _) (tle_upd (le_eq rfl rfl) (tle_upd (le_eq rfl rfl) (tle_upd (le_eq rfl rfl) (tle_any _)))) (hle_upd (.cells _ _ ⟨le_any _, le_eq rfl rfl, le_eq rfl rfl, le_eq rfl rfl, le_eq rfl rfl, le_eq rfl rfl, le_eq rfl rfl, (by first | exact le_eq rfl rfl | exact le_nil), (by first | exact le_eq rfl rfl | exact le_nil), trivial⟩) (hle_upd (.cells _ _ ⟨le_any _, le_any _, le_any _, le_any _, le_any _, le_any _, le_any _, le_any _, le_eq rfl rfl, trivial⟩) (hle_dead _))) (dead_upd (Nat.le_of_ble_eq_true rfl) (dead_upd (Nat.le_of_ble_eq_true rfl) (dead_none)))
    · refine swp_seq ?_
      refine swp_region ?_
      refine sops_go rfl (st_bin rfl rfl rfl rfl rfl ?_)
      refine sops_go rfl (st_assign (v := .d _) rfl rfl rfl ?_)
      refine sops_nil ?_
      refine swp_cond _ rfl (fun hc10 => ?_) (fun hc10 => ?_)
      · let r : Rest := ⟨true, false, neg, digits, exp, bits, text, s, names, s, list⟩
        have hP : P r := by show V.formed _ = _; rw [V.formed, show kind = 2 by simpa using hc10]; rfl
        refine swp_region ?_
        first | refine sops_go rfl (so_fieldAddr (v := .p _ _ _) rfl rfl rfl rfl rfl rfl rfl rfl rfl rfl ?_) | refine sops_go rfl (so_fieldAddr (v := .dp _ _) rfl rfl rfl rfl rfl rfl rfl rfl rfl rfl ?_) | refine sops_go rfl (so_fieldAddr (v := .pe _ _ _ _ _) rfl rfl rfl rfl rfl rfl rfl rfl rfl rfl ?_)
        refine sops_go rfl (so_store rfl rfl rfl rfl rfl rfl rfl rfl rfl (zs := [_, _, _, _, _, _, _, _, _]) rfl ?_)
        refine sops_nil ?_
        refine ⟨r, hP, ?_⟩
        refine wk_of rfl (Nat.le_of_ble_eq_true rfl) (by rw [hB]; exact Nat.zero_le _) (tle_upd (le_eq rfl rfl) (tle_upd (le_eq rfl rfl) (tle_upd (le_eq rfl rfl) (tle_any _)))) (hle_upd (.cells _ _ ⟨le_any _, le_eq rfl rfl, le_eq rfl rfl, le_eq rfl rfl, le_eq rfl rfl, le_eq rfl rfl, le_eq rfl rfl, (by first | exact le_eq rfl rfl | exact le_nil), (by first | exact le_eq rfl rfl | exact le_nil), trivial⟩) (hle_upd (.cells _ _ ⟨le_any _, le_any _, le_any _, le_any _, le_any _, le_any _, le_any _, le_any _, le_eq rfl rfl, trivial⟩) (hle_dead _))) (dead_upd (Nat.le_of_ble_eq_true rfl) (dead_upd (Nat.le_of_ble_eq_true rfl) (dead_none)))
      · refine swp_seq ?_
        refine swp_region ?_
        refine sops_go rfl (st_bin rfl rfl rfl rfl rfl ?_)
        refine sops_go rfl (st_assign (v := .d _) rfl rfl rfl ?_)
        refine sops_nil ?_
        refine swp_cond _ rfl (fun hc13 => ?_) (fun hc13 => ?_)
        · let r : Rest := ⟨(numCheck neg digits exp == 0), flag, false, noText, 0, bits, text, s, names, s, list⟩
          have hP : P r := by show V.formed _ = _; rw [V.formed, show kind = 3 by simpa using hc13]; rfl
          refine swp_seq ?_
          refine swp_region ?_
          first | refine sops_go rfl (so_fieldAddr (v := .p _ _ _) rfl rfl rfl rfl rfl rfl rfl rfl rfl rfl ?_) | refine sops_go rfl (so_fieldAddr (v := .dp _ _) rfl rfl rfl rfl rfl rfl rfl rfl rfl rfl ?_) | refine sops_go rfl (so_fieldAddr (v := .pe _ _ _ _ _) rfl rfl rfl rfl rfl rfl rfl rfl rfl rfl ?_)
          first | refine sops_go rfl (so_load (v := .d (.agg [_, _, _])) rfl rfl rfl rfl rfl rfl rfl rfl ?_) | refine sops_go rfl (so_load (v := .agg [_, _, _]) rfl rfl rfl rfl rfl rfl rfl rfl ?_)
          refine sops_go rfl (st_call rfl rfl (numCheck_pure _ _ _ hf1) ⟨na_d _, trivial⟩ rfl ?_)
          refine sops_go rfl (st_bin rfl rfl rfl rfl rfl ?_)
          refine sops_go rfl (st_assign (v := .d _) rfl rfl rfl ?_)
          refine sops_nil ?_
          refine swp_region ?_
          first | refine sops_go rfl (so_build (v := .d (.agg [_, _, _])) rfl rfl rfl rfl rfl rfl rfl ?_) | refine sops_go rfl (so_build (v := .agg [_, _, _]) rfl rfl rfl rfl rfl rfl rfl ?_)
          first | refine sops_go rfl (so_fieldAddr (v := .p _ _ _) rfl rfl rfl rfl rfl rfl rfl rfl rfl rfl ?_) | refine sops_go rfl (so_fieldAddr (v := .dp _ _) rfl rfl rfl rfl rfl rfl rfl rfl rfl rfl ?_) | refine sops_go rfl (so_fieldAddr (v := .pe _ _ _ _ _) rfl rfl rfl rfl rfl rfl rfl rfl rfl rfl ?_)
          refine sops_go rfl (so_store rfl rfl rfl rfl rfl rfl rfl rfl rfl (zs := [_, _, _, _, _, _, _, _, _]) rfl ?_)
          refine sops_nil ?_
          refine ⟨r, hP, ?_⟩
          refine wk_of rfl (Nat.le_of_ble_eq_true rfl) (by rw [hB]; exact Nat.zero_le _) (tle_upd (le_eq rfl rfl) (tle_upd (le_eq rfl rfl) (tle_upd (le_eq rfl rfl) (tle_any _)))) (hle_upd (.cells _ _ ⟨le_any _, le_eq rfl rfl, le_eq rfl rfl, le_eq rfl rfl, le_eq rfl rfl, le_eq rfl rfl, le_eq rfl rfl, (by first | exact le_eq rfl rfl | exact le_nil), (by first | exact le_eq rfl rfl | exact le_nil), trivial⟩) (hle_upd (.cells _ _ ⟨le_any _, le_any _, le_any _, le_any _, le_any _, le_any _, le_any _, le_any _, le_eq rfl rfl, trivial⟩) (hle_dead _))) (dead_upd (Nat.le_of_ble_eq_true rfl) (dead_upd (Nat.le_of_ble_eq_true rfl) (dead_none)))
        · refine swp_seq ?_
          refine swp_region ?_
          refine sops_go rfl (st_bin rfl rfl rfl rfl rfl ?_)
          refine sops_go rfl (st_assign (v := .d _) rfl rfl rfl ?_)
          refine sops_nil ?_
          refine swp_cond _ rfl (fun hc21 => ?_) (fun hc21 => ?_)
          · let r : Rest := ⟨true, flag, neg, digits, exp, 0, text, s, names, s, list⟩
            have hP : P r := by show V.formed _ = _; rw [V.formed, show kind = 4 by simpa using hc21]; rfl
            refine swp_region ?_
            first | refine sops_go rfl (so_fieldAddr (v := .p _ _ _) rfl rfl rfl rfl rfl rfl rfl rfl rfl rfl ?_) | refine sops_go rfl (so_fieldAddr (v := .dp _ _) rfl rfl rfl rfl rfl rfl rfl rfl rfl rfl ?_) | refine sops_go rfl (so_fieldAddr (v := .pe _ _ _ _ _) rfl rfl rfl rfl rfl rfl rfl rfl rfl rfl ?_)
            refine sops_go rfl (so_store rfl rfl rfl rfl rfl rfl rfl rfl rfl (zs := [_, _, _, _, _, _, _, _, _]) rfl ?_)
            refine sops_nil ?_
            refine ⟨r, hP, ?_⟩
            refine wk_of rfl (Nat.le_of_ble_eq_true rfl) (by rw [hB]; exact Nat.zero_le _) (tle_upd (le_eq rfl rfl) (tle_upd (le_eq rfl rfl) (tle_upd (le_eq rfl rfl) (tle_any _)))) (hle_upd (.cells _ _ ⟨le_any _, le_eq rfl rfl, le_eq rfl rfl, le_eq rfl rfl, le_eq rfl rfl, le_eq rfl rfl, le_eq rfl rfl, (by first | exact le_eq rfl rfl | exact le_nil), (by first | exact le_eq rfl rfl | exact le_nil), trivial⟩) (hle_upd (.cells _ _ ⟨le_any _, le_any _, le_any _, le_any _, le_any _, le_any _, le_any _, le_any _, le_eq rfl rfl, trivial⟩) (hle_dead _))) (dead_upd (Nat.le_of_ble_eq_true rfl) (dead_upd (Nat.le_of_ble_eq_true rfl) (dead_none)))
          · refine swp_seq ?_
            refine swp_region ?_
            refine sops_go rfl (st_bin rfl rfl rfl rfl rfl ?_)
            refine sops_go rfl (st_assign (v := .d _) rfl rfl rfl ?_)
            refine sops_nil ?_
            refine swp_cond _ rfl (fun hc24 => ?_) (fun hc24 => ?_)
            · let r : Rest := ⟨(utfOk text), flag, neg, digits, exp, bits, noText, s, names, s, list⟩
              have hP : P r := by show V.formed _ = _; rw [V.formed, show kind = 5 by simpa using hc24]; rfl
              refine swp_seq ?_
              refine swp_region ?_
              first | refine sops_go rfl (so_fieldAddr (v := .p _ _ _) rfl rfl rfl rfl rfl rfl rfl rfl rfl rfl ?_) | refine sops_go rfl (so_fieldAddr (v := .dp _ _) rfl rfl rfl rfl rfl rfl rfl rfl rfl rfl ?_) | refine sops_go rfl (so_fieldAddr (v := .pe _ _ _ _ _) rfl rfl rfl rfl rfl rfl rfl rfl rfl rfl ?_)
              refine sops_go rfl (so_load (v := .d _) rfl rfl rfl rfl rfl rfl rfl rfl ?_)
              refine sops_go rfl (st_call rfl rfl (valid_pure _ hf2) ⟨na_d _, trivial⟩ rfl ?_)
              refine sops_go rfl (st_assign (v := .d _) rfl rfl rfl ?_)
              refine sops_nil ?_
              refine swp_region ?_
              first | refine sops_go rfl (so_fieldAddr (v := .p _ _ _) rfl rfl rfl rfl rfl rfl rfl rfl rfl rfl ?_) | refine sops_go rfl (so_fieldAddr (v := .dp _ _) rfl rfl rfl rfl rfl rfl rfl rfl rfl rfl ?_) | refine sops_go rfl (so_fieldAddr (v := .pe _ _ _ _ _) rfl rfl rfl rfl rfl rfl rfl rfl rfl rfl ?_)
              refine sops_go rfl (so_store rfl rfl rfl rfl rfl rfl rfl rfl rfl (zs := [_, _, _, _, _, _, _, _, _]) rfl ?_)
              refine sops_nil ?_
              refine ⟨r, hP, ?_⟩
              refine wk_of rfl (Nat.le_of_ble_eq_true rfl) (by rw [hB]; exact Nat.zero_le _) (tle_upd (le_eq rfl rfl) (tle_upd (le_eq rfl rfl) (tle_upd (le_eq rfl rfl) (tle_any _)))) (hle_upd (.cells _ _ ⟨le_any _, le_eq rfl rfl, le_eq rfl rfl, le_eq rfl rfl, le_eq rfl rfl, le_eq rfl rfl, le_eq rfl rfl, (by first | exact le_eq rfl rfl | exact le_nil), (by first | exact le_eq rfl rfl | exact le_nil), trivial⟩) (hle_upd (.cells _ _ ⟨le_any _, le_any _, le_any _, le_any _, le_any _, le_any _, le_any _, le_any _, le_eq rfl rfl, trivial⟩) (hle_dead _))) (dead_upd (Nat.le_of_ble_eq_true rfl) (dead_upd (Nat.le_of_ble_eq_true rfl) (dead_none)))
            · refine swp_seq ?_
              refine swp_region ?_
              refine sops_go rfl (st_bin rfl rfl rfl rfl rfl ?_)
              refine sops_go rfl (st_assign (v := .d _) rfl rfl rfl ?_)
              refine sops_nil ?_
              refine swp_cond _ rfl (fun hc30 => ?_) (fun hc30 => ?_)
              · let r : Rest := ⟨true, flag, neg, digits, exp, bits, noText, s, names, s, list⟩
                have hP : P r := by show V.formed _ = _; rw [V.formed, show kind = 6 by simpa using hc30]; rfl
                refine swp_region ?_
                first | refine sops_go rfl (so_fieldAddr (v := .p _ _ _) rfl rfl rfl rfl rfl rfl rfl rfl rfl rfl ?_) | refine sops_go rfl (so_fieldAddr (v := .dp _ _) rfl rfl rfl rfl rfl rfl rfl rfl rfl rfl ?_) | refine sops_go rfl (so_fieldAddr (v := .pe _ _ _ _ _) rfl rfl rfl rfl rfl rfl rfl rfl rfl rfl ?_)
                refine sops_go rfl (so_store rfl rfl rfl rfl rfl rfl rfl rfl rfl (zs := [_, _, _, _, _, _, _, _, _]) rfl ?_)
                refine sops_nil ?_
                refine ⟨r, hP, ?_⟩
                refine wk_of rfl (Nat.le_of_ble_eq_true rfl) (by rw [hB]; exact Nat.zero_le _) (tle_upd (le_eq rfl rfl) (tle_upd (le_eq rfl rfl) (tle_upd (le_eq rfl rfl) (tle_any _)))) (hle_upd (.cells _ _ ⟨le_any _, le_eq rfl rfl, le_eq rfl rfl, le_eq rfl rfl, le_eq rfl rfl, le_eq rfl rfl, le_eq rfl rfl, (by first | exact le_eq rfl rfl | exact le_nil), (by first | exact le_eq rfl rfl | exact le_nil), trivial⟩) (hle_upd (.cells _ _ ⟨le_any _, le_any _, le_any _, le_any _, le_any _, le_any _, le_any _, le_any _, le_eq rfl rfl, trivial⟩) (hle_dead _))) (dead_upd (Nat.le_of_ble_eq_true rfl) (dead_upd (Nat.le_of_ble_eq_true rfl) (dead_none)))
              · refine swp_seq ?_
                refine swp_region ?_
                refine sops_go rfl (st_bin rfl rfl rfl rfl rfl ?_)
                refine sops_go rfl (st_assign (v := .d _) rfl rfl rfl ?_)
                refine sops_nil ?_
                refine swp_cond _ rfl (fun hc33 => ?_) (fun hc33 => ?_)
                · let r : Rest := ⟨true, flag, neg, digits, exp, bits, text, s, names, true, []⟩
                  have hP : P r := by show V.formed _ = _; rw [V.formed, show kind = 7 by simpa using hc33]; rfl
                  refine swp_region ?_
                  first | refine sops_go rfl (so_fieldAddr (v := .p _ _ _) rfl rfl rfl rfl rfl rfl rfl rfl rfl rfl ?_) | refine sops_go rfl (so_fieldAddr (v := .dp _ _) rfl rfl rfl rfl rfl rfl rfl rfl rfl rfl ?_) | refine sops_go rfl (so_fieldAddr (v := .pe _ _ _ _ _) rfl rfl rfl rfl rfl rfl rfl rfl rfl rfl ?_)
                  refine sops_go rfl (so_store rfl rfl rfl rfl rfl rfl rfl rfl rfl (zs := [_, _, _, _, _, _, _, _, _]) rfl ?_)
                  refine sops_nil ?_
                  refine ⟨r, hP, ?_⟩
                  refine wk_of rfl (Nat.le_of_ble_eq_true rfl) (by rw [hB]; exact Nat.zero_le _) (tle_upd (le_eq rfl rfl) (tle_upd (le_eq rfl rfl) (tle_upd (le_eq rfl rfl) (tle_any _)))) (hle_upd (.cells _ _ ⟨le_any _, le_eq rfl rfl, le_eq rfl rfl, le_eq rfl rfl, le_eq rfl rfl, le_eq rfl rfl, le_eq rfl rfl, (by first | exact le_eq rfl rfl | exact le_nil), (by first | exact le_eq rfl rfl | exact le_nil), trivial⟩) (hle_upd (.cells _ _ ⟨le_any _, le_any _, le_any _, le_any _, le_any _, le_any _, le_any _, le_any _, le_eq rfl rfl, trivial⟩) (hle_dead _))) (dead_upd (Nat.le_of_ble_eq_true rfl) (dead_upd (Nat.le_of_ble_eq_true rfl) (dead_none)))
                · refine swp_seq ?_
                  refine swp_region ?_
                  refine sops_go rfl (st_bin rfl rfl rfl rfl rfl ?_)
                  refine sops_go rfl (st_assign (v := .d _) rfl rfl rfl ?_)
                  refine sops_nil ?_
                  refine swp_cond _ rfl (fun hc36 => ?_) (fun hc36 => ?_)
                  · let r : Rest := ⟨((((strRows names).length : Int) == ((V.rows list).length : Int)) && namesOk names []), flag, neg, digits, exp, bits, text, true, [], true, []⟩
                    have hP : P r := by show V.formed _ = _; rw [V.formed, show kind = 8 by simpa using hc36]; simp only [r, strRows_len, V.rows_len]; rfl
                    refine swp_seq ?_
                    refine swp_region ?_
                    first | refine sops_go rfl (so_fieldAddr (v := .p _ _ _) rfl rfl rfl rfl rfl rfl rfl rfl rfl rfl ?_) | refine sops_go rfl (so_fieldAddr (v := .dp _ _) rfl rfl rfl rfl rfl rfl rfl rfl rfl rfl ?_) | refine sops_go rfl (so_fieldAddr (v := .pe _ _ _ _ _) rfl rfl rfl rfl rfl rfl rfl rfl rfl rfl ?_)
                    first | refine sops_go rfl (so_load (v := .d _) rfl rfl rfl rfl rfl rfl rfl rfl ?_) | refine sops_go rfl (so_load (v := .own _ _ _ _ _) rfl rfl rfl rfl rfl rfl rfl rfl ?_)
                    refine sops_go rfl (so_lenSl rfl rfl rfl rfl rfl ?_)
                    first | refine sops_go rfl (so_fieldAddr (v := .p _ _ _) rfl rfl rfl rfl rfl rfl rfl rfl rfl rfl ?_) | refine sops_go rfl (so_fieldAddr (v := .dp _ _) rfl rfl rfl rfl rfl rfl rfl rfl rfl rfl ?_) | refine sops_go rfl (so_fieldAddr (v := .pe _ _ _ _ _) rfl rfl rfl rfl rfl rfl rfl rfl rfl rfl ?_)
                    first | refine sops_go rfl (so_load (v := .d _) rfl rfl rfl rfl rfl rfl rfl rfl ?_) | refine sops_go rfl (so_load (v := .own _ _ _ _ _) rfl rfl rfl rfl rfl rfl rfl rfl ?_)
                    refine sops_go rfl (so_lenSl rfl rfl rfl rfl rfl ?_)
                    refine sops_go rfl (st_bin rfl rfl rfl rfl rfl ?_)
                    refine sops_go rfl (st_move (v := .d _) rfl rfl rfl ?_)
                    refine' sops_and (d := 45) (p := 49) [46, 47, 48] 4 rfl rfl rfl (fun hb45 => ?a45) (fun hb45 => ?b45) ?_
                    case a45 =>
                      first | refine sops_yes rfl rfl rfl rfl (so_fieldAddr (v := .p _ _ _) rfl rfl rfl rfl rfl rfl rfl rfl rfl rfl ?_) | refine sops_yes rfl rfl rfl rfl (so_fieldAddr (v := .dp _ _) rfl rfl rfl rfl rfl rfl rfl rfl rfl rfl ?_) | refine sops_yes rfl rfl rfl rfl (so_fieldAddr (v := .pe _ _ _ _ _) rfl rfl rfl rfl rfl rfl rfl rfl rfl rfl ?_)
                      first | refine sops_yes rfl rfl rfl rfl (so_load (v := .d _) rfl rfl rfl rfl rfl rfl rfl rfl ?_) | refine sops_yes rfl rfl rfl rfl (so_load (v := .own _ _ _ _ _) rfl rfl rfl rfl rfl rfl rfl rfl ?_)
                      refine sops_yes rfl rfl rfl rfl (st_call rfl rfl (names_pure _ _ hf3) ⟨na_d _, trivial⟩ rfl ?_)
                      refine sops_go rfl (st_pick (v := .d _) rfl rfl rfl rfl ?_)
                      refine sops_nil ?_
                      exact ⟨rfl, rfl, rfl, rfl, [_, _, _], rfl, rfl⟩
                    case b45 =>
                      refine sops_no rfl rfl rfl rfl rfl ?_
                      refine sops_no rfl rfl rfl rfl rfl ?_
                      refine sops_no rfl rfl rfl rfl rfl ?_
                      refine sops_go rfl (st_pick (v := .d _) rfl rfl rfl rfl ?_)
                      refine sops_nil ?_
                      exact ⟨rfl, rfl, rfl, rfl, [_, _, _], rfl, rfl⟩
                    refine sops_go rfl (st_assign (v := .d _) rfl rfl rfl ?_)
                    refine sops_nil ?_
                    refine swp_region ?_
                    first | refine sops_go rfl (so_fieldAddr (v := .p _ _ _) rfl rfl rfl rfl rfl rfl rfl rfl rfl rfl ?_) | refine sops_go rfl (so_fieldAddr (v := .dp _ _) rfl rfl rfl rfl rfl rfl rfl rfl rfl rfl ?_) | refine sops_go rfl (so_fieldAddr (v := .pe _ _ _ _ _) rfl rfl rfl rfl rfl rfl rfl rfl rfl rfl ?_)
                    refine sops_go rfl (so_store rfl rfl rfl rfl rfl rfl rfl rfl rfl (zs := [_, _, _, _, _, _, _, _, _]) rfl ?_)
                    first | refine sops_go rfl (so_fieldAddr (v := .p _ _ _) rfl rfl rfl rfl rfl rfl rfl rfl rfl rfl ?_) | refine sops_go rfl (so_fieldAddr (v := .dp _ _) rfl rfl rfl rfl rfl rfl rfl rfl rfl rfl ?_) | refine sops_go rfl (so_fieldAddr (v := .pe _ _ _ _ _) rfl rfl rfl rfl rfl rfl rfl rfl rfl rfl ?_)
                    refine sops_go rfl (so_store rfl rfl rfl rfl rfl rfl rfl rfl rfl (zs := [_, _, _, _, _, _, _, _, _]) rfl ?_)
                    refine sops_nil ?_
                    refine ⟨r, hP, ?_⟩
                    refine wk_of rfl (Nat.le_of_ble_eq_true rfl) (by rw [hB]; exact Nat.zero_le _) (tle_upd (le_eq rfl rfl) (tle_upd (le_eq rfl rfl) (tle_upd (le_eq rfl rfl) (tle_any _)))) (hle_upd (.cells _ _ ⟨le_any _, le_eq rfl rfl, le_eq rfl rfl, le_eq rfl rfl, le_eq rfl rfl, le_eq rfl rfl, le_eq rfl rfl, (by first | exact le_eq rfl rfl | exact le_nil), (by first | exact le_eq rfl rfl | exact le_nil), trivial⟩) (hle_upd (.cells _ _ ⟨le_any _, le_any _, le_any _, le_any _, le_any _, le_any _, le_any _, le_any _, le_eq rfl rfl, trivial⟩) (hle_dead _))) (dead_upd (Nat.le_of_ble_eq_true rfl) (dead_upd (Nat.le_of_ble_eq_true rfl) (dead_none)))
                  · refine swp_seq ?_
                    refine swp_region ?_
                    refine sops_go rfl (st_bin rfl rfl rfl rfl rfl ?_)
                    refine sops_go rfl (st_assign (v := .d _) rfl rfl rfl ?_)
                    refine sops_nil ?_
                    refine swp_cond _ rfl (fun hc52 => ?_) (fun hc52 => ?_)
                    · let r : Rest := ⟨((((V.rows list).length : Int) == 1) && utfOk text), flag, neg, digits, exp, bits, noText, s, names, true, []⟩
                      have hP : P r := by show V.formed _ = _; rw [V.formed, show kind = 9 by simpa using hc52]; simp only [r, V.rows_len]; rfl
                      refine swp_seq ?_
                      refine swp_region ?_
                      first | refine sops_go rfl (so_fieldAddr (v := .p _ _ _) rfl rfl rfl rfl rfl rfl rfl rfl rfl rfl ?_) | refine sops_go rfl (so_fieldAddr (v := .dp _ _) rfl rfl rfl rfl rfl rfl rfl rfl rfl rfl ?_) | refine sops_go rfl (so_fieldAddr (v := .pe _ _ _ _ _) rfl rfl rfl rfl rfl rfl rfl rfl rfl rfl ?_)
                      first | refine sops_go rfl (so_load (v := .d _) rfl rfl rfl rfl rfl rfl rfl rfl ?_) | refine sops_go rfl (so_load (v := .own _ _ _ _ _) rfl rfl rfl rfl rfl rfl rfl rfl ?_)
                      refine sops_go rfl (so_lenSl rfl rfl rfl rfl rfl ?_)
                      refine sops_go rfl (st_bin rfl rfl rfl rfl rfl ?_)
                      refine sops_go rfl (st_move (v := .d _) rfl rfl rfl ?_)
                      refine' sops_and (d := 58) (p := 62) [59, 60, 61] 4 rfl rfl rfl (fun hb58 => ?a58) (fun hb58 => ?b58) ?_
                      case a58 =>
                        first | refine sops_yes rfl rfl rfl rfl (so_fieldAddr (v := .p _ _ _) rfl rfl rfl rfl rfl rfl rfl rfl rfl rfl ?_) | refine sops_yes rfl rfl rfl rfl (so_fieldAddr (v := .dp _ _) rfl rfl rfl rfl rfl rfl rfl rfl rfl rfl ?_) | refine sops_yes rfl rfl rfl rfl (so_fieldAddr (v := .pe _ _ _ _ _) rfl rfl rfl rfl rfl rfl rfl rfl rfl rfl ?_)
                        refine sops_yes rfl rfl rfl rfl (so_load (v := .d _) rfl rfl rfl rfl rfl rfl rfl rfl ?_)
                        refine sops_yes rfl rfl rfl rfl (st_call rfl rfl (valid_pure _ hf2) ⟨na_d _, trivial⟩ rfl ?_)
                        refine sops_go rfl (st_pick (v := .d _) rfl rfl rfl rfl ?_)
                        refine sops_nil ?_
                        exact ⟨rfl, rfl, rfl, rfl, [_, _, _], rfl, rfl⟩
                      case b58 =>
                        refine sops_no rfl rfl rfl rfl rfl ?_
                        refine sops_no rfl rfl rfl rfl rfl ?_
                        refine sops_no rfl rfl rfl rfl rfl ?_
                        refine sops_go rfl (st_pick (v := .d _) rfl rfl rfl rfl ?_)
                        refine sops_nil ?_
                        exact ⟨rfl, rfl, rfl, rfl, [_, _, _], rfl, rfl⟩
                      refine sops_go rfl (st_assign (v := .d _) rfl rfl rfl ?_)
                      refine sops_nil ?_
                      refine swp_region ?_
                      first | refine sops_go rfl (so_fieldAddr (v := .p _ _ _) rfl rfl rfl rfl rfl rfl rfl rfl rfl rfl ?_) | refine sops_go rfl (so_fieldAddr (v := .dp _ _) rfl rfl rfl rfl rfl rfl rfl rfl rfl rfl ?_) | refine sops_go rfl (so_fieldAddr (v := .pe _ _ _ _ _) rfl rfl rfl rfl rfl rfl rfl rfl rfl rfl ?_)
                      refine sops_go rfl (so_store rfl rfl rfl rfl rfl rfl rfl rfl rfl (zs := [_, _, _, _, _, _, _, _, _]) rfl ?_)
                      first | refine sops_go rfl (so_fieldAddr (v := .p _ _ _) rfl rfl rfl rfl rfl rfl rfl rfl rfl rfl ?_) | refine sops_go rfl (so_fieldAddr (v := .dp _ _) rfl rfl rfl rfl rfl rfl rfl rfl rfl rfl ?_) | refine sops_go rfl (so_fieldAddr (v := .pe _ _ _ _ _) rfl rfl rfl rfl rfl rfl rfl rfl rfl rfl ?_)
                      refine sops_go rfl (so_store rfl rfl rfl rfl rfl rfl rfl rfl rfl (zs := [_, _, _, _, _, _, _, _, _]) rfl ?_)
                      refine sops_nil ?_
                      refine ⟨r, hP, ?_⟩
                      refine wk_of rfl (Nat.le_of_ble_eq_true rfl) (by rw [hB]; exact Nat.zero_le _) (tle_upd (le_eq rfl rfl) (tle_upd (le_eq rfl rfl) (tle_upd (le_eq rfl rfl) (tle_any _)))) (hle_upd (.cells _ _ ⟨le_any _, le_eq rfl rfl, le_eq rfl rfl, le_eq rfl rfl, le_eq rfl rfl, le_eq rfl rfl, le_eq rfl rfl, (by first | exact le_eq rfl rfl | exact le_nil), (by first | exact le_eq rfl rfl | exact le_nil), trivial⟩) (hle_upd (.cells _ _ ⟨le_any _, le_any _, le_any _, le_any _, le_any _, le_any _, le_any _, le_any _, le_eq rfl rfl, trivial⟩) (hle_dead _))) (dead_upd (Nat.le_of_ble_eq_true rfl) (dead_upd (Nat.le_of_ble_eq_true rfl) (dead_none)))
                    · refine swp_seq ?_
                      refine swp_region ?_
                      refine sops_go rfl (st_assign (v := .d _) rfl rfl rfl ?_)
                      refine sops_nil ?_
                      refine swp_ret ?_
                      with_reducible refine inblk_ret ?_
                      with_reducible refine after_ret ?_
                      have hk : (V.mk kind flag neg digits exp bits text names list).formed = false := by
                        simp only [beq_eq_false_iff_ne, ne_eq] at hc8 hc10 hc13 hc21 hc24 hc30 hc33 hc36 hc52
                        rw [V.formed]; simp [hc8, hc10, hc13, hc21, hc24, hc30, hc33, hc36, hc52]
                      exact fin_b rfl rfl hk
  · rintro ⟨ok, flag', neg', digits', exp', bits', text', sn, names', sl, list'⟩ hP
    have hP : (V.mk kind flag neg digits exp bits text names list).formed = (!(V.bad ok flag' neg' digits' exp' bits' text' names'.length list'.length) && V.formedL list) := hP
    refine swp_seq ?_
    refine swp_seq ?_
    refine swp_region ?_
    refine sops_go rfl (st_move (v := .d _) rfl rfl rfl ?_)
    refine sops_go rfl (st_not rfl rfl rfl ?_)
    refine sops_go rfl (st_move (v := .d _) rfl rfl rfl ?_)
    refine' sops_or (d := 67) (p := 70) [68, 69] 3 rfl rfl rfl (fun hb67 => ?a67) (fun hb67 => ?b67) ?_
    case a67 =>
      first | refine sops_yes rfl rfl rfl rfl (so_fieldAddr (v := .p _ _ _) rfl rfl rfl rfl rfl rfl rfl rfl rfl rfl ?_) | refine sops_yes rfl rfl rfl rfl (so_fieldAddr (v := .dp _ _) rfl rfl rfl rfl rfl rfl rfl rfl rfl rfl ?_) | refine sops_yes rfl rfl rfl rfl (so_fieldAddr (v := .pe _ _ _ _ _) rfl rfl rfl rfl rfl rfl rfl rfl rfl rfl ?_)
      refine sops_yes rfl rfl rfl rfl (so_load (v := .d _) rfl rfl rfl rfl rfl rfl rfl rfl ?_)
      refine sops_go rfl (st_pick (v := .d _) rfl rfl rfl rfl ?_)
      refine sops_nil ?_
      exact ⟨rfl, rfl, rfl, rfl, [_, _], rfl, rfl⟩
    case b67 =>
      refine sops_no rfl rfl rfl rfl rfl ?_
      refine sops_no rfl rfl rfl rfl rfl ?_
      refine sops_go rfl (st_pick (v := .d _) rfl rfl rfl rfl ?_)
      refine sops_nil ?_
      exact ⟨rfl, rfl, rfl, rfl, [_, _], rfl, rfl⟩
    refine sops_go rfl (st_move (v := .d _) rfl rfl rfl ?_)
    refine' sops_or (d := 71) (p := 76) [72, 73, 74, 75] 5 rfl rfl rfl (fun hb71 => ?a71) (fun hb71 => ?b71) ?_
    case a71 =>
      first | refine sops_yes rfl rfl rfl rfl (so_fieldAddr (v := .p _ _ _) rfl rfl rfl rfl rfl rfl rfl rfl rfl rfl ?_) | refine sops_yes rfl rfl rfl rfl (so_fieldAddr (v := .dp _ _) rfl rfl rfl rfl rfl rfl rfl rfl rfl rfl ?_) | refine sops_yes rfl rfl rfl rfl (so_fieldAddr (v := .pe _ _ _ _ _) rfl rfl rfl rfl rfl rfl rfl rfl rfl rfl ?_)
      first | refine sops_yes rfl rfl rfl rfl (so_load (v := .d (.agg [_, _, _])) rfl rfl rfl rfl rfl rfl rfl rfl ?_) | refine sops_yes rfl rfl rfl rfl (so_load (v := .agg [_, _, _]) rfl rfl rfl rfl rfl rfl rfl rfl ?_)
      first | refine sops_yes rfl rfl rfl rfl (so_build (v := .d (.agg [_, _, _])) rfl rfl rfl rfl rfl rfl rfl ?_) | refine sops_yes rfl rfl rfl rfl (so_build (v := .agg [_, _, _]) rfl rfl rfl rfl rfl rfl rfl ?_)
      refine sops_yes rfl rfl rfl rfl (so_neT rfl [37] (by kernel_rfl) fitsAll (by kernel_rfl) rfl rfl rfl rfl rfl rfl rfl rfl rfl rfl rfl ?_)
      refine sops_go rfl (st_pick (v := .d _) rfl rfl rfl rfl ?_)
      refine sops_nil ?_
      exact ⟨rfl, rfl, rfl, rfl, [_, _, _, _], rfl, rfl⟩
    case b71 =>
      refine sops_no rfl rfl rfl rfl rfl ?_
      refine sops_no rfl rfl rfl rfl rfl ?_
      refine sops_no rfl rfl rfl rfl rfl ?_
      refine sops_no rfl rfl rfl rfl rfl ?_
      refine sops_go rfl (st_pick (v := .d _) rfl rfl rfl rfl ?_)
      refine sops_nil ?_
      exact ⟨rfl, rfl, rfl, rfl, [_, _, _, _], rfl, rfl⟩
    refine sops_go rfl (st_move (v := .d _) rfl rfl rfl ?_)
    refine' sops_or (d := 77) (p := 81) [78, 79, 80] 4 rfl rfl rfl (fun hb77 => ?a77) (fun hb77 => ?b77) ?_
    case a77 =>
      first | refine sops_yes rfl rfl rfl rfl (so_fieldAddr (v := .p _ _ _) rfl rfl rfl rfl rfl rfl rfl rfl rfl rfl ?_) | refine sops_yes rfl rfl rfl rfl (so_fieldAddr (v := .dp _ _) rfl rfl rfl rfl rfl rfl rfl rfl rfl rfl ?_) | refine sops_yes rfl rfl rfl rfl (so_fieldAddr (v := .pe _ _ _ _ _) rfl rfl rfl rfl rfl rfl rfl rfl rfl rfl ?_)
      refine sops_yes rfl rfl rfl rfl (so_load (v := .d _) rfl rfl rfl rfl rfl rfl rfl rfl ?_)
      refine sops_yes rfl rfl rfl rfl (st_bin rfl rfl rfl rfl rfl ?_)
      refine sops_go rfl (st_pick (v := .d _) rfl rfl rfl rfl ?_)
      refine sops_nil ?_
      exact ⟨rfl, rfl, rfl, rfl, [_, _, _], rfl, rfl⟩
    case b77 =>
      refine sops_no rfl rfl rfl rfl rfl ?_
      refine sops_no rfl rfl rfl rfl rfl ?_
      refine sops_no rfl rfl rfl rfl rfl ?_
      refine sops_go rfl (st_pick (v := .d _) rfl rfl rfl rfl ?_)
      refine sops_nil ?_
      exact ⟨rfl, rfl, rfl, rfl, [_, _, _], rfl, rfl⟩
    refine sops_go rfl (st_move (v := .d _) rfl rfl rfl ?_)
    refine' sops_or (d := 82) (p := 86) [83, 84, 85] 4 rfl rfl rfl (fun hb82 => ?a82) (fun hb82 => ?b82) ?_
    case a82 =>
      first | refine sops_yes rfl rfl rfl rfl (so_fieldAddr (v := .p _ _ _) rfl rfl rfl rfl rfl rfl rfl rfl rfl rfl ?_) | refine sops_yes rfl rfl rfl rfl (so_fieldAddr (v := .dp _ _) rfl rfl rfl rfl rfl rfl rfl rfl rfl rfl ?_) | refine sops_yes rfl rfl rfl rfl (so_fieldAddr (v := .pe _ _ _ _ _) rfl rfl rfl rfl rfl rfl rfl rfl rfl rfl ?_)
      refine sops_yes rfl rfl rfl rfl (so_load (v := .d _) rfl rfl rfl rfl rfl rfl rfl rfl ?_)
      refine sops_yes rfl rfl rfl rfl (st_bin rfl rfl rfl rfl rfl ?_)
      refine sops_go rfl (st_pick (v := .d _) rfl rfl rfl rfl ?_)
      refine sops_nil ?_
      exact ⟨rfl, rfl, rfl, rfl, [_, _, _], rfl, rfl⟩
    case b82 =>
      refine sops_no rfl rfl rfl rfl rfl ?_
      refine sops_no rfl rfl rfl rfl rfl ?_
      refine sops_no rfl rfl rfl rfl rfl ?_
      refine sops_go rfl (st_pick (v := .d _) rfl rfl rfl rfl ?_)
      refine sops_nil ?_
      exact ⟨rfl, rfl, rfl, rfl, [_, _, _], rfl, rfl⟩
    refine sops_go rfl (st_move (v := .d _) rfl rfl rfl ?_)
    refine' sops_or (d := 87) (p := 92) [88, 89, 90, 91] 5 rfl rfl rfl (fun hb87 => ?a87) (fun hb87 => ?b87) ?_
    case a87 =>
      first | refine sops_yes rfl rfl rfl rfl (so_fieldAddr (v := .p _ _ _) rfl rfl rfl rfl rfl rfl rfl rfl rfl rfl ?_) | refine sops_yes rfl rfl rfl rfl (so_fieldAddr (v := .dp _ _) rfl rfl rfl rfl rfl rfl rfl rfl rfl rfl ?_) | refine sops_yes rfl rfl rfl rfl (so_fieldAddr (v := .pe _ _ _ _ _) rfl rfl rfl rfl rfl rfl rfl rfl rfl rfl ?_)
      first | refine sops_yes rfl rfl rfl rfl (so_load (v := .d _) rfl rfl rfl rfl rfl rfl rfl rfl ?_) | refine sops_yes rfl rfl rfl rfl (so_load (v := .own _ _ _ _ _) rfl rfl rfl rfl rfl rfl rfl rfl ?_)
      refine sops_yes rfl rfl rfl rfl (so_lenSl rfl rfl rfl rfl rfl ?_)
      refine sops_yes rfl rfl rfl rfl (st_bin rfl rfl rfl rfl rfl ?_)
      refine sops_go rfl (st_pick (v := .d _) rfl rfl rfl rfl ?_)
      refine sops_nil ?_
      exact ⟨rfl, rfl, rfl, rfl, [_, _, _, _], rfl, rfl⟩
    case b87 =>
      refine sops_no rfl rfl rfl rfl rfl ?_
      refine sops_no rfl rfl rfl rfl rfl ?_
      refine sops_no rfl rfl rfl rfl rfl ?_
      refine sops_no rfl rfl rfl rfl rfl ?_
      refine sops_go rfl (st_pick (v := .d _) rfl rfl rfl rfl ?_)
      refine sops_nil ?_
      exact ⟨rfl, rfl, rfl, rfl, [_, _, _, _], rfl, rfl⟩
    refine sops_go rfl (st_move (v := .d _) rfl rfl rfl ?_)
    refine' sops_or (d := 93) (p := 98) [94, 95, 96, 97] 5 rfl rfl rfl (fun hb93 => ?a93) (fun hb93 => ?b93) ?_
    case a93 =>
      first | refine sops_yes rfl rfl rfl rfl (so_fieldAddr (v := .p _ _ _) rfl rfl rfl rfl rfl rfl rfl rfl rfl rfl ?_) | refine sops_yes rfl rfl rfl rfl (so_fieldAddr (v := .dp _ _) rfl rfl rfl rfl rfl rfl rfl rfl rfl rfl ?_) | refine sops_yes rfl rfl rfl rfl (so_fieldAddr (v := .pe _ _ _ _ _) rfl rfl rfl rfl rfl rfl rfl rfl rfl rfl ?_)
      first | refine sops_yes rfl rfl rfl rfl (so_load (v := .d _) rfl rfl rfl rfl rfl rfl rfl rfl ?_) | refine sops_yes rfl rfl rfl rfl (so_load (v := .own _ _ _ _ _) rfl rfl rfl rfl rfl rfl rfl rfl ?_)
      refine sops_yes rfl rfl rfl rfl (so_lenSl rfl rfl rfl rfl rfl ?_)
      refine sops_yes rfl rfl rfl rfl (st_bin rfl rfl rfl rfl rfl ?_)
      refine sops_go rfl (st_pick (v := .d _) rfl rfl rfl rfl ?_)
      refine sops_nil ?_
      exact ⟨rfl, rfl, rfl, rfl, [_, _, _, _], rfl, rfl⟩
    case b93 =>
      refine sops_no rfl rfl rfl rfl rfl ?_
      refine sops_no rfl rfl rfl rfl rfl ?_
      refine sops_no rfl rfl rfl rfl rfl ?_
      refine sops_no rfl rfl rfl rfl rfl ?_
      refine sops_go rfl (st_pick (v := .d _) rfl rfl rfl rfl ?_)
      refine sops_nil ?_
      exact ⟨rfl, rfl, rfl, rfl, [_, _, _, _], rfl, rfl⟩
    refine sops_nil ?_
    refine swp_cond _ rfl (fun hc98 => ?_) (fun hc98 => ?_)
    · rw [strRows_len, V.rows_len] at hc98
      have hbad : V.bad ok flag' neg' digits' exp' bits' text' names'.length list'.length = true := hc98
      rw [hbad] at hP
      refine swp_seq ?_
      refine swp_region ?_
      refine sops_go rfl (st_assign (v := .d _) rfl rfl rfl ?_)
      refine sops_nil ?_
      refine swp_ret ?_
      with_reducible refine after_ret ?_
      exact fin_b rfl rfl hP
    · rw [strRows_len, V.rows_len] at hc98
      have hbad : V.bad ok flag' neg' digits' exp' bits' text' names'.length list'.length = false := hc98
      rw [hbad, V.formedL_any] at hP
      have hrec : ∀ x ∈ list, Pure env 60 [.d x.d] (.d (.v (.bool (!x.formed)))) := fun x hx => formedV1_pure x (by rw [V.df_d]; exact ih x hx ((V.fitL_iff list).1 hf4 x hx) true)
      refine swp_skip ?_
      refine swp_seq ?_
      refine swp_region ?_
      first | refine sops_go rfl (so_fieldAddr (v := .p _ _ _) rfl rfl rfl rfl rfl rfl rfl rfl rfl rfl ?_) | refine sops_go rfl (so_fieldAddr (v := .dp _ _) rfl rfl rfl rfl rfl rfl rfl rfl rfl rfl ?_) | refine sops_go rfl (so_fieldAddr (v := .pe _ _ _ _ _) rfl rfl rfl rfl rfl rfl rfl rfl rfl rfl ?_)
      first | refine sops_go rfl (so_load (v := .d _) rfl rfl rfl rfl rfl rfl rfl rfl ?_) | refine sops_go rfl (so_load (v := .own _ _ _ _ _) rfl rfl rfl rfl rfl rfl rfl rfl ?_)
      refine sops_go rfl (st_call rfl rfl (containsFuncV_pure s list 60 [] (fun x => !x.formed) hrec rfl) ⟨na_d _, na_free rfl, trivial⟩ rfl ?_)
      refine sops_go rfl (st_not rfl rfl rfl ?_)
      refine sops_go rfl (st_assign (v := .d _) rfl rfl rfl ?_)
      refine sops_nil ?_
      refine swp_ret ?_
      exact fin_b rfl rfl hP
end Go.Proofs.YtdcpnpcmgfmenaaDoor
