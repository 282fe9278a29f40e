/-
  The law TypesOrders of the given program: for every input that the row speaks of the call returns true, and each argument reads afterwards as it read before. Conditions: the row's own (the listed variables read as the program's text lays them).
-/
import Derived.Test.YtdcpnpcmgfmenaaDoorM4
import Derived.Deep.Slices
import Derived.LaidMore
import Derived.OpenShut
import Derived.Test.YtdcpnpcmgfmenaaDoorRows
import Derived.ProofKit
import Derived.Lay
import Derived.Below
import Derived.SizedLaws
import Derived.SevenTiedAt
import Derived.Stop.Joined
import Derived.Test.YtdcpnpcmgfmenaaDoorTie
import Derived.Test.YtdcpnpcmgfmenaaDoorCards
set_option linter.unusedVariables false
set_option linter.unusedSimpArgs false
/-
  Walks: the document's own answer: names, Formed, Check. Conditions: none.
-/
set_option linter.unusedVariables false
set_option maxRecDepth 100000
namespace Go.Proofs.YtdcpnpcmgfmenaaDoor
open Go Go.Proofs.YtdcpnpcmgfmenaaDoor.Lg

theorem placesFrom_full : ∀ (l : List ByteArray) (i : Nat) (es : List (ByteArray × Nat)), l.Nodup → (∀ s ∈ l, ∀ p ∈ es, p.1 ≠ s) → (placesFrom l i es).length = es.length + l.length
  | [], i, es, _, _ => by simp [placesFrom]
  | s :: r, i, es, hn, hd => by
    have hn' := List.nodup_cons.1 hn
    rw [placesFrom, mput_new es s i (hd s (by simp)), placesFrom_full r (i + 1) _ hn'.2 (by
      intro x hx p hp
      rcases List.mem_append.1 hp with hp | hp
      · exact hd x (by simp [hx]) p hp
      · simp at hp; subst hp
        intro e
        have e : s = x := e
        exact hn'.1 (e ▸ hx))]
    simp; omega
theorem placesOf_full {l : List ByteArray} (h : l.Nodup) : (placesOf l).length = l.length := by
  have := placesFrom_full l 0 [] h (by simp)
  simpa [placesOf] using this
def rnamesOk (l : List ByteArray) : Bool := ((placesOf l).length == l.length) && !(l.any fun n => !utfOk n)
theorem rnamesOk_no {l : List ByteArray} {k : Nat} (hk : k < l.length) (h : utfOk l[k] = false ∨ l[k] ∈ l.take k) : rnamesOk l = false := by
  refine Bool.eq_false_iff.2 fun e => ?_
  unfold rnamesOk at e
  simp only [Bool.and_eq_true, beq_iff_eq] at e
  rcases h with h | h
  · have := any_get (fun n => !utfOk n) l k hk (by simp [h])
    rw [this] at e; simp at e
  · have hn := placesOf_nd e.1
    obtain ⟨j, hj, ej⟩ := List.mem_iff_getElem.1 h
    rw [List.getElem_take] at ej
    have := nd_inj hn (List.getElem?_eq_some_iff.2 ⟨by simp at hj; omega, ej⟩) (List.getElem?_eq_getElem hk)
    simp at hj; omega
theorem rnamesOk_yes {l : List ByteArray} (h : ∀ (k : Nat) (hk : k < l.length), utfOk l[k] = true ∧ l[k] ∉ l.take k) : rnamesOk l = true := by
  have hn : l.Nodup := by
    refine List.pairwise_iff_getElem.2 fun i j hi hj hij e => ?_
    refine (h j hj).2 (List.mem_iff_getElem.2 ⟨i, by simp; omega, ?_⟩)
    rw [List.getElem_take]; exact e
  unfold rnamesOk
  rw [placesOf_full hn]
  simp only [beq_self_eq_true, Bool.true_and, Bool.not_eq_true']
  refine List.any_eq_false.2 fun x hx => ?_
  obtain ⟨k, hk, rfl⟩ := List.mem_iff_getElem.1 hx
  simp [(h k hk).1]
theorem spot_mem (l : List ByteArray) (s : ByteArray) : decide (spot l s ≥ 0) = true ↔ s ∈ l := by
  have := firstAt_any (fun y : ByteArray => y.toList == s.toList) l 0 (by omega)
  unfold spot
  rw [this]
  simp only [List.any_eq_true]
  constructor
  · rintro ⟨x, hx, e⟩; exact (strEq_iff x s).1 e ▸ hx
  · intro h; exact ⟨s, h, beq_self_eq_true _⟩

theorem rnames_pure (s : Bool) (l : List ByteArray) (hf : ∀ n ∈ l, fits n) : Pure env 51 [.d (.sl s (strRows l))] (.d (.v (.bool (rnamesOk l)))) := by
  refine pure_of_body Tryd.func51 rfl rfl rfl fun B hB => ?_
  refine swp_seq ?_
  refine swp_region ?_
  refine sops_go rfl (st_assign (v := .d _) rfl rfl rfl ?_)
  refine sops_nil ?_
  refine swp_seq ?_
  refine swp_seq ?_
  refine swp_region ?_
  refine sops_go rfl (st_assign (v := .d _) rfl rfl rfl ?_)
  refine sops_nil ?_
  refine swp_block ?_
  refine swp_lenT (i := 0) rfl fun hlen => ?_
  rw [strRows_len] at hlen
  refine swp_loopF (F := fun k : Nat => { t := upd (upd (fun _ => .any) 0 (.d (.sl s (strRows l)))) 3 (.d (.v (.int .i64 k))), n := 27, h := fun _ => .dead, nx := 0 })
    (fun k => k ≤ l.length ∧ ∀ (j : Nat) (hj : j < l.length), j < k → utfOk l[j] = true ∧ l[j] ∉ l.take j) (fun k => l.length - k) 0 ⟨Nat.zero_le _, fun _ _ h => by omega⟩ ?_ ?_
  · refine wk_of rfl (Nat.le_of_ble_eq_true rfl) (by rw [hB]; exact Nat.zero_le _) (tle_upd (le_eq rfl rfl) (tle_upd (le_eq rfl rfl) (tle_any _))) (hle_dead _) (dead_none)
  rintro k ⟨hk, ha⟩
  have hk : k ≤ l.length := hk
  refine swp_seq ?_
  refine swp_seq ?_
  refine swp_region ?_
  refine sops_go rfl (st_move (v := .d _) rfl rfl rfl ?_)
  first | refine sops_go rfl (st_move (v := .d _) rfl rfl rfl ?_) | refine sops_go rfl (st_move (v := .own _ _ _ _ _) rfl rfl rfl ?_)
  refine sops_go rfl (so_lenSl rfl rfl rfl rfl rfl ?_)
  refine sops_go rfl (st_bin rfl rfl rfl rfl rfl ?_)
  refine sops_nil ?_
  refine swp_cond _ rfl (fun hc7 => ?_) (fun hc7 => ?_)
  · have hlt : k < l.length := by have := of_decide_eq_true hc7; rw [strRows_len] at this; omega
    have hv := uvalid_pure l[k] (hf _ (List.getElem_mem hlt))
    rw [uvalid_utf] at hv
    have hpl := rplace_pure s (l.take k) l[k]
    have hsp := spot_mem (l.take k) l[k]
    have hno := fun h => rnamesOk_no hlt h
    refine swp_skip ?_
    refine swp_seq ?_
    refine swp_block ?_
    refine swp_seq ?_
    refine swp_regionQ 14 (by kernel_rfl) rfl rfl rfl ?_
    first | refine h0_go rfl (st_move (v := .d _) rfl rfl rfl ⟨_, rfl, ?_⟩) | refine h0_go rfl (st_move (v := .own _ _ _ _ _) rfl rfl rfl ⟨_, rfl, ?_⟩)
    refine h0_go rfl (st_move (v := .d _) rfl rfl rfl ⟨_, rfl, ?_⟩)
    refine h0_go rfl (so_indexSl rfl rfl rfl rfl rfl rfl rfl (strRows_all _) (by omega) (by rw [strRows_len]; omega) (strRows_get _ _ hlt) ⟨_, rfl, ?_⟩)
    refine h0_go rfl (so_load (v := .d _) rfl rfl rfl rfl rfl rfl rfl rfl ⟨_, rfl, ?_⟩)
    refine h0_go rfl (st_call rfl rfl (hv) ⟨na_d _, trivial⟩ rfl ⟨_, rfl, ?_⟩)
    refine h0_go rfl (st_not rfl rfl rfl ⟨_, rfl, ?_⟩)
    refine h0_go rfl (st_move (v := .d _) rfl rfl rfl ⟨_, rfl, ?_⟩)
    refine h0_case 16 rfl (fun hb16 => ?_) (fun hb16 => ?_)
    · refine h0_no rfl rfl rfl rfl rfl ?_
      refine h0_no rfl rfl rfl rfl rfl ?_
      refine h0_no rfl rfl rfl rfl rfl ?_
      refine h0_no rfl rfl rfl rfl rfl ?_
      refine h0_no rfl rfl rfl rfl rfl ?_
      refine h0_no rfl rfl rfl rfl rfl ?_
      refine h0_no rfl rfl rfl rfl rfl ?_
      refine h0_nil ?_
      refine sops_no rfl rfl rfl rfl rfl ?_
      refine sops_no rfl rfl rfl rfl rfl ?_
      refine sops_go rfl (st_pick (v := .d _) rfl rfl rfl rfl ?_)
      refine sops_nil ?_
      refine swp_condT rfl ?_
      refine swp_seq ?_
      refine swp_region ?_
      refine sops_go rfl (st_assign (v := .d _) rfl rfl rfl ?_)
      refine sops_nil ?_
      refine swp_ret ?_
      with_reducible refine inblk_ret ?_
      with_reducible refine after_ret ?_
      with_reducible refine after_ret ?_
      with_reducible refine inblk_ret ?_
      with_reducible refine after_ret ?_
      exact fin_b rfl rfl (hno (.inl (by simpa using hb16)))
    · first | refine h0_yes rfl rfl rfl rfl (st_move (v := .d _) rfl rfl rfl ⟨_, rfl, ?_⟩) | refine h0_yes rfl rfl rfl rfl (st_move (v := .own _ _ _ _ _) rfl rfl rfl ⟨_, rfl, ?_⟩)
      refine h0_yes rfl rfl rfl rfl (st_move (v := .d _) rfl rfl rfl ⟨_, rfl, ?_⟩)
      refine h0_yes rfl rfl rfl rfl (so_cutD rfl rfl rfl rfl rfl rfl rfl rfl (strRows_all _) (by omega) (by omega) (by rw [strRows_len]; omega) (fs := strRows (l.take k)) (by simp [strRows]) ⟨_, rfl, ?_⟩)
      first | refine h0_yes rfl rfl rfl rfl (st_move (v := .d _) rfl rfl rfl ⟨_, rfl, ?_⟩) | refine h0_yes rfl rfl rfl rfl (st_move (v := .own _ _ _ _ _) rfl rfl rfl ⟨_, rfl, ?_⟩)
      refine h0_yes rfl rfl rfl rfl (st_move (v := .d _) rfl rfl rfl ⟨_, rfl, ?_⟩)
      refine h0_yes rfl rfl rfl rfl (so_indexSl rfl rfl rfl rfl rfl rfl rfl (strRows_all _) (by omega) (by rw [strRows_len]; omega) (strRows_get _ _ hlt) ⟨_, rfl, ?_⟩)
      refine h0_yes rfl rfl rfl rfl (so_load (v := .d _) rfl rfl rfl rfl rfl rfl rfl rfl ⟨_, rfl, ?_⟩)
      refine h0_nil ?_
      refine sops_yes rfl rfl rfl rfl (st_call rfl rfl (hpl) ⟨na_d _, na_d _, trivial⟩ rfl ?_)
      refine sops_yes rfl rfl rfl rfl (st_bin rfl rfl rfl rfl rfl ?_)
      refine sops_go rfl (st_pick (v := .d _) rfl rfl rfl rfl ?_)
      refine sops_nil ?_
      refine swp_cond _ rfl (fun hc26 => ?_) (fun hc26 => ?_)
      · refine swp_seq ?_
        refine swp_region ?_
        refine sops_go rfl (st_assign (v := .d _) rfl rfl rfl ?_)
        refine sops_nil ?_
        refine swp_ret ?_
        with_reducible refine inblk_ret ?_
        with_reducible refine after_ret ?_
        with_reducible refine after_ret ?_
        with_reducible refine inblk_ret ?_
        with_reducible refine after_ret ?_
        exact fin_b rfl rfl (hno (.inr (hsp.1 hc26)))
      · refine swp_skip ?_
        refine swp_region ?_
        refine sops_go rfl (st_move (v := .d _) rfl rfl rfl ?_)
        refine sops_go rfl (st_bin rfl rfl rfl rfl rfl ?_)
        refine sops_go rfl (st_assign (v := .d _) rfl rfl rfl ?_)
        refine sops_nil ?_
        have hc : ¬ l[k] ∈ l.take k := fun h => by have h := hsp.2 h; have h : decide (firstAt (fun y => y.toList == l[k].toList) (l.take k) 0 ≥ 0) = true := h; rw [show decide (firstAt (fun y => y.toList == l[k].toList) (l.take k) 0 ≥ 0) = false from hc26] at h; cases h
        refine ⟨k + 1, ⟨hlt, fun j hj h => ?_⟩, by omega, ?_⟩
        · rcases Nat.lt_or_ge j k with h1 | h1
          · exact ha j hj h1
          · obtain rfl : j = k := by omega
            exact ⟨by simpa using hb16, hc⟩
        refine wk_of rfl (Nat.le_of_ble_eq_true rfl) (by rw [hB]; exact Nat.zero_le _) (tle_upd (le_eq (next_i64 hlt hlen) rfl) (tle_upd (le_eq rfl rfl) (tle_any _))) (hle_dead _) (dead_none)
  · have he : l.length ≤ k := by have := of_decide_eq_false hc7; rw [strRows_len] at this; omega
    refine swp_exit ?_
    with_reducible refine after_exit ?_
    with_reducible refine after_exit ?_
    refine inblk_hit ?_
    refine swp_seq ?_
    refine swp_region ?_
    refine sops_go rfl (st_assign (v := .d _) rfl rfl rfl ?_)
    refine sops_nil ?_
    refine swp_ret ?_
    exact fin_b rfl rfl (rnamesOk_yes fun j hj => ha j hj (by omega))

theorem rformed_pure (t : T) : t.fit → ∀ s, Pure env 35 [.d (t.df s)] (.d (.v (.bool t.formed))) := by
  revert t
  apply T.ind
  intro kind names list ih hfit s
  have hfn := hfit.1
  have hfl := (T.fitL_iff list).1 hfit.2
  have hnames := rnames_pure s names hfn
  have h9 : kind = 9 → (T.mk kind names list).formed = (((((strRows names).length : Int) == 0) && (((T.rows list).length : Int) == 1)) && T.formedL list) := fun h => by
    rw [T.formed, if_pos h, strRows_len, T.rows_len]
    congr 2 <;> rw [Bool.eq_iff_iff] <;> simp <;> omega
  have h10 : kind = 10 ∨ kind = 11 → (T.mk kind names list).formed = (((((strRows names).length : Int) == ((T.rows list).length : Int)) && rnamesOk names) && T.formedL list) := fun h => by
    rw [T.formed, if_neg (by omega), if_pos h, strRows_len, T.rows_len]
    congr 1
    unfold rnamesOk
    rw [Bool.and_assoc]
    congr 1
    rw [Bool.eq_iff_iff]; simp; omega
  have h0 : ¬ kind = 9 → ¬ (kind = 10 ∨ kind = 11) → (decide (kind ≥ 1) && decide (kind ≤ 8)) = true → (T.mk kind names list).formed = (((((strRows names).length : Int) == 0) && (((T.rows list).length : Int) == 0)) && T.formedL list) := fun h1 h2 h3 => by
    rw [T.formed, if_neg h1, if_neg h2, strRows_len, T.rows_len]
    rw [show (decide (1 ≤ kind) && decide (kind ≤ 8)) = true from h3, Bool.true_and]
    cases list with
    | nil =>
      rw [T.formedL, Bool.and_true, Bool.eq_iff_iff]; simp
    | cons x r =>
      have e1 : (names.length + (x :: r).length == 0) = false := by simp
      have e2 : ((((x :: r).length : Nat) : Int) == 0) = false := by
        refine Bool.eq_false_iff.2 fun e => ?_
        have := eq_of_beq e
        simp at this; omega
      rw [e1, e2, Bool.and_false, Bool.false_and]
  have hx : ¬ kind = 9 → ¬ (kind = 10 ∨ kind = 11) → (decide (kind ≥ 1) && decide (kind ≤ 8)) = false → (T.mk kind names list).formed = (false && T.formedL list) := fun h1 h2 h3 => by
    rw [T.formed, if_neg h1, if_neg h2]
    rw [show (decide (1 ≤ kind) && decide (kind ≤ 8)) = false from h3]; rfl
  refine pure_of_body Tryd.func35 rfl rfl rfl fun B hB => ?_
  refine swp_seq ?_
  refine swp_region ?_
  refine sops_go rfl (so_box (cs := [_, _, _]) rfl rfl rfl ?_)
  refine sops_go rfl (st_assign (v := .d _) rfl rfl rfl ?_)
  refine sops_nil ?_
  refine swp_seq ?_
  refine swp_region ?_
  refine sops_go rfl (st_assign (v := .d _) rfl rfl rfl ?_)
  refine sops_nil ?_
  refine swp_seqF (F := fun ok : Bool => ({ t := upd (upd (fun _ => .any) 1 (.p 0 0 0)) 3 (.d (.v (.bool ok))), n := 76, h := upd (fun _ => .dead) 0 (.cells [.any, .any, .d (.sl s (T.rows list))]), nx := 1 } : St)) (P := fun ok => (T.mk kind names list).formed = (ok && T.formedL list)) ?_ ?_
  · refine swp_block ?_
    refine swp_seq ?_
    refine swp_region ?_
    first | refine sops_go rfl (so_fieldAddr (v := .p _ _ _) rfl rfl rfl rfl rfl rfl rfl rfl rfl rfl ?_) | refine sops_go rfl (so_fieldAddr (v := .dp _ _) rfl rfl rfl rfl rfl rfl rfl rfl rfl rfl ?_) | refine sops_go rfl (so_fieldAddr (v := .pe _ _ _ _ _) rfl rfl rfl rfl rfl rfl rfl rfl rfl rfl ?_)
    refine sops_go rfl (so_load (v := .d _) rfl rfl rfl rfl rfl rfl rfl rfl ?_)
    refine sops_go rfl (st_bin rfl rfl rfl rfl rfl ?_)
    refine sops_go rfl (st_assign (v := .d _) rfl rfl rfl ?_)
    refine sops_nil ?_
    refine swp_cond _ rfl (fun hc5 => ?_) (fun hc5 => ?_)
    · have hS := h9 (by simpa using hc5)
      refine swp_region ?_
      first | refine sops_go rfl (so_fieldAddr (v := .p _ _ _) rfl rfl rfl rfl rfl rfl rfl rfl rfl rfl ?_) | refine sops_go rfl (so_fieldAddr (v := .dp _ _) rfl rfl rfl rfl rfl rfl rfl rfl rfl rfl ?_) | refine sops_go rfl (so_fieldAddr (v := .pe _ _ _ _ _) rfl rfl rfl rfl rfl rfl rfl rfl rfl rfl ?_)
      first | refine sops_go rfl (so_load (v := .d _) rfl rfl rfl rfl rfl rfl rfl rfl ?_) | refine sops_go rfl (so_load (v := .own _ _ _ _ _) rfl rfl rfl rfl rfl rfl rfl rfl ?_)
      refine sops_go rfl (so_lenSl rfl rfl rfl rfl rfl ?_)
      refine sops_go rfl (st_bin rfl rfl rfl rfl rfl ?_)
      refine sops_go rfl (st_move (v := .d _) rfl rfl rfl ?_)
      refine' sops_and (d := 13) (p := 18) [14, 15, 16, 17] 5 rfl rfl rfl (fun hb13 => ?a13) (fun hb13 => ?b13) ?_
      case a13 =>
        first | refine sops_yes rfl rfl rfl rfl (so_fieldAddr (v := .p _ _ _) rfl rfl rfl rfl rfl rfl rfl rfl rfl rfl ?_) | refine sops_yes rfl rfl rfl rfl (so_fieldAddr (v := .dp _ _) rfl rfl rfl rfl rfl rfl rfl rfl rfl rfl ?_) | refine sops_yes rfl rfl rfl rfl (so_fieldAddr (v := .pe _ _ _ _ _) rfl rfl rfl rfl rfl rfl rfl rfl rfl rfl ?_)
        first | refine sops_yes rfl rfl rfl rfl (so_load (v := .d _) rfl rfl rfl rfl rfl rfl rfl rfl ?_) | refine sops_yes rfl rfl rfl rfl (so_load (v := .own _ _ _ _ _) rfl rfl rfl rfl rfl rfl rfl rfl ?_)
        refine sops_yes rfl rfl rfl rfl (so_lenSl rfl rfl rfl rfl rfl ?_)
        refine sops_yes rfl rfl rfl rfl (st_bin rfl rfl rfl rfl rfl ?_)
        refine sops_go rfl (st_pick (v := .d _) rfl rfl rfl rfl ?_)
        refine sops_nil ?_
        exact ⟨rfl, rfl, rfl, rfl, [_, _, _, _], rfl, rfl⟩
      case b13 =>
        refine sops_no rfl rfl rfl rfl rfl ?_
        refine sops_no rfl rfl rfl rfl rfl ?_
        refine sops_no rfl rfl rfl rfl rfl ?_
        refine sops_no rfl rfl rfl rfl rfl ?_
        refine sops_go rfl (st_pick (v := .d _) rfl rfl rfl rfl ?_)
        refine sops_nil ?_
        exact ⟨rfl, rfl, rfl, rfl, [_, _, _, _], rfl, rfl⟩
      refine sops_go rfl (st_assign (v := .d _) rfl rfl rfl ?_)
      refine sops_nil ?_
      refine ⟨_, hS, ?_⟩
      refine wk_of rfl (Nat.le_of_ble_eq_true rfl) (by rw [hB]; exact Nat.zero_le _) (tle_upd (le_eq rfl rfl) (tle_upd (le_eq rfl rfl) (tle_any _))) (hle_upd (.cells _ _ ⟨le_any _, le_any _, le_eq rfl rfl, trivial⟩) (hle_dead _)) (dead_upd (Nat.le_of_ble_eq_true rfl) (dead_none))
    · refine swp_seq ?_
      refine swp_region ?_
      first | refine sops_go rfl (so_fieldAddr (v := .p _ _ _) rfl rfl rfl rfl rfl rfl rfl rfl rfl rfl ?_) | refine sops_go rfl (so_fieldAddr (v := .dp _ _) rfl rfl rfl rfl rfl rfl rfl rfl rfl rfl ?_) | refine sops_go rfl (so_fieldAddr (v := .pe _ _ _ _ _) rfl rfl rfl rfl rfl rfl rfl rfl rfl rfl ?_)
      refine sops_go rfl (so_load (v := .d _) rfl rfl rfl rfl rfl rfl rfl rfl ?_)
      refine sops_go rfl (st_bin rfl rfl rfl rfl rfl ?_)
      refine sops_go rfl (st_move (v := .d _) rfl rfl rfl ?_)
      refine' sops_or (d := 23) (p := 27) [24, 25, 26] 4 rfl rfl rfl (fun hb23 => ?a23) (fun hb23 => ?b23) ?_
      case a23 =>
        first | refine sops_yes rfl rfl rfl rfl (so_fieldAddr (v := .p _ _ _) rfl rfl rfl rfl rfl rfl rfl rfl rfl rfl ?_) | refine sops_yes rfl rfl rfl rfl (so_fieldAddr (v := .dp _ _) rfl rfl rfl rfl rfl rfl rfl rfl rfl rfl ?_) | refine sops_yes rfl rfl rfl rfl (so_fieldAddr (v := .pe _ _ _ _ _) rfl rfl rfl rfl rfl rfl rfl rfl rfl rfl ?_)
        refine sops_yes rfl rfl rfl rfl (so_load (v := .d _) rfl rfl rfl rfl rfl rfl rfl rfl ?_)
        refine sops_yes rfl rfl rfl rfl (st_bin rfl rfl rfl rfl rfl ?_)
        refine sops_go rfl (st_pick (v := .d _) rfl rfl rfl rfl ?_)
        refine sops_nil ?_
        exact ⟨rfl, rfl, rfl, rfl, [_, _, _], rfl, rfl⟩
      case b23 =>
        refine sops_no rfl rfl rfl rfl rfl ?_
        refine sops_no rfl rfl rfl rfl rfl ?_
        refine sops_no rfl rfl rfl rfl rfl ?_
        refine sops_go rfl (st_pick (v := .d _) rfl rfl rfl rfl ?_)
        refine sops_nil ?_
        exact ⟨rfl, rfl, rfl, rfl, [_, _, _], rfl, rfl⟩
      refine sops_go rfl (st_assign (v := .d _) rfl rfl rfl ?_)
      refine sops_nil ?_
      refine swp_cond _ rfl (fun hc19 => ?_) (fun hc19 => ?_)
      · have hS := h10 (by simpa using hc19)
        refine swp_region ?_
        first | refine sops_go rfl (so_fieldAddr (v := .p _ _ _) rfl rfl rfl rfl rfl rfl rfl rfl rfl rfl ?_) | refine sops_go rfl (so_fieldAddr (v := .dp _ _) rfl rfl rfl rfl rfl rfl rfl rfl rfl rfl ?_) | refine sops_go rfl (so_fieldAddr (v := .pe _ _ _ _ _) rfl rfl rfl rfl rfl rfl rfl rfl rfl rfl ?_)
        first | refine sops_go rfl (so_load (v := .d _) rfl rfl rfl rfl rfl rfl rfl rfl ?_) | refine sops_go rfl (so_load (v := .own _ _ _ _ _) rfl rfl rfl rfl rfl rfl rfl rfl ?_)
        refine sops_go rfl (so_lenSl rfl rfl rfl rfl rfl ?_)
        first | refine sops_go rfl (so_fieldAddr (v := .p _ _ _) rfl rfl rfl rfl rfl rfl rfl rfl rfl rfl ?_) | refine sops_go rfl (so_fieldAddr (v := .dp _ _) rfl rfl rfl rfl rfl rfl rfl rfl rfl rfl ?_) | refine sops_go rfl (so_fieldAddr (v := .pe _ _ _ _ _) rfl rfl rfl rfl rfl rfl rfl rfl rfl rfl ?_)
        first | refine sops_go rfl (so_load (v := .d _) rfl rfl rfl rfl rfl rfl rfl rfl ?_) | refine sops_go rfl (so_load (v := .own _ _ _ _ _) rfl rfl rfl rfl rfl rfl rfl rfl ?_)
        refine sops_go rfl (so_lenSl rfl rfl rfl rfl rfl ?_)
        refine sops_go rfl (st_bin rfl rfl rfl rfl rfl ?_)
        refine sops_go rfl (st_move (v := .d _) rfl rfl rfl ?_)
        refine' sops_and (d := 35) (p := 39) [36, 37, 38] 4 rfl rfl rfl (fun hb35 => ?a35) (fun hb35 => ?b35) ?_
        case a35 =>
          first | refine sops_yes rfl rfl rfl rfl (so_fieldAddr (v := .p _ _ _) rfl rfl rfl rfl rfl rfl rfl rfl rfl rfl ?_) | refine sops_yes rfl rfl rfl rfl (so_fieldAddr (v := .dp _ _) rfl rfl rfl rfl rfl rfl rfl rfl rfl rfl ?_) | refine sops_yes rfl rfl rfl rfl (so_fieldAddr (v := .pe _ _ _ _ _) rfl rfl rfl rfl rfl rfl rfl rfl rfl rfl ?_)
          first | refine sops_yes rfl rfl rfl rfl (so_load (v := .d _) rfl rfl rfl rfl rfl rfl rfl rfl ?_) | refine sops_yes rfl rfl rfl rfl (so_load (v := .own _ _ _ _ _) rfl rfl rfl rfl rfl rfl rfl rfl ?_)
          refine sops_yes rfl rfl rfl rfl (st_call rfl rfl (hnames) ⟨na_d _, trivial⟩ rfl ?_)
          refine sops_go rfl (st_pick (v := .d _) rfl rfl rfl rfl ?_)
          refine sops_nil ?_
          exact ⟨rfl, rfl, rfl, rfl, [_, _, _], rfl, rfl⟩
        case b35 =>
          refine sops_no rfl rfl rfl rfl rfl ?_
          refine sops_no rfl rfl rfl rfl rfl ?_
          refine sops_no rfl rfl rfl rfl rfl ?_
          refine sops_go rfl (st_pick (v := .d _) rfl rfl rfl rfl ?_)
          refine sops_nil ?_
          exact ⟨rfl, rfl, rfl, rfl, [_, _, _], rfl, rfl⟩
        refine sops_go rfl (st_assign (v := .d _) rfl rfl rfl ?_)
        refine sops_nil ?_
        refine ⟨_, hS, ?_⟩
        refine wk_of rfl (Nat.le_of_ble_eq_true rfl) (by rw [hB]; exact Nat.zero_le _) (tle_upd (le_eq rfl rfl) (tle_upd (le_eq rfl rfl) (tle_any _))) (hle_upd (.cells _ _ ⟨le_any _, le_any _, le_eq rfl rfl, trivial⟩) (hle_dead _)) (dead_upd (Nat.le_of_ble_eq_true rfl) (dead_none))
      · refine swp_seq ?_
        refine swp_region ?_
        first | refine sops_go rfl (so_fieldAddr (v := .p _ _ _) rfl rfl rfl rfl rfl rfl rfl rfl rfl rfl ?_) | refine sops_go rfl (so_fieldAddr (v := .dp _ _) rfl rfl rfl rfl rfl rfl rfl rfl rfl rfl ?_) | refine sops_go rfl (so_fieldAddr (v := .pe _ _ _ _ _) rfl rfl rfl rfl rfl rfl rfl rfl rfl rfl ?_)
        refine sops_go rfl (so_load (v := .d _) rfl rfl rfl rfl rfl rfl rfl rfl ?_)
        refine sops_go rfl (st_bin rfl rfl rfl rfl rfl ?_)
        refine sops_go rfl (st_move (v := .d _) rfl rfl rfl ?_)
        refine' sops_and (d := 44) (p := 48) [45, 46, 47] 4 rfl rfl rfl (fun hb44 => ?a44) (fun hb44 => ?b44) ?_
        case a44 =>
          first | refine sops_yes rfl rfl rfl rfl (so_fieldAddr (v := .p _ _ _) rfl rfl rfl rfl rfl rfl rfl rfl rfl rfl ?_) | refine sops_yes rfl rfl rfl rfl (so_fieldAddr (v := .dp _ _) rfl rfl rfl rfl rfl rfl rfl rfl rfl rfl ?_) | refine sops_yes rfl rfl rfl rfl (so_fieldAddr (v := .pe _ _ _ _ _) rfl rfl rfl rfl rfl rfl rfl rfl rfl rfl ?_)
          refine sops_yes rfl rfl rfl rfl (so_load (v := .d _) rfl rfl rfl rfl rfl rfl rfl rfl ?_)
          refine sops_yes rfl rfl rfl rfl (st_bin rfl rfl rfl rfl rfl ?_)
          refine sops_go rfl (st_pick (v := .d _) rfl rfl rfl rfl ?_)
          refine sops_nil ?_
          exact ⟨rfl, rfl, rfl, rfl, [_, _, _], rfl, rfl⟩
        case b44 =>
          refine sops_no rfl rfl rfl rfl rfl ?_
          refine sops_no rfl rfl rfl rfl rfl ?_
          refine sops_no rfl rfl rfl rfl rfl ?_
          refine sops_go rfl (st_pick (v := .d _) rfl rfl rfl rfl ?_)
          refine sops_nil ?_
          exact ⟨rfl, rfl, rfl, rfl, [_, _, _], rfl, rfl⟩
        refine sops_go rfl (st_assign (v := .d _) rfl rfl rfl ?_)
        refine sops_nil ?_
        refine swp_cond _ rfl (fun hc40 => ?_) (fun hc40 => ?_)
        · have hS := h0 (by simpa using hc5) (by simpa using hc19) hc40
          refine swp_region ?_
          first | refine sops_go rfl (so_fieldAddr (v := .p _ _ _) rfl rfl rfl rfl rfl rfl rfl rfl rfl rfl ?_) | refine sops_go rfl (so_fieldAddr (v := .dp _ _) rfl rfl rfl rfl rfl rfl rfl rfl rfl rfl ?_) | refine sops_go rfl (so_fieldAddr (v := .pe _ _ _ _ _) rfl rfl rfl rfl rfl rfl rfl rfl rfl rfl ?_)
          first | refine sops_go rfl (so_load (v := .d _) rfl rfl rfl rfl rfl rfl rfl rfl ?_) | refine sops_go rfl (so_load (v := .own _ _ _ _ _) rfl rfl rfl rfl rfl rfl rfl rfl ?_)
          refine sops_go rfl (so_lenSl rfl rfl rfl rfl rfl ?_)
          refine sops_go rfl (st_bin rfl rfl rfl rfl rfl ?_)
          refine sops_go rfl (st_move (v := .d _) rfl rfl rfl ?_)
          refine' sops_and (d := 53) (p := 58) [54, 55, 56, 57] 5 rfl rfl rfl (fun hb53 => ?a53) (fun hb53 => ?b53) ?_
          case a53 =>
            first | refine sops_yes rfl rfl rfl rfl (so_fieldAddr (v := .p _ _ _) rfl rfl rfl rfl rfl rfl rfl rfl rfl rfl ?_) | refine sops_yes rfl rfl rfl rfl (so_fieldAddr (v := .dp _ _) rfl rfl rfl rfl rfl rfl rfl rfl rfl rfl ?_) | refine sops_yes rfl rfl rfl rfl (so_fieldAddr (v := .pe _ _ _ _ _) rfl rfl rfl rfl rfl rfl rfl rfl rfl rfl ?_)
            first | refine sops_yes rfl rfl rfl rfl (so_load (v := .d _) rfl rfl rfl rfl rfl rfl rfl rfl ?_) | refine sops_yes rfl rfl rfl rfl (so_load (v := .own _ _ _ _ _) rfl rfl rfl rfl rfl rfl rfl rfl ?_)
            refine sops_yes rfl rfl rfl rfl (so_lenSl rfl rfl rfl rfl rfl ?_)
            refine sops_yes rfl rfl rfl rfl (st_bin rfl rfl rfl rfl rfl ?_)
            refine sops_go rfl (st_pick (v := .d _) rfl rfl rfl rfl ?_)
            refine sops_nil ?_
            exact ⟨rfl, rfl, rfl, rfl, [_, _, _, _], rfl, rfl⟩
          case b53 =>
            refine sops_no rfl rfl rfl rfl rfl ?_
            refine sops_no rfl rfl rfl rfl rfl ?_
            refine sops_no rfl rfl rfl rfl rfl ?_
            refine sops_no rfl rfl rfl rfl rfl ?_
            refine sops_go rfl (st_pick (v := .d _) rfl rfl rfl rfl ?_)
            refine sops_nil ?_
            exact ⟨rfl, rfl, rfl, rfl, [_, _, _, _], rfl, rfl⟩
          refine sops_go rfl (st_assign (v := .d _) rfl rfl rfl ?_)
          refine sops_nil ?_
          refine ⟨_, hS, ?_⟩
          refine wk_of rfl (Nat.le_of_ble_eq_true rfl) (by rw [hB]; exact Nat.zero_le _) (tle_upd (le_eq rfl rfl) (tle_upd (le_eq rfl rfl) (tle_any _))) (hle_upd (.cells _ _ ⟨le_any _, le_any _, le_eq rfl rfl, trivial⟩) (hle_dead _)) (dead_upd (Nat.le_of_ble_eq_true rfl) (dead_none))
        · have hS := hx (by simpa using hc5) (by simpa using hc19) hc40
          refine swp_skip ?_
          refine ⟨_, hS, ?_⟩
          refine wk_of rfl (Nat.le_of_ble_eq_true rfl) (by rw [hB]; exact Nat.zero_le _) (tle_upd (le_eq rfl rfl) (tle_upd (le_eq rfl rfl) (tle_any _))) (hle_upd (.cells _ _ ⟨le_any _, le_any _, le_eq rfl rfl, trivial⟩) (hle_dead _)) (dead_upd (Nat.le_of_ble_eq_true rfl) (dead_none))
  · rintro ok0 hS
    have hS : (T.mk kind names list).formed = (ok0 && T.formedL list) := hS
    refine swp_seq ?_
    refine swp_seq ?_
    refine swp_region ?_
    refine sops_go rfl (st_assign (v := .d _) rfl rfl rfl ?_)
    refine sops_nil ?_
    refine swp_block ?_
    refine swp_len (l := 0) (i := 2) rfl rfl rfl fun hll => ?_
    rw [T.rows_len] at hll
    refine swp_loopF (F := fun p : Nat × Bool => { t := upd (upd (upd (fun _ => .any) 1 (.p 0 0 0)) 3 (.d (.v (.bool p.2)))) 4 (.d (.v (.int .i64 p.1))), n := 76, h := upd (fun _ => .dead) 0 (.cells [.any, .any, .d (.sl s (T.rows list))]), nx := 1 })
      (fun p => p.1 ≤ list.length ∧ (T.mk kind names list).formed = (p.2 && T.formedL (list.drop p.1))) (fun p => list.length - p.1) (0, ok0) ⟨Nat.zero_le _, hS⟩ ?_ ?_
    · refine wk_of rfl (Nat.le_of_ble_eq_true rfl) (by rw [hB]; exact Nat.zero_le _) (tle_upd (le_eq rfl rfl) (tle_upd (le_eq rfl rfl) (tle_upd (le_eq rfl rfl) (tle_any _)))) (hle_upd (.cells _ _ ⟨le_any _, le_any _, le_eq rfl rfl, trivial⟩) (hle_dead _)) (dead_upd (Nat.le_of_ble_eq_true rfl) (dead_none))
    rintro ⟨k, ok⟩ ⟨hk, hS⟩
    have hk : k ≤ list.length := hk
    have hS : (T.mk kind names list).formed = (ok && T.formedL (list.drop k)) := hS
    refine swp_seq ?_
    refine swp_seq ?_
    refine swp_region ?_
    refine sops_go rfl (st_move (v := .d _) rfl rfl rfl ?_)
    first | refine sops_go rfl (so_fieldAddr (v := .p _ _ _) rfl rfl rfl rfl rfl rfl rfl rfl rfl rfl ?_) | refine sops_go rfl (so_fieldAddr (v := .dp _ _) rfl rfl rfl rfl rfl rfl rfl rfl rfl rfl ?_) | refine sops_go rfl (so_fieldAddr (v := .pe _ _ _ _ _) rfl rfl rfl rfl rfl rfl rfl rfl rfl rfl ?_)
    first | refine sops_go rfl (so_load (v := .d _) rfl rfl rfl rfl rfl rfl rfl rfl ?_) | refine sops_go rfl (so_load (v := .own _ _ _ _ _) rfl rfl rfl rfl rfl rfl rfl rfl ?_)
    refine sops_go rfl (so_lenSl rfl rfl rfl rfl rfl ?_)
    refine sops_go rfl (st_bin rfl rfl rfl rfl rfl ?_)
    refine sops_go rfl (st_move (v := .d _) rfl rfl rfl ?_)
    refine' sops_and (d := 64) (p := 66) [65] 2 rfl rfl rfl (fun hb64 => ?a64) (fun hb64 => ?b64) ?_
    case a64 =>
      refine sops_yes rfl rfl rfl rfl (st_move (v := .d _) rfl rfl rfl ?_)
      refine sops_go rfl (st_pick (v := .d _) rfl rfl rfl rfl ?_)
      refine sops_nil ?_
      exact ⟨rfl, rfl, rfl, rfl, [_], rfl, rfl⟩
    case b64 =>
      refine sops_no rfl rfl rfl rfl rfl ?_
      refine sops_go rfl (st_pick (v := .d _) rfl rfl rfl rfl ?_)
      refine sops_nil ?_
      exact ⟨rfl, rfl, rfl, rfl, [_], rfl, rfl⟩
    refine sops_nil ?_
    refine swp_cond _ rfl (fun hc66 => ?_) (fun hc66 => ?_)
    · have hc := Bool.and_eq_true_iff.1 hc66
      have hlt : k < list.length := by have := of_decide_eq_true hc.1; rw [T.rows_len] at this; omega
      have hok : ok = true := hc.2
      rw [hok, Bool.true_and, List.drop_eq_getElem_cons hlt, T.formedL] at hS
      have ihk := ih _ (List.getElem_mem hlt) (hfl _ (List.getElem_mem hlt)) true
      refine swp_skip ?_
      refine swp_seq ?_
      refine swp_block ?_
      refine swp_region ?_
      first | refine sops_go rfl (so_fieldAddr (v := .p _ _ _) rfl rfl rfl rfl rfl rfl rfl rfl rfl rfl ?_) | refine sops_go rfl (so_fieldAddr (v := .dp _ _) rfl rfl rfl rfl rfl rfl rfl rfl rfl rfl ?_) | refine sops_go rfl (so_fieldAddr (v := .pe _ _ _ _ _) rfl rfl rfl rfl rfl rfl rfl rfl rfl rfl ?_)
      first | refine sops_go rfl (so_load (v := .d _) rfl rfl rfl rfl rfl rfl rfl rfl ?_) | refine sops_go rfl (so_load (v := .own _ _ _ _ _) rfl rfl rfl rfl rfl rfl rfl rfl ?_)
      refine sops_go rfl (st_move (v := .d _) rfl rfl rfl ?_)
      refine sops_go rfl (so_indexSl rfl rfl rfl rfl rfl rfl rfl (T.rows_all _) (by omega) (by rw [T.rows_len]; omega) (T.rows_get _ _ hlt) ?_)
      generalize list[k] = x at ihk hS ⊢
      obtain ⟨x1, x2, x3⟩ := x
      first | refine sops_go rfl (so_load (v := .d (.agg [_, _, _])) rfl rfl rfl rfl rfl rfl rfl rfl ?_) | refine sops_go rfl (so_load (v := .agg [_, _, _]) rfl rfl rfl rfl rfl rfl rfl rfl ?_)
      refine sops_go rfl (st_call rfl rfl (ihk) ⟨na_d _, trivial⟩ rfl ?_)
      refine sops_go rfl (st_assign (v := .d _) rfl rfl rfl ?_)
      refine sops_nil ?_
      refine swp_region ?_
      refine sops_go rfl (st_move (v := .d _) rfl rfl rfl ?_)
      refine sops_go rfl (st_bin rfl rfl rfl rfl rfl ?_)
      refine sops_go rfl (st_assign (v := .d _) rfl rfl rfl ?_)
      refine sops_nil ?_
      refine ⟨(k + 1, (T.mk x1 x2 x3).formed), ⟨hlt, hS⟩, by show list.length - (k + 1) < list.length - k; omega, ?_⟩
      refine wk_of rfl (Nat.le_of_ble_eq_true rfl) (by rw [hB]; exact Nat.zero_le _) (tle_upd (le_eq (next_i64 hlt hll) rfl) (tle_upd (le_eq rfl rfl) (tle_upd (le_eq rfl rfl) (tle_any _)))) (hle_upd (.cells _ _ ⟨le_any _, le_any _, le_eq rfl rfl, trivial⟩) (hle_dead _)) (dead_upd (Nat.le_of_ble_eq_true rfl) (dead_none))
    · have hS : (T.mk kind names list).formed = ok := by
        cases ok with
        | false => rw [hS]; rfl
        | true =>
          have hge : list.length ≤ k := by rw [Bool.and_true] at hc66; have := of_decide_eq_false hc66; rw [T.rows_len] at this; omega
          rw [hS, List.drop_of_length_le hge]; rfl
      refine swp_exit ?_
      with_reducible refine after_exit ?_
      with_reducible refine after_exit ?_
      refine inblk_hit ?_
      refine swp_seq ?_
      refine swp_region ?_
      refine sops_go rfl (st_move (v := .d _) rfl rfl rfl ?_)
      refine sops_go rfl (st_assign (v := .d _) rfl rfl rfl ?_)
      refine sops_nil ?_
      refine swp_ret ?_
      exact fin_b rfl rfl hS

theorem rcheck_pure (t : T) (hf : t.fit) (s : Bool) : Pure env 21 [.d (t.df s)] (.d (.v (.int .i64 t.check))) := by
  have c1 := rformed_pure t hf s
  have c2 := rshort_pure t s
  have c3 := rdepth_pure t s
  have c4 := rsize_pure t s
  have hS : t.check = if t.formed = true then (if (!t.span.ok || (decide (t.span.deep > 16) || decide (t.span.many > 4096))) = true then 2 else 0) else 110 := rfl
  generalize t.check = r at *
  generalize t.formed = b1 at *
  generalize t.span.ok = b2 at *
  generalize t.span.deep = b3 at *
  generalize t.span.many = b4 at *
  obtain ⟨kind, names, list⟩ := t
  refine pure_of_body Tryd.func21 rfl rfl rfl fun B hB => ?_
  refine swp_seq ?_
  refine swp_region ?_
  refine sops_go rfl (so_box (cs := [_, _, _]) rfl rfl rfl ?_)
  refine sops_go rfl (st_assign (v := .d _) rfl rfl rfl ?_)
  refine sops_nil ?_
  refine swp_seq ?_
  refine swp_block ?_
  refine swp_seq ?_
  refine swp_region ?_
  first | refine sops_go rfl (so_load (v := .d (.agg [_, _, _])) rfl rfl rfl rfl rfl rfl rfl rfl ?_) | refine sops_go rfl (so_load (v := .agg [_, _, _]) rfl rfl rfl rfl rfl rfl rfl rfl ?_)
  refine sops_go rfl (st_call rfl rfl (c1) ⟨na_d _, trivial⟩ rfl ?_)
  refine sops_go rfl (st_not rfl rfl rfl ?_)
  refine sops_go rfl (st_assign (v := .d _) rfl rfl rfl ?_)
  refine sops_nil ?_
  refine swp_cond _ rfl (fun hc3 => ?_) (fun hc3 => ?_)
  · rw [if_neg (by simpa using hc3)] at hS
    refine swp_seq ?_
    refine swp_region ?_
    refine sops_go rfl (st_assign (v := .d _) rfl rfl rfl ?_)
    refine sops_nil ?_
    refine swp_ret ?_
    with_reducible refine inblk_ret ?_
    with_reducible refine after_ret ?_
    exact fin_i rfl rfl hS
  · rw [if_pos (by simpa using hc3), ← Bool.or_assoc] at hS
    refine swp_seq ?_
    refine swp_region ?_
    first | refine sops_go rfl (so_load (v := .d (.agg [_, _, _])) rfl rfl rfl rfl rfl rfl rfl rfl ?_) | refine sops_go rfl (so_load (v := .agg [_, _, _]) rfl rfl rfl rfl rfl rfl rfl rfl ?_)
    refine sops_go rfl (st_call rfl rfl (c2) ⟨na_d _, trivial⟩ rfl ?_)
    refine sops_go rfl (st_not rfl rfl rfl ?_)
    refine sops_go rfl (st_move (v := .d _) rfl rfl rfl ?_)
    refine' sops_or (d := 11) (p := 15) [12, 13, 14] 4 rfl rfl rfl (fun hb11 => ?a11) (fun hb11 => ?b11) ?_
    case a11 =>
      first | refine sops_yes rfl rfl rfl rfl (so_load (v := .d (.agg [_, _, _])) rfl rfl rfl rfl rfl rfl rfl rfl ?_) | refine sops_yes rfl rfl rfl rfl (so_load (v := .agg [_, _, _]) rfl rfl rfl rfl rfl rfl rfl rfl ?_)
      refine sops_yes rfl rfl rfl rfl (st_call rfl rfl (c3) ⟨na_d _, trivial⟩ rfl ?_)
      refine sops_yes rfl rfl rfl rfl (st_bin rfl rfl rfl rfl rfl ?_)
      refine sops_go rfl (st_pick (v := .d _) rfl rfl rfl rfl ?_)
      refine sops_nil ?_
      exact ⟨rfl, rfl, rfl, rfl, [_, _, _], rfl, rfl⟩
    case b11 =>
      refine sops_no rfl rfl rfl rfl rfl ?_
      refine sops_no rfl rfl rfl rfl rfl ?_
      refine sops_no rfl rfl rfl rfl rfl ?_
      refine sops_go rfl (st_pick (v := .d _) rfl rfl rfl rfl ?_)
      refine sops_nil ?_
      exact ⟨rfl, rfl, rfl, rfl, [_, _, _], rfl, rfl⟩
    refine sops_go rfl (st_move (v := .d _) rfl rfl rfl ?_)
    refine' sops_or (d := 16) (p := 20) [17, 18, 19] 4 rfl rfl rfl (fun hb16 => ?a16) (fun hb16 => ?b16) ?_
    case a16 =>
      first | refine sops_yes rfl rfl rfl rfl (so_load (v := .d (.agg [_, _, _])) rfl rfl rfl rfl rfl rfl rfl rfl ?_) | refine sops_yes rfl rfl rfl rfl (so_load (v := .agg [_, _, _]) rfl rfl rfl rfl rfl rfl rfl rfl ?_)
      refine sops_yes rfl rfl rfl rfl (st_call rfl rfl (c4) ⟨na_d _, trivial⟩ rfl ?_)
      refine sops_yes rfl rfl rfl rfl (st_bin rfl rfl rfl rfl rfl ?_)
      refine sops_go rfl (st_pick (v := .d _) rfl rfl rfl rfl ?_)
      refine sops_nil ?_
      exact ⟨rfl, rfl, rfl, rfl, [_, _, _], rfl, rfl⟩
    case b16 =>
      refine sops_no rfl rfl rfl rfl rfl ?_
      refine sops_no rfl rfl rfl rfl rfl ?_
      refine sops_no rfl rfl rfl rfl rfl ?_
      refine sops_go rfl (st_pick (v := .d _) rfl rfl rfl rfl ?_)
      refine sops_nil ?_
      exact ⟨rfl, rfl, rfl, rfl, [_, _, _], rfl, rfl⟩
    refine sops_go rfl (st_assign (v := .d _) rfl rfl rfl ?_)
    refine sops_nil ?_
    refine swp_cond _ rfl (fun hc7 => ?_) (fun hc7 => ?_)
    · rw [if_pos hc7] at hS
      refine swp_seq ?_
      refine swp_region ?_
      refine sops_go rfl (st_assign (v := .d _) rfl rfl rfl ?_)
      refine sops_nil ?_
      refine swp_ret ?_
      with_reducible refine inblk_ret ?_
      with_reducible refine after_ret ?_
      exact fin_i rfl rfl hS
    · rw [if_neg (by rw [hc7]; simp)] at hS
      refine swp_skip ?_
      refine swp_seq ?_
      refine swp_region ?_
      refine sops_go rfl (st_assign (v := .d _) rfl rfl rfl ?_)
      refine sops_nil ?_
      refine swp_ret ?_
      exact fin_i rfl rfl hS
end Go.Proofs.YtdcpnpcmgfmenaaDoor
/-
  A nil slice in an object of one's own, counted as a growing row. Conditions: none.
-/
set_option linter.unusedVariables false
set_option linter.unusedSimpArgs false
namespace Go.Proofs.YtdcpnpcmgfmenaaDoor.Lg
open Go Go.RowKit

section
variable {E : Env} {B : Base} {σ : St}
theorem wk_virtC (o i e sz : Nat) {cs : List AV} (ho : σ.h o = .cells cs) (hlt : Nat.blt o σ.nx = true) (hi : cs[i]? = some (.d (.v (.slice none 0 0)))) :
    Wk E B σ { σ with h := upd (upd σ.h σ.nx (.arr 0 e sz [])) o (.cells (cs.set i (.own σ.nx 0 sz 0 0))), nx := σ.nx + 1 } := fun g w a hr => by
  have hlt : o < σ.nx := by simpa [Nat.blt_eq] using hlt
  obtain ⟨h1, h2⟩ := rel_virt hr e sz
  have hH : upd σ.h σ.nx (AO.arr 0 e sz []) o = .cells cs := by simp only [upd]; rw [if_neg (by omega)]; exact ho
  have hdead : ∀ l, upd (upd σ.h σ.nx (.arr 0 e sz [])) o (.cells (cs.set i (.own σ.nx 0 sz 0 0))) l ≠ .dead → upd σ.h σ.nx (AO.arr 0 e sz []) l ≠ .dead := by
    intro l hl
    by_cases e' : l = o
    · subst e'; rw [hH]; simp
    · simpa [upd, e'] using hl
  have hown : ∀ b, Owned (g.at σ.nx 0 0 true) (σ.nx + 1) (upd (upd σ.h σ.nx (.arr 0 e sz [])) o (.cells (cs.set i (.own σ.nx 0 sz 0 0)))) b → Owned (g.at σ.nx 0 0 true) (σ.nx + 1) (upd σ.h σ.nx (AO.arr 0 e sz [])) b := by
    rintro b ⟨l, hl, hd, hv, hb⟩
    exact ⟨l, hl, hdead l hd, hv, hb⟩
  refine ⟨_, h1.size, h1.tm, ⟨?_, ?_, ?_, h1.hr.Jlt, h1.hr.IJ, fun b hb ho => h1.hr.dis b hb (hown b ho), h1.hr.gl⟩, ?_, h1.df⟩
  · intro l hl
    by_cases e' : l = o
    · subst e'
      have := h1.hr.hp l hl
      simp only [hH] at this
      obtain ⟨k0, v0, xs, t, hx, hsz, hall⟩ := this
      simp only [upd, if_true]
      refine ⟨k0, v0, xs, t, hx, by simp [hsz], fun j c x hc hxj => ?_⟩
      by_cases e2 : i = j
      · subst e2
        have := vr_val (hall i _ x hi hxj)
        subst this
        have hlen : i < cs.length := (List.getElem?_eq_some_iff.1 hi).1
        rw [List.getElem?_set_self hlen] at hc
        injection hc with hc
        subst hc
        exact h2
      · rw [List.getElem?_set_ne e2] at hc
        exact hall j c x hc hxj
    · have := h1.hr.hp l hl
      simp only [upd, e', if_false] at this ⊢
      exact this
  · intro l hl
    have hl : σ.nx + 1 ≤ l := hl
    have := h1.hr.hd l hl
    simp only [upd] at this ⊢
    rw [if_neg (by omega)]; exact this
  · intro l l' hl hl' hd hd' hv hv' he
    exact h1.hr.inj l l' hl hl' (hdead l hd) (hdead l' hd') hv hv' he
  · have hx := h1.ext
    exact ⟨hx.os, hx.tape, hx.output, hx.size, hx.block, hx.gle, hx.nle, hx.inew, fun b hb => hx.own b (hown b hb)⟩
end
end Go.Proofs.YtdcpnpcmgfmenaaDoor.Lg
/-
  Walks: the document's own answer: Joined, Sub, Join. Conditions: none.
-/
set_option linter.unusedVariables false
set_option maxRecDepth 100000
namespace Go.Proofs.YtdcpnpcmgfmenaaDoor
open Go Go.Proofs.YtdcpnpcmgfmenaaDoor.Lg

def T.rjA (pl : List (ByteArray × Nat)) (lb : List T) : List ByteArray → List T → List ByteArray → List T → Option (List ByteArray × List T)
  | n :: ns, x :: xs, nm, ls => match pget pl n with
    | .none => T.rjA pl lb ns xs (nm ++ [n]) (ls ++ [x])
    | some k => if (lb.getD k .every).sub x = true then T.rjA pl lb ns xs (nm ++ [n]) (ls ++ [x]) else if x.sub (lb.getD k .every) = true then T.rjA pl lb ns xs (nm ++ [n]) (ls ++ [lb.getD k .every]) else .none
  | _, _, nm, ls => some (nm, ls)
def T.rjB (pl : List (ByteArray × Nat)) : List ByteArray → List T → List ByteArray → List T → List ByteArray × List T
  | n :: ns, y :: ys, nm, ls => match pget pl n with
    | .none => T.rjB pl ns ys (nm ++ [n]) (ls ++ [y])
    | some _ => T.rjB pl ns ys nm ls
  | _, _, nm, ls => (nm, ls)
def T.rjoin (a b : T) : T :=
  if a.sub b = true then b else if b.sub a = true then a else if (a.kind != 11 || b.kind != 11) = true then .every
  else T.joinFin ((T.rjA (placesOf b.names) b.list a.names a.list [] []).map fun p => T.rjB (placesOf a.names) b.names b.list p.1 p.2)

structure RJ where
  i : Nat
  nm : List ByteArray
  ls : List T
  v1 : Nat
  v2 : Nat

set_option maxHeartbeats 4000000 in
theorem rjoined_pure (a b : T) (ha : a.formed = true) (hb : b.formed = true) (hfa : a.fit) (hfb : b.fit) (hsa : a.slim) (hsb : b.slim) : Pure env 25 [.d (a.df true), .d (b.df true)] (.d ((a.rjoin b).df true)) := by
  have hsub := rpart_pure a b ha hb
  have hsub' := rpart_pure b a hb ha
  have hS : a.rjoin b = if a.sub b = true then b else if b.sub a = true then a else if (a.kind != 11 || b.kind != 11) = true then .every
    else T.joinFin ((T.rjA (placesOf b.names) b.list a.names a.list [] []).map fun p => T.rjB (placesOf a.names) b.names b.list p.1 p.2) := rfl
  generalize a.sub b = r1 at *
  generalize b.sub a = r2 at *
  generalize a.rjoin b = R at *
  obtain ⟨ka, na, la⟩ := a
  obtain ⟨kb, nb, lb⟩ := b
  have ia := T.inv ha
  have ib := T.inv hb
  obtain ⟨hsa1, hsa2, hsa3⟩ := hsa
  obtain ⟨hsb1, hsb2, hsb3⟩ := hsb
  have hS : R = if r1 = true then .mk kb nb lb else if r2 = true then .mk ka na la else if (ka != 11 || kb != 11) = true then .every else T.joinFin ((T.rjA (placesOf nb) lb na la [] []).map fun p => T.rjB (placesOf na) nb lb p.1 p.2) := hS
  refine pure_of_body Tryd.func25 rfl rfl rfl fun B hB => ?_
  refine swp_seq ?_
  refine swp_region ?_
  refine sops_go rfl (so_box (cs := [_, _, _]) rfl rfl rfl ?_)
  refine sops_go rfl (so_box (cs := [_, _, _]) rfl rfl rfl ?_)
  refine sops_go rfl (so_alloc (cs := [_, _, _]) rfl rfl rfl rfl ?_)
  refine sops_nil ?_
  refine swp_seq ?_
  refine swp_region ?_
  first | refine sops_go rfl (so_build (v := .d (.agg [_, _, _])) rfl rfl rfl rfl rfl rfl rfl ?_) | refine sops_go rfl (so_build (v := .agg [_, _, _]) rfl rfl rfl rfl rfl rfl rfl ?_)
  refine sops_go rfl (so_alloc (cs := [_, _, _]) rfl rfl rfl rfl ?_)
  refine sops_go rfl (so_store rfl rfl rfl rfl rfl rfl rfl rfl rfl (zs := [_, _, _]) rfl ?_)
  refine sops_nil ?_
  refine swp_seq ?_
  refine swp_seq ?_
  refine swp_region ?_
  first | refine sops_go rfl (so_load (v := .d (.agg [_, _, _])) rfl rfl rfl rfl rfl rfl rfl rfl ?_) | refine sops_go rfl (so_load (v := .agg [_, _, _]) rfl rfl rfl rfl rfl rfl rfl rfl ?_)
  first | refine sops_go rfl (so_load (v := .d (.agg [_, _, _])) rfl rfl rfl rfl rfl rfl rfl rfl ?_) | refine sops_go rfl (so_load (v := .agg [_, _, _]) rfl rfl rfl rfl rfl rfl rfl rfl ?_)
  refine sops_go rfl (st_call rfl rfl (hsub) ⟨na_d _, na_d _, trivial⟩ rfl ?_)
  refine sops_nil ?_
  refine swp_cond _ rfl (fun hc14 => ?_) (fun hc14 => ?_)
  · rw [if_pos hc14] at hS
    refine swp_seq ?_
    refine swp_region ?_
    first | refine sops_go rfl (so_load (v := .d (.agg [_, _, _])) rfl rfl rfl rfl rfl rfl rfl rfl ?_) | refine sops_go rfl (so_load (v := .agg [_, _, _]) rfl rfl rfl rfl rfl rfl rfl rfl ?_)
    refine sops_go rfl (so_store rfl rfl rfl rfl rfl rfl rfl rfl rfl (zs := [_, _, _]) rfl ?_)
    refine sops_nil ?_
    refine swp_ret ?_
    with_reducible refine after_ret ?_
    exact fin_c rfl (rc_of rfl rfl rfl rfl rfl (by rw [hS]; exact ra_d (T.keepsD (.mk kb nb lb))))
  · rw [if_neg (by rw [hc14]; simp)] at hS
    refine swp_skip ?_
    refine swp_seq ?_
    refine swp_seq ?_
    refine swp_region ?_
    first | refine sops_go rfl (so_load (v := .d (.agg [_, _, _])) rfl rfl rfl rfl rfl rfl rfl rfl ?_) | refine sops_go rfl (so_load (v := .agg [_, _, _]) rfl rfl rfl rfl rfl rfl rfl rfl ?_)
    first | refine sops_go rfl (so_load (v := .d (.agg [_, _, _])) rfl rfl rfl rfl rfl rfl rfl rfl ?_) | refine sops_go rfl (so_load (v := .agg [_, _, _]) rfl rfl rfl rfl rfl rfl rfl rfl ?_)
    refine sops_go rfl (st_call rfl rfl (hsub') ⟨na_d _, na_d _, trivial⟩ rfl ?_)
    refine sops_nil ?_
    refine swp_cond _ rfl (fun hc18 => ?_) (fun hc18 => ?_)
    · rw [if_pos hc18] at hS
      refine swp_seq ?_
      refine swp_region ?_
      first | refine sops_go rfl (so_load (v := .d (.agg [_, _, _])) rfl rfl rfl rfl rfl rfl rfl rfl ?_) | refine sops_go rfl (so_load (v := .agg [_, _, _]) rfl rfl rfl rfl rfl rfl rfl rfl ?_)
      refine sops_go rfl (so_store rfl rfl rfl rfl rfl rfl rfl rfl rfl (zs := [_, _, _]) rfl ?_)
      refine sops_nil ?_
      refine swp_ret ?_
      with_reducible refine after_ret ?_
      exact fin_c rfl (rc_of rfl rfl rfl rfl rfl (by rw [hS]; exact ra_d (T.keepsD (.mk ka na la))))
    · rw [if_neg (by rw [hc18]; simp)] at hS
      refine swp_skip ?_
      refine swp_seq ?_
      refine swp_seq ?_
      refine swp_region ?_
      first | refine sops_go rfl (so_fieldAddr (v := .p _ _ _) rfl rfl rfl rfl rfl rfl rfl rfl rfl rfl ?_) | refine sops_go rfl (so_fieldAddr (v := .dp _ _) rfl rfl rfl rfl rfl rfl rfl rfl rfl rfl ?_) | refine sops_go rfl (so_fieldAddr (v := .pe _ _ _ _ _) rfl rfl rfl rfl rfl rfl rfl rfl rfl rfl ?_)
      refine sops_go rfl (so_load (v := .d _) rfl rfl rfl rfl rfl rfl rfl rfl ?_)
      refine sops_go rfl (st_bin rfl rfl rfl rfl rfl ?_)
      refine sops_go rfl (st_move (v := .d _) rfl rfl rfl ?_)
      refine' sops_or (d := 23) (p := 27) [24, 25, 26] 4 rfl rfl rfl (fun hb23 => ?a23) (fun hb23 => ?b23) ?_
      case a23 =>
        first | refine sops_yes rfl rfl rfl rfl (so_fieldAddr (v := .p _ _ _) rfl rfl rfl rfl rfl rfl rfl rfl rfl rfl ?_) | refine sops_yes rfl rfl rfl rfl (so_fieldAddr (v := .dp _ _) rfl rfl rfl rfl rfl rfl rfl rfl rfl rfl ?_) | refine sops_yes rfl rfl rfl rfl (so_fieldAddr (v := .pe _ _ _ _ _) rfl rfl rfl rfl rfl rfl rfl rfl rfl rfl ?_)
        refine sops_yes rfl rfl rfl rfl (so_load (v := .d _) rfl rfl rfl rfl rfl rfl rfl rfl ?_)
        refine sops_yes rfl rfl rfl rfl (st_bin rfl rfl rfl rfl rfl ?_)
        refine sops_go rfl (st_pick (v := .d _) rfl rfl rfl rfl ?_)
        refine sops_nil ?_
        exact ⟨rfl, rfl, rfl, rfl, [_, _, _], rfl, rfl⟩
      case b23 =>
        refine sops_no rfl rfl rfl rfl rfl ?_
        refine sops_no rfl rfl rfl rfl rfl ?_
        refine sops_no rfl rfl rfl rfl rfl ?_
        refine sops_go rfl (st_pick (v := .d _) rfl rfl rfl rfl ?_)
        refine sops_nil ?_
        exact ⟨rfl, rfl, rfl, rfl, [_, _, _], rfl, rfl⟩
      refine sops_nil ?_
      refine swp_cond _ rfl (fun hc27 => ?_) (fun hc27 => ?_)
      · rw [if_pos (show (ka != 11 || kb != 11) = true from hc27)] at hS
        refine swp_seq ?_
        refine swp_region ?_
        first | refine sops_go rfl (so_load (v := .d (.agg [_, _, _])) rfl rfl rfl rfl rfl rfl rfl rfl ?_) | refine sops_go rfl (so_load (v := .agg [_, _, _]) rfl rfl rfl rfl rfl rfl rfl rfl ?_)
        refine sops_go rfl (so_store rfl rfl rfl rfl rfl rfl rfl rfl rfl (zs := [_, _, _]) rfl ?_)
        refine sops_nil ?_
        refine swp_ret ?_
        with_reducible refine after_ret ?_
        exact fin_c rfl (rc_of rfl rfl rfl rfl rfl (by rw [hS]; exact ra_dagg ⟨ra_d (keeps_v _), ra_nil, ra_nil, trivial⟩))
      · rw [if_neg (by rw [show (ka != 11 || kb != 11) = false from hc27]; simp)] at hS
        have e23 := Bool.or_eq_false_iff.1 hc27
        have hka : ka = 11 := by simpa using e23.1
        have hkb : kb = 11 := by simpa using e23.2
        have hla := ia.same (.inr hka)
        have hlb := ib.same (.inr hkb)
        have hpa := ia.some (.inr hka)
        have hpb := ib.some (.inr hkb)
        refine swp_skip ?_
        refine swp_seq ?_
        refine swp_region ?_
        first | refine sops_go rfl (so_build (v := .d (.agg [_, _, _])) rfl rfl rfl rfl rfl rfl rfl ?_) | refine sops_go rfl (so_build (v := .agg [_, _, _]) rfl rfl rfl rfl rfl rfl rfl ?_)
        refine sops_go rfl (so_alloc (cs := [_, _, _]) rfl rfl rfl rfl ?_)
        refine sops_go rfl (so_store rfl rfl rfl rfl rfl rfl rfl rfl rfl (zs := [_, _, _]) rfl ?_)
        refine sops_nil ?_
        refine swp_seq ?_
        refine swp_seq ?_
        refine swp_region ?_
        refine sops_go rfl (st_assign (v := .d _) rfl rfl rfl ?_)
        refine sops_nil ?_
        refine swp_block ?_
        refine swp_wk (wk_virtC 4 1 9 1 rfl rfl rfl) ?_
        refine swp_wk (wk_virtC 4 2 26 3 rfl rfl rfl) ?_
        refine swp_loopF (F := fun j : RJ => { t := upd (upd (upd (upd (upd (upd (fun _ => .any) 2 (.p 0 0 0)) 3 (.p 1 0 0)) 4 (.p 2 0 0)) 5 (.p 3 0 0)) 6 (.p 4 0 0)) 7 (.d (.v (.int .i64 j.i))), n := 131, h := upd (upd (upd (upd (upd (upd (upd (fun _ => .dead) 0 (.cells [.any, .d (.sl true (strRows na)), .d (.sl true (T.rows la))])) 1 (.cells [.any, .d (.sl true (strRows nb)), .d (.sl true (T.rows lb))])) 2 (.cells [.any, .any, .any])) 3 (.cells [.d (.v (.int .i64 1)), .d (.v (.slice none 0 0)), .d (.v (.slice none 0 0))])) 4 (.cells [.d (.v (.int .i64 11)), .own 5 j.v1 1 0 (strRows j.nm).length, .own 6 j.v2 3 0 (T.rows j.ls).length])) 5 (.arr j.v1 9 1 ((strRows j.nm).map (·.map .d)))) 6 (.arr j.v2 26 3 ((T.rows j.ls).map (·.map .d))), nx := 7 })
          (fun j => j.i ≤ na.length ∧ JInv 0 j.i j.nm j.ls ∧ R = T.joinFin ((T.rjA (placesOf nb) lb (na.drop j.i) (la.drop j.i) j.nm j.ls).map fun p => T.rjB (placesOf na) nb lb p.1 p.2)) (fun j => na.length - j.i) ⟨0, [], [], 0, 0⟩ ⟨Nat.zero_le _, ⟨Nat.le_refl _, by simp, by simp, by simp, by simp, by simp⟩, hS⟩ ?_ ?_
        · refine wk_of rfl (Nat.le_of_ble_eq_true rfl) (by rw [hB]; exact Nat.zero_le _) (tle_upd (le_eq rfl rfl) (tle_upd (le_eq rfl rfl) (tle_upd (le_eq rfl rfl) (tle_upd (le_eq rfl rfl) (tle_upd (le_eq rfl rfl) (tle_upd (le_eq rfl rfl) (tle_any _))))))) (hle_upd (.arr _ _ _ _ _ (rfl) (rows_bnd _ _)) (hle_upd (.arr _ _ _ _ _ (rfl) (rows_bnd _ _)) (hle_upd (.cells _ _ ⟨le_eq rfl rfl, le_eq rfl rfl, le_eq rfl rfl, trivial⟩) (hle_upd (.cells _ _ ⟨le_eq rfl rfl, le_eq rfl rfl, le_eq rfl rfl, trivial⟩) (hle_upd (.cells _ _ ⟨le_any _, le_any _, le_any _, trivial⟩) (hle_upd (.cells _ _ ⟨le_any _, le_eq rfl rfl, le_eq rfl rfl, trivial⟩) (hle_upd (.cells _ _ ⟨le_any _, le_eq rfl rfl, le_eq rfl rfl, trivial⟩) (hle_dead _)))))))) (dead_upd (Nat.le_of_ble_eq_true rfl) (dead_upd (Nat.le_of_ble_eq_true rfl) (dead_upd (Nat.le_of_ble_eq_true rfl) (dead_upd (Nat.le_of_ble_eq_true rfl) (dead_upd (Nat.le_of_ble_eq_true rfl) (dead_upd (Nat.le_of_ble_eq_true rfl) (dead_upd (Nat.le_of_ble_eq_true rfl) (dead_none))))))))
        rintro ⟨i, nm, ls, v1, v2⟩ ⟨hi, hj, hS⟩
        dsimp only
        have hi : i ≤ na.length := hi
        have hj : JInv 0 i nm ls := hj
        have hS : R = T.joinFin ((T.rjA (placesOf nb) lb (na.drop i) (la.drop i) nm ls).map fun p => T.rjB (placesOf na) nb lb p.1 p.2) := hS
        have hj1 := hj.lo
        have hj2 := hj.hi
        have hj3 := hj.hn
        refine swp_seq ?_
        refine swp_seq ?_
        refine swp_region ?_
        refine sops_go rfl (st_move (v := .d _) rfl rfl rfl ?_)
        first | refine sops_go rfl (so_fieldAddr (v := .p _ _ _) rfl rfl rfl rfl rfl rfl rfl rfl rfl rfl ?_) | refine sops_go rfl (so_fieldAddr (v := .dp _ _) rfl rfl rfl rfl rfl rfl rfl rfl rfl rfl ?_) | refine sops_go rfl (so_fieldAddr (v := .pe _ _ _ _ _) rfl rfl rfl rfl rfl rfl rfl rfl rfl rfl ?_)
        first | refine sops_go rfl (so_load (v := .d _) rfl rfl rfl rfl rfl rfl rfl rfl ?_) | refine sops_go rfl (so_load (v := .own _ _ _ _ _) rfl rfl rfl rfl rfl rfl rfl rfl ?_)
        refine sops_go rfl (so_lenSl rfl rfl rfl rfl rfl ?_)
        refine sops_go rfl (st_bin rfl rfl rfl rfl rfl ?_)
        refine sops_nil ?_
        refine swp_cond _ rfl (fun hc34 => ?_) (fun hc34 => ?_)
        · have hlt : i < na.length := by have := of_decide_eq_true hc34; rw [strRows_len] at this; omega
          have hk2 : i < la.length := by omega
          rw [List.drop_eq_getElem_cons hlt, List.drop_eq_getElem_cons hk2, T.rjA] at hS
          have hxo := ia.all _ (List.getElem_mem hk2)
          have hxf := (T.fitL_iff la).1 hfa.2 _ (List.getElem_mem hk2)
          have hnf := hfa.1 _ (List.getElem_mem hlt)
          have hyr : (strRows na).getD i [] = [.v (.string na[i])] := strRows_get _ _ hlt
          generalize na[i] = name at hS hnf hyr
          have hpl := rplace_pure true nb name
          have hsp : firstAt (fun y => y.toList == name.toList) nb 0 = _ := spot_pget hpb name
          rw [hsp] at hpl
          have hlt3 : ∀ j, pget (placesOf nb) name = some j → j < nb.length := fun j h => pget_lt h
          generalize pget (placesOf nb) name = pg at hS hpl hlt3
          refine swp_skip ?_
          refine swp_seq ?_
          refine swp_block ?_
          refine swp_seq ?_
          refine swp_region ?_
          first | refine sops_go rfl (so_fieldAddr (v := .p _ _ _) rfl rfl rfl rfl rfl rfl rfl rfl rfl rfl ?_) | refine sops_go rfl (so_fieldAddr (v := .dp _ _) rfl rfl rfl rfl rfl rfl rfl rfl rfl rfl ?_) | refine sops_go rfl (so_fieldAddr (v := .pe _ _ _ _ _) rfl rfl rfl rfl rfl rfl rfl rfl rfl rfl ?_)
          first | refine sops_go rfl (so_load (v := .d _) rfl rfl rfl rfl rfl rfl rfl rfl ?_) | refine sops_go rfl (so_load (v := .own _ _ _ _ _) rfl rfl rfl rfl rfl rfl rfl rfl ?_)
          refine sops_go rfl (st_move (v := .d _) rfl rfl rfl ?_)
          refine sops_go rfl (so_indexSl rfl rfl rfl rfl rfl rfl rfl (T.rows_all _) (by omega) (by rw [T.rows_len]; omega) (T.rows_get _ _ hk2) ?_)
          generalize la[i] = x at hS hxo hxf ⊢
          obtain ⟨x1, x2, x3⟩ := x
          first | refine sops_go rfl (so_load (v := .d (.agg [_, _, _])) rfl rfl rfl rfl rfl rfl rfl rfl ?_) | refine sops_go rfl (so_load (v := .agg [_, _, _]) rfl rfl rfl rfl rfl rfl rfl rfl ?_)
          refine sops_go rfl (so_alloc (cs := [_, _, _]) rfl rfl rfl rfl ?_)
          refine sops_go rfl (so_store rfl rfl rfl rfl rfl rfl rfl rfl rfl (zs := [_, _, _]) rfl ?_)
          refine sops_nil ?_
          refine swp_seq ?_
          refine swp_regionQ 7 (by kernel_rfl) rfl rfl rfl ?_
          first | refine h0_go rfl (so_fieldAddr (v := .p _ _ _) rfl rfl rfl rfl rfl rfl rfl rfl rfl rfl ⟨_, rfl, ?_⟩) | refine h0_go rfl (so_fieldAddr (v := .dp _ _) rfl rfl rfl rfl rfl rfl rfl rfl rfl rfl ⟨_, rfl, ?_⟩) | refine h0_go rfl (so_fieldAddr (v := .pe _ _ _ _ _) rfl rfl rfl rfl rfl rfl rfl rfl rfl rfl ⟨_, rfl, ?_⟩)
          first | refine h0_go rfl (so_load (v := .d _) rfl rfl rfl rfl rfl rfl rfl rfl ⟨_, rfl, ?_⟩) | refine h0_go rfl (so_load (v := .own _ _ _ _ _) rfl rfl rfl rfl rfl rfl rfl rfl ⟨_, rfl, ?_⟩)
          first | refine h0_go rfl (so_fieldAddr (v := .p _ _ _) rfl rfl rfl rfl rfl rfl rfl rfl rfl rfl ⟨_, rfl, ?_⟩) | refine h0_go rfl (so_fieldAddr (v := .dp _ _) rfl rfl rfl rfl rfl rfl rfl rfl rfl rfl ⟨_, rfl, ?_⟩) | refine h0_go rfl (so_fieldAddr (v := .pe _ _ _ _ _) rfl rfl rfl rfl rfl rfl rfl rfl rfl rfl ⟨_, rfl, ?_⟩)
          first | refine h0_go rfl (so_load (v := .d _) rfl rfl rfl rfl rfl rfl rfl rfl ⟨_, rfl, ?_⟩) | refine h0_go rfl (so_load (v := .own _ _ _ _ _) rfl rfl rfl rfl rfl rfl rfl rfl ⟨_, rfl, ?_⟩)
          refine h0_go rfl (st_move (v := .d _) rfl rfl rfl ⟨_, rfl, ?_⟩)
          refine h0_go rfl (so_indexSl rfl rfl rfl rfl rfl rfl rfl (strRows_all _) (by omega) (by rw [strRows_len]; omega) hyr ⟨_, rfl, ?_⟩)
          refine h0_go rfl (so_load (v := .d _) rfl rfl rfl rfl rfl rfl rfl rfl ⟨_, rfl, ?_⟩)
          refine h0_nil ?_
          refine sops_go rfl (st_call rfl rfl (hpl) ⟨na_d _, na_d _, trivial⟩ rfl ?_)
          refine sops_go rfl (st_assign (v := .d _) rfl rfl rfl ?_)
          refine sops_nil ?_
          refine swp_seq ?_
          refine swp_seq ?_
          refine swp_region ?_
          refine sops_go rfl (st_move (v := .d _) rfl rfl rfl ?_)
          refine sops_go rfl (st_bin rfl rfl rfl rfl rfl ?_)
          refine sops_nil ?_
          refine swp_cond _ rfl (fun hc51 => ?_) (fun hc51 => ?_)
          · obtain ⟨k, rfl⟩ : ∃ j, pg = some j := by
              cases pg with
              | none => have := of_decide_eq_true hc51; simp [pgI] at this
              | some j => exact ⟨j, rfl⟩
            rw [show pgI (some k) = (k : Int) from rfl]
            have hk : k < lb.length := by have := hlt3 k rfl; omega
            simp only at hS
            rw [show lb.getD k .every = lb[k] by simp [List.getD, hk]] at hS
            have hyo := ib.all _ (List.getElem_mem hk)
            have hyf := (T.fitL_iff lb).1 hfb.2 _ (List.getElem_mem hk)
            have hyr2 : (T.rows lb).getD k [] = (lb[k]).cells := T.rows_get _ _ hk
            generalize lb[k] = y at hS hyo hyf hyr2
            have hs1 := rpart_pure _ _ hyo hxo
            have hs2 := rpart_pure _ _ hxo hyo
            obtain ⟨y1, y2, y3⟩ := y
            refine swp_block ?_
            refine swp_seq ?_
            refine swp_regionQ 6 (by kernel_rfl) rfl rfl rfl ?_
            first | refine h0_go rfl (so_fieldAddr (v := .p _ _ _) rfl rfl rfl rfl rfl rfl rfl rfl rfl rfl ⟨_, rfl, ?_⟩) | refine h0_go rfl (so_fieldAddr (v := .dp _ _) rfl rfl rfl rfl rfl rfl rfl rfl rfl rfl ⟨_, rfl, ?_⟩) | refine h0_go rfl (so_fieldAddr (v := .pe _ _ _ _ _) rfl rfl rfl rfl rfl rfl rfl rfl rfl rfl ⟨_, rfl, ?_⟩)
            first | refine h0_go rfl (so_load (v := .d _) rfl rfl rfl rfl rfl rfl rfl rfl ⟨_, rfl, ?_⟩) | refine h0_go rfl (so_load (v := .own _ _ _ _ _) rfl rfl rfl rfl rfl rfl rfl rfl ⟨_, rfl, ?_⟩)
            refine h0_go rfl (st_move (v := .d _) rfl rfl rfl ⟨_, rfl, ?_⟩)
            refine h0_go rfl (so_indexSl rfl rfl rfl rfl rfl rfl rfl (T.rows_all _) (by omega) (by rw [T.rows_len]; omega) hyr2 ⟨_, rfl, ?_⟩)
            first | refine h0_go rfl (so_load (v := .d (.agg [_, _, _])) rfl rfl rfl rfl rfl rfl rfl rfl ⟨_, rfl, ?_⟩) | refine h0_go rfl (so_load (v := .agg [_, _, _]) rfl rfl rfl rfl rfl rfl rfl rfl ⟨_, rfl, ?_⟩)
            first | refine h0_go rfl (so_load (v := .d (.agg [_, _, _])) rfl rfl rfl rfl rfl rfl rfl rfl ⟨_, rfl, ?_⟩) | refine h0_go rfl (so_load (v := .agg [_, _, _]) rfl rfl rfl rfl rfl rfl rfl rfl ⟨_, rfl, ?_⟩)
            refine h0_nil ?_
            refine sops_go rfl (st_call rfl rfl (hs1) ⟨na_d _, na_d _, trivial⟩ rfl ?_)
            refine sops_go rfl (st_assign (v := .d _) rfl rfl rfl ?_)
            refine sops_nil ?_
            refine swp_cond _ rfl (fun hc53 => ?_) (fun hc53 => ?_)
            · rw [if_pos hc53] at hS
              refine swp_skip ?_
              refine swp_seq ?_
              refine swp_regionD 8 (by kernel_rfl) rfl rfl rfl ?_
              first | refine hd_go 0 rfl rfl rfl (so_fieldAddr (v := .p _ _ _) rfl rfl rfl rfl rfl rfl rfl rfl rfl rfl ⟨_, rfl, ?_⟩) | refine hd_go 0 rfl rfl rfl (so_fieldAddr (v := .dp _ _) rfl rfl rfl rfl rfl rfl rfl rfl rfl rfl ⟨_, rfl, ?_⟩) | refine hd_go 0 rfl rfl rfl (so_fieldAddr (v := .pe _ _ _ _ _) rfl rfl rfl rfl rfl rfl rfl rfl rfl rfl ⟨_, rfl, ?_⟩)
              first | refine hd_go 0 rfl rfl rfl (so_load (v := .d _) rfl rfl rfl rfl rfl rfl rfl rfl ⟨_, rfl, ?_⟩) | refine hd_go 0 rfl rfl rfl (so_load (v := .own _ _ _ _ _) rfl rfl rfl rfl rfl rfl rfl rfl ⟨_, rfl, ?_⟩)
              first | refine hd_go 0 rfl rfl rfl (so_fieldAddr (v := .p _ _ _) rfl rfl rfl rfl rfl rfl rfl rfl rfl rfl ⟨_, rfl, ?_⟩) | refine hd_go 0 rfl rfl rfl (so_fieldAddr (v := .dp _ _) rfl rfl rfl rfl rfl rfl rfl rfl rfl rfl ⟨_, rfl, ?_⟩) | refine hd_go 0 rfl rfl rfl (so_fieldAddr (v := .pe _ _ _ _ _) rfl rfl rfl rfl rfl rfl rfl rfl rfl rfl ⟨_, rfl, ?_⟩)
              first | refine hd_go 0 rfl rfl rfl (so_load (v := .d _) rfl rfl rfl rfl rfl rfl rfl rfl ⟨_, rfl, ?_⟩) | refine hd_go 0 rfl rfl rfl (so_load (v := .own _ _ _ _ _) rfl rfl rfl rfl rfl rfl rfl rfl ⟨_, rfl, ?_⟩)
              refine hd_go 0 rfl rfl rfl (st_move (v := .d _) rfl rfl rfl ⟨_, rfl, ?_⟩)
              refine hd_go 0 rfl rfl rfl (so_indexSl rfl rfl rfl rfl rfl rfl rfl (strRows_all _) (by omega) (by rw [strRows_len]; omega) hyr ⟨_, rfl, ?_⟩)
              refine hd_go 0 rfl rfl rfl (so_load (v := .d _) rfl rfl rfl rfl rfl rfl rfl rfl ⟨_, rfl, ?_⟩)
              refine hd_new rfl rfl rfl (so_buildSlice (rows := [[_]]) rfl rfl rfl rfl rfl rfl rfl rfl rfl ⟨_, _, rfl, ?_⟩)
              refine hd_nil ?_
              refine sops_go rfl (so_append rfl rfl rfl rfl rfl rfl rfl rfl rfl rfl (by simp) (by intro r hr; simp at hr; subst hr; exact ⟨rfl, rfl⟩) (by show (_ + _) * 16 ≤ _; simp [strRows]; omega) (by simp [strRows]; omega) ?_)
              first | refine sops_go rfl (so_fieldAddr (v := .p _ _ _) rfl rfl rfl rfl rfl rfl rfl rfl rfl rfl ?_) | refine sops_go rfl (so_fieldAddr (v := .dp _ _) rfl rfl rfl rfl rfl rfl rfl rfl rfl rfl ?_) | refine sops_go rfl (so_fieldAddr (v := .pe _ _ _ _ _) rfl rfl rfl rfl rfl rfl rfl rfl rfl rfl ?_)
              refine sops_go rfl (so_store rfl rfl rfl rfl rfl rfl rfl rfl rfl (zs := [_, _, _]) rfl ?_)
              refine sops_nil ?_
              refine swp_region ?_
              first | refine sops_go rfl (so_fieldAddr (v := .p _ _ _) rfl rfl rfl rfl rfl rfl rfl rfl rfl rfl ?_) | refine sops_go rfl (so_fieldAddr (v := .dp _ _) rfl rfl rfl rfl rfl rfl rfl rfl rfl rfl ?_) | refine sops_go rfl (so_fieldAddr (v := .pe _ _ _ _ _) rfl rfl rfl rfl rfl rfl rfl rfl rfl rfl ?_)
              first | refine sops_go rfl (so_load (v := .d _) rfl rfl rfl rfl rfl rfl rfl rfl ?_) | refine sops_go rfl (so_load (v := .own _ _ _ _ _) rfl rfl rfl rfl rfl rfl rfl rfl ?_)
              first | refine sops_go rfl (so_load (v := .d (.agg [_, _, _])) rfl rfl rfl rfl rfl rfl rfl rfl ?_) | refine sops_go rfl (so_load (v := .agg [_, _, _]) rfl rfl rfl rfl rfl rfl rfl rfl ?_)
              refine sops_go rfl (so_buildSlice (rows := [[_, _, _]]) rfl rfl rfl rfl rfl rfl rfl rfl rfl ?_)
              refine sops_go rfl (so_append rfl rfl rfl rfl rfl rfl rfl rfl rfl rfl (by simp) (by intro r hr; simp at hr; subst hr; exact ⟨rfl, rfl⟩) (by show (_ + _) * 56 ≤ _; simp [T.rows_eq]; omega) (by simp [T.rows_eq]; omega) ?_)
              first | refine sops_go rfl (so_fieldAddr (v := .p _ _ _) rfl rfl rfl rfl rfl rfl rfl rfl rfl rfl ?_) | refine sops_go rfl (so_fieldAddr (v := .dp _ _) rfl rfl rfl rfl rfl rfl rfl rfl rfl rfl ?_) | refine sops_go rfl (so_fieldAddr (v := .pe _ _ _ _ _) rfl rfl rfl rfl rfl rfl rfl rfl rfl rfl ?_)
              refine sops_go rfl (so_store rfl rfl rfl rfl rfl rfl rfl rfl rfl (zs := [_, _, _]) rfl ?_)
              refine sops_nil ?_
              refine swp_region ?_
              refine sops_go rfl (st_move (v := .d _) rfl rfl rfl ?_)
              refine sops_go rfl (st_bin rfl rfl rfl rfl rfl ?_)
              refine sops_go rfl (st_assign (v := .d _) rfl rfl rfl ?_)
              refine sops_nil ?_
              refine ⟨⟨i + 1, nm ++ [name], ls ++ [.mk x1 x2 x3], v1 + 1, v2 + 1⟩, ⟨hlt, hj.add hnf hxf hxo, hS⟩, by show na.length - (i + 1) < na.length - i; omega, ?_⟩
              refine wk_of rfl (Nat.le_of_ble_eq_true rfl) (by rw [hB]; exact Nat.zero_le _) (tle_upd (le_eq (next_i64 hlt (by omega)) rfl) (tle_upd (le_eq rfl rfl) (tle_upd (le_eq rfl rfl) (tle_upd (le_eq rfl rfl) (tle_upd (le_eq rfl rfl) (tle_upd (le_eq rfl rfl) (tle_any _))))))) (hle_upd (.arr _ _ _ _ _ ((by simp [T.rows_eq, T.cells])) (rows_bnd _ _)) (hle_upd (.arr _ _ _ _ _ ((by simp [strRows])) (rows_bnd _ _)) (hle_upd (.cells _ _ ⟨le_eq rfl rfl, le_eq (own_len (by simp [strRows])) rfl, le_eq (own_len (by simp [T.rows_eq])) rfl, trivial⟩) (hle_upd (.cells _ _ ⟨le_eq rfl rfl, le_eq rfl rfl, le_eq rfl rfl, trivial⟩) (hle_upd (.cells _ _ ⟨le_any _, le_any _, le_any _, trivial⟩) (hle_upd (.cells _ _ ⟨le_any _, le_eq rfl rfl, le_eq rfl rfl, trivial⟩) (hle_upd (.cells _ _ ⟨le_any _, le_eq rfl rfl, le_eq rfl rfl, trivial⟩) (hle_dead _)))))))) (dead_upd (Nat.le_of_ble_eq_true rfl) (dead_upd (Nat.le_of_ble_eq_true rfl) (dead_upd (Nat.le_of_ble_eq_true rfl) (dead_upd (Nat.le_of_ble_eq_true rfl) (dead_upd (Nat.le_of_ble_eq_true rfl) (dead_upd (Nat.le_of_ble_eq_true rfl) (dead_upd (Nat.le_of_ble_eq_true rfl) (dead_none))))))))
            · rw [if_neg (by rw [hc53]; simp)] at hS
              refine swp_seq ?_
              refine swp_regionQ 6 (by kernel_rfl) rfl rfl rfl ?_
              first | refine h0_go rfl (so_load (v := .d (.agg [_, _, _])) rfl rfl rfl rfl rfl rfl rfl rfl ⟨_, rfl, ?_⟩) | refine h0_go rfl (so_load (v := .agg [_, _, _]) rfl rfl rfl rfl rfl rfl rfl rfl ⟨_, rfl, ?_⟩)
              first | refine h0_go rfl (so_fieldAddr (v := .p _ _ _) rfl rfl rfl rfl rfl rfl rfl rfl rfl rfl ⟨_, rfl, ?_⟩) | refine h0_go rfl (so_fieldAddr (v := .dp _ _) rfl rfl rfl rfl rfl rfl rfl rfl rfl rfl ⟨_, rfl, ?_⟩) | refine h0_go rfl (so_fieldAddr (v := .pe _ _ _ _ _) rfl rfl rfl rfl rfl rfl rfl rfl rfl rfl ⟨_, rfl, ?_⟩)
              first | refine h0_go rfl (so_load (v := .d _) rfl rfl rfl rfl rfl rfl rfl rfl ⟨_, rfl, ?_⟩) | refine h0_go rfl (so_load (v := .own _ _ _ _ _) rfl rfl rfl rfl rfl rfl rfl rfl ⟨_, rfl, ?_⟩)
              refine h0_go rfl (st_move (v := .d _) rfl rfl rfl ⟨_, rfl, ?_⟩)
              refine h0_go rfl (so_indexSl rfl rfl rfl rfl rfl rfl rfl (T.rows_all _) (by omega) (by rw [T.rows_len]; omega) hyr2 ⟨_, rfl, ?_⟩)
              first | refine h0_go rfl (so_load (v := .d (.agg [_, _, _])) rfl rfl rfl rfl rfl rfl rfl rfl ⟨_, rfl, ?_⟩) | refine h0_go rfl (so_load (v := .agg [_, _, _]) rfl rfl rfl rfl rfl rfl rfl rfl ⟨_, rfl, ?_⟩)
              refine h0_nil ?_
              refine sops_go rfl (st_call rfl rfl (hs2) ⟨na_d _, na_d _, trivial⟩ rfl ?_)
              refine sops_go rfl (st_assign (v := .d _) rfl rfl rfl ?_)
              refine sops_nil ?_
              refine swp_cond _ rfl (fun hc61 => ?_) (fun hc61 => ?_)
              · rw [if_pos hc61] at hS
                refine swp_region ?_
                first | refine sops_go rfl (so_fieldAddr (v := .p _ _ _) rfl rfl rfl rfl rfl rfl rfl rfl rfl rfl ?_) | refine sops_go rfl (so_fieldAddr (v := .dp _ _) rfl rfl rfl rfl rfl rfl rfl rfl rfl rfl ?_) | refine sops_go rfl (so_fieldAddr (v := .pe _ _ _ _ _) rfl rfl rfl rfl rfl rfl rfl rfl rfl rfl ?_)
                first | refine sops_go rfl (so_load (v := .d _) rfl rfl rfl rfl rfl rfl rfl rfl ?_) | refine sops_go rfl (so_load (v := .own _ _ _ _ _) rfl rfl rfl rfl rfl rfl rfl rfl ?_)
                refine sops_go rfl (st_move (v := .d _) rfl rfl rfl ?_)
                refine sops_go rfl (so_indexSl rfl rfl rfl rfl rfl rfl rfl (T.rows_all _) (by omega) (by rw [T.rows_len]; omega) hyr2 ?_)
                first | refine sops_go rfl (so_load (v := .d (.agg [_, _, _])) rfl rfl rfl rfl rfl rfl rfl rfl ?_) | refine sops_go rfl (so_load (v := .agg [_, _, _]) rfl rfl rfl rfl rfl rfl rfl rfl ?_)
                refine sops_go rfl (so_store rfl rfl rfl rfl rfl rfl rfl rfl rfl (zs := [_, _, _]) rfl ?_)
                refine sops_nil ?_
                refine swp_seq ?_
                refine swp_regionD 8 (by kernel_rfl) rfl rfl rfl ?_
                first | refine hd_go 0 rfl rfl rfl (so_fieldAddr (v := .p _ _ _) rfl rfl rfl rfl rfl rfl rfl rfl rfl rfl ⟨_, rfl, ?_⟩) | refine hd_go 0 rfl rfl rfl (so_fieldAddr (v := .dp _ _) rfl rfl rfl rfl rfl rfl rfl rfl rfl rfl ⟨_, rfl, ?_⟩) | refine hd_go 0 rfl rfl rfl (so_fieldAddr (v := .pe _ _ _ _ _) rfl rfl rfl rfl rfl rfl rfl rfl rfl rfl ⟨_, rfl, ?_⟩)
                first | refine hd_go 0 rfl rfl rfl (so_load (v := .d _) rfl rfl rfl rfl rfl rfl rfl rfl ⟨_, rfl, ?_⟩) | refine hd_go 0 rfl rfl rfl (so_load (v := .own _ _ _ _ _) rfl rfl rfl rfl rfl rfl rfl rfl ⟨_, rfl, ?_⟩)
                first | refine hd_go 0 rfl rfl rfl (so_fieldAddr (v := .p _ _ _) rfl rfl rfl rfl rfl rfl rfl rfl rfl rfl ⟨_, rfl, ?_⟩) | refine hd_go 0 rfl rfl rfl (so_fieldAddr (v := .dp _ _) rfl rfl rfl rfl rfl rfl rfl rfl rfl rfl ⟨_, rfl, ?_⟩) | refine hd_go 0 rfl rfl rfl (so_fieldAddr (v := .pe _ _ _ _ _) rfl rfl rfl rfl rfl rfl rfl rfl rfl rfl ⟨_, rfl, ?_⟩)
                first | refine hd_go 0 rfl rfl rfl (so_load (v := .d _) rfl rfl rfl rfl rfl rfl rfl rfl ⟨_, rfl, ?_⟩) | refine hd_go 0 rfl rfl rfl (so_load (v := .own _ _ _ _ _) rfl rfl rfl rfl rfl rfl rfl rfl ⟨_, rfl, ?_⟩)
                refine hd_go 0 rfl rfl rfl (st_move (v := .d _) rfl rfl rfl ⟨_, rfl, ?_⟩)
                refine hd_go 0 rfl rfl rfl (so_indexSl rfl rfl rfl rfl rfl rfl rfl (strRows_all _) (by omega) (by rw [strRows_len]; omega) hyr ⟨_, rfl, ?_⟩)
                refine hd_go 0 rfl rfl rfl (so_load (v := .d _) rfl rfl rfl rfl rfl rfl rfl rfl ⟨_, rfl, ?_⟩)
                refine hd_new rfl rfl rfl (so_buildSlice (rows := [[_]]) rfl rfl rfl rfl rfl rfl rfl rfl rfl ⟨_, _, rfl, ?_⟩)
                refine hd_nil ?_
                refine sops_go rfl (so_append rfl rfl rfl rfl rfl rfl rfl rfl rfl rfl (by simp) (by intro r hr; simp at hr; subst hr; exact ⟨rfl, rfl⟩) (by show (_ + _) * 16 ≤ _; simp [strRows]; omega) (by simp [strRows]; omega) ?_)
                first | refine sops_go rfl (so_fieldAddr (v := .p _ _ _) rfl rfl rfl rfl rfl rfl rfl rfl rfl rfl ?_) | refine sops_go rfl (so_fieldAddr (v := .dp _ _) rfl rfl rfl rfl rfl rfl rfl rfl rfl rfl ?_) | refine sops_go rfl (so_fieldAddr (v := .pe _ _ _ _ _) rfl rfl rfl rfl rfl rfl rfl rfl rfl rfl ?_)
                refine sops_go rfl (so_store rfl rfl rfl rfl rfl rfl rfl rfl rfl (zs := [_, _, _]) rfl ?_)
                refine sops_nil ?_
                refine swp_region ?_
                first | refine sops_go rfl (so_fieldAddr (v := .p _ _ _) rfl rfl rfl rfl rfl rfl rfl rfl rfl rfl ?_) | refine sops_go rfl (so_fieldAddr (v := .dp _ _) rfl rfl rfl rfl rfl rfl rfl rfl rfl rfl ?_) | refine sops_go rfl (so_fieldAddr (v := .pe _ _ _ _ _) rfl rfl rfl rfl rfl rfl rfl rfl rfl rfl ?_)
                first | refine sops_go rfl (so_load (v := .d _) rfl rfl rfl rfl rfl rfl rfl rfl ?_) | refine sops_go rfl (so_load (v := .own _ _ _ _ _) rfl rfl rfl rfl rfl rfl rfl rfl ?_)
                first | refine sops_go rfl (so_load (v := .d (.agg [_, _, _])) rfl rfl rfl rfl rfl rfl rfl rfl ?_) | refine sops_go rfl (so_load (v := .agg [_, _, _]) rfl rfl rfl rfl rfl rfl rfl rfl ?_)
                refine sops_go rfl (so_buildSlice (rows := [[_, _, _]]) rfl rfl rfl rfl rfl rfl rfl rfl rfl ?_)
                refine sops_go rfl (so_append rfl rfl rfl rfl rfl rfl rfl rfl rfl rfl (by simp) (by intro r hr; simp at hr; subst hr; exact ⟨rfl, rfl⟩) (by show (_ + _) * 56 ≤ _; simp [T.rows_eq]; omega) (by simp [T.rows_eq]; omega) ?_)
                first | refine sops_go rfl (so_fieldAddr (v := .p _ _ _) rfl rfl rfl rfl rfl rfl rfl rfl rfl rfl ?_) | refine sops_go rfl (so_fieldAddr (v := .dp _ _) rfl rfl rfl rfl rfl rfl rfl rfl rfl rfl ?_) | refine sops_go rfl (so_fieldAddr (v := .pe _ _ _ _ _) rfl rfl rfl rfl rfl rfl rfl rfl rfl rfl ?_)
                refine sops_go rfl (so_store rfl rfl rfl rfl rfl rfl rfl rfl rfl (zs := [_, _, _]) rfl ?_)
                refine sops_nil ?_
                refine swp_region ?_
                refine sops_go rfl (st_move (v := .d _) rfl rfl rfl ?_)
                refine sops_go rfl (st_bin rfl rfl rfl rfl rfl ?_)
                refine sops_go rfl (st_assign (v := .d _) rfl rfl rfl ?_)
                refine sops_nil ?_
                refine ⟨⟨i + 1, nm ++ [name], ls ++ [.mk y1 y2 y3], v1 + 1, v2 + 1⟩, ⟨hlt, hj.add hnf hyf hyo, hS⟩, by show na.length - (i + 1) < na.length - i; omega, ?_⟩
                refine wk_of rfl (Nat.le_of_ble_eq_true rfl) (by rw [hB]; exact Nat.zero_le _) (tle_upd (le_eq (next_i64 hlt (by omega)) rfl) (tle_upd (le_eq rfl rfl) (tle_upd (le_eq rfl rfl) (tle_upd (le_eq rfl rfl) (tle_upd (le_eq rfl rfl) (tle_upd (le_eq rfl rfl) (tle_any _))))))) (hle_upd (.arr _ _ _ _ _ ((by simp [T.rows_eq, T.cells])) (rows_bnd _ _)) (hle_upd (.arr _ _ _ _ _ ((by simp [strRows])) (rows_bnd _ _)) (hle_upd (.cells _ _ ⟨le_eq rfl rfl, le_eq (own_len (by simp [strRows])) rfl, le_eq (own_len (by simp [T.rows_eq])) rfl, trivial⟩) (hle_upd (.cells _ _ ⟨le_eq rfl rfl, le_eq rfl rfl, le_eq rfl rfl, trivial⟩) (hle_upd (.cells _ _ ⟨le_any _, le_any _, le_any _, trivial⟩) (hle_upd (.cells _ _ ⟨le_any _, le_eq rfl rfl, le_eq rfl rfl, trivial⟩) (hle_upd (.cells _ _ ⟨le_any _, le_eq rfl rfl, le_eq rfl rfl, trivial⟩) (hle_dead _)))))))) (dead_upd (Nat.le_of_ble_eq_true rfl) (dead_upd (Nat.le_of_ble_eq_true rfl) (dead_upd (Nat.le_of_ble_eq_true rfl) (dead_upd (Nat.le_of_ble_eq_true rfl) (dead_upd (Nat.le_of_ble_eq_true rfl) (dead_upd (Nat.le_of_ble_eq_true rfl) (dead_upd (Nat.le_of_ble_eq_true rfl) (dead_none))))))))
              · rw [if_neg (by rw [hc61]; simp)] at hS
                have hS : R = .every := hS
                refine swp_seq ?_
                refine swp_region ?_
                first | refine sops_go rfl (so_load (v := .d (.agg [_, _, _])) rfl rfl rfl rfl rfl rfl rfl rfl ?_) | refine sops_go rfl (so_load (v := .agg [_, _, _]) rfl rfl rfl rfl rfl rfl rfl rfl ?_)
                refine sops_go rfl (so_store rfl rfl rfl rfl rfl rfl rfl rfl rfl (zs := [_, _, _]) rfl ?_)
                refine sops_nil ?_
                refine swp_ret ?_
                with_reducible refine inblk_ret ?_
                with_reducible refine after_ret ?_
                with_reducible refine inblk_ret ?_
                with_reducible refine after_ret ?_
                with_reducible refine after_ret ?_
                with_reducible refine inblk_ret ?_
                with_reducible refine after_ret ?_
                exact fin_c rfl (rc_of rfl rfl rfl rfl rfl (by rw [hS]; exact ra_dagg ⟨ra_d (keeps_v _), ra_nil, ra_nil, trivial⟩))
          · have hp : pg = none := by
              cases pg with
              | none => rfl
              | some j => have := of_decide_eq_false hc51; simp [pgI] at this <;> omega
            subst hp
            simp only at hS
            refine swp_skip ?_
            refine swp_seq ?_
            refine swp_regionD 8 (by kernel_rfl) rfl rfl rfl ?_
            first | refine hd_go 0 rfl rfl rfl (so_fieldAddr (v := .p _ _ _) rfl rfl rfl rfl rfl rfl rfl rfl rfl rfl ⟨_, rfl, ?_⟩) | refine hd_go 0 rfl rfl rfl (so_fieldAddr (v := .dp _ _) rfl rfl rfl rfl rfl rfl rfl rfl rfl rfl ⟨_, rfl, ?_⟩) | refine hd_go 0 rfl rfl rfl (so_fieldAddr (v := .pe _ _ _ _ _) rfl rfl rfl rfl rfl rfl rfl rfl rfl rfl ⟨_, rfl, ?_⟩)
            first | refine hd_go 0 rfl rfl rfl (so_load (v := .d _) rfl rfl rfl rfl rfl rfl rfl rfl ⟨_, rfl, ?_⟩) | refine hd_go 0 rfl rfl rfl (so_load (v := .own _ _ _ _ _) rfl rfl rfl rfl rfl rfl rfl rfl ⟨_, rfl, ?_⟩)
            first | refine hd_go 0 rfl rfl rfl (so_fieldAddr (v := .p _ _ _) rfl rfl rfl rfl rfl rfl rfl rfl rfl rfl ⟨_, rfl, ?_⟩) | refine hd_go 0 rfl rfl rfl (so_fieldAddr (v := .dp _ _) rfl rfl rfl rfl rfl rfl rfl rfl rfl rfl ⟨_, rfl, ?_⟩) | refine hd_go 0 rfl rfl rfl (so_fieldAddr (v := .pe _ _ _ _ _) rfl rfl rfl rfl rfl rfl rfl rfl rfl rfl ⟨_, rfl, ?_⟩)
            first | refine hd_go 0 rfl rfl rfl (so_load (v := .d _) rfl rfl rfl rfl rfl rfl rfl rfl ⟨_, rfl, ?_⟩) | refine hd_go 0 rfl rfl rfl (so_load (v := .own _ _ _ _ _) rfl rfl rfl rfl rfl rfl rfl rfl ⟨_, rfl, ?_⟩)
            refine hd_go 0 rfl rfl rfl (st_move (v := .d _) rfl rfl rfl ⟨_, rfl, ?_⟩)
            refine hd_go 0 rfl rfl rfl (so_indexSl rfl rfl rfl rfl rfl rfl rfl (strRows_all _) (by omega) (by rw [strRows_len]; omega) hyr ⟨_, rfl, ?_⟩)
            refine hd_go 0 rfl rfl rfl (so_load (v := .d _) rfl rfl rfl rfl rfl rfl rfl rfl ⟨_, rfl, ?_⟩)
            refine hd_new rfl rfl rfl (so_buildSlice (rows := [[_]]) rfl rfl rfl rfl rfl rfl rfl rfl rfl ⟨_, _, rfl, ?_⟩)
            refine hd_nil ?_
            refine sops_go rfl (so_append rfl rfl rfl rfl rfl rfl rfl rfl rfl rfl (by simp) (by intro r hr; simp at hr; subst hr; exact ⟨rfl, rfl⟩) (by show (_ + _) * 16 ≤ _; simp [strRows]; omega) (by simp [strRows]; omega) ?_)
            first | refine sops_go rfl (so_fieldAddr (v := .p _ _ _) rfl rfl rfl rfl rfl rfl rfl rfl rfl rfl ?_) | refine sops_go rfl (so_fieldAddr (v := .dp _ _) rfl rfl rfl rfl rfl rfl rfl rfl rfl rfl ?_) | refine sops_go rfl (so_fieldAddr (v := .pe _ _ _ _ _) rfl rfl rfl rfl rfl rfl rfl rfl rfl rfl ?_)
            refine sops_go rfl (so_store rfl rfl rfl rfl rfl rfl rfl rfl rfl (zs := [_, _, _]) rfl ?_)
            refine sops_nil ?_
            refine swp_region ?_
            first | refine sops_go rfl (so_fieldAddr (v := .p _ _ _) rfl rfl rfl rfl rfl rfl rfl rfl rfl rfl ?_) | refine sops_go rfl (so_fieldAddr (v := .dp _ _) rfl rfl rfl rfl rfl rfl rfl rfl rfl rfl ?_) | refine sops_go rfl (so_fieldAddr (v := .pe _ _ _ _ _) rfl rfl rfl rfl rfl rfl rfl rfl rfl rfl ?_)
            first | refine sops_go rfl (so_load (v := .d _) rfl rfl rfl rfl rfl rfl rfl rfl ?_) | refine sops_go rfl (so_load (v := .own _ _ _ _ _) rfl rfl rfl rfl rfl rfl rfl rfl ?_)
            first | refine sops_go rfl (so_load (v := .d (.agg [_, _, _])) rfl rfl rfl rfl rfl rfl rfl rfl ?_) | refine sops_go rfl (so_load (v := .agg [_, _, _]) rfl rfl rfl rfl rfl rfl rfl rfl ?_)
            refine sops_go rfl (so_buildSlice (rows := [[_, _, _]]) rfl rfl rfl rfl rfl rfl rfl rfl rfl ?_)
            refine sops_go rfl (so_append rfl rfl rfl rfl rfl rfl rfl rfl rfl rfl (by simp) (by intro r hr; simp at hr; subst hr; exact ⟨rfl, rfl⟩) (by show (_ + _) * 56 ≤ _; simp [T.rows_eq]; omega) (by simp [T.rows_eq]; omega) ?_)
            first | refine sops_go rfl (so_fieldAddr (v := .p _ _ _) rfl rfl rfl rfl rfl rfl rfl rfl rfl rfl ?_) | refine sops_go rfl (so_fieldAddr (v := .dp _ _) rfl rfl rfl rfl rfl rfl rfl rfl rfl rfl ?_) | refine sops_go rfl (so_fieldAddr (v := .pe _ _ _ _ _) rfl rfl rfl rfl rfl rfl rfl rfl rfl rfl ?_)
            refine sops_go rfl (so_store rfl rfl rfl rfl rfl rfl rfl rfl rfl (zs := [_, _, _]) rfl ?_)
            refine sops_nil ?_
            refine swp_region ?_
            refine sops_go rfl (st_move (v := .d _) rfl rfl rfl ?_)
            refine sops_go rfl (st_bin rfl rfl rfl rfl rfl ?_)
            refine sops_go rfl (st_assign (v := .d _) rfl rfl rfl ?_)
            refine sops_nil ?_
            refine ⟨⟨i + 1, nm ++ [name], ls ++ [.mk x1 x2 x3], v1 + 1, v2 + 1⟩, ⟨hlt, hj.add hnf hxf hxo, hS⟩, by show na.length - (i + 1) < na.length - i; omega, ?_⟩
            refine wk_of rfl (Nat.le_of_ble_eq_true rfl) (by rw [hB]; exact Nat.zero_le _) (tle_upd (le_eq (next_i64 hlt (by omega)) rfl) (tle_upd (le_eq rfl rfl) (tle_upd (le_eq rfl rfl) (tle_upd (le_eq rfl rfl) (tle_upd (le_eq rfl rfl) (tle_upd (le_eq rfl rfl) (tle_any _))))))) (hle_upd (.arr _ _ _ _ _ ((by simp [T.rows_eq, T.cells])) (rows_bnd _ _)) (hle_upd (.arr _ _ _ _ _ ((by simp [strRows])) (rows_bnd _ _)) (hle_upd (.cells _ _ ⟨le_eq rfl rfl, le_eq (own_len (by simp [strRows])) rfl, le_eq (own_len (by simp [T.rows_eq])) rfl, trivial⟩) (hle_upd (.cells _ _ ⟨le_eq rfl rfl, le_eq rfl rfl, le_eq rfl rfl, trivial⟩) (hle_upd (.cells _ _ ⟨le_any _, le_any _, le_any _, trivial⟩) (hle_upd (.cells _ _ ⟨le_any _, le_eq rfl rfl, le_eq rfl rfl, trivial⟩) (hle_upd (.cells _ _ ⟨le_any _, le_eq rfl rfl, le_eq rfl rfl, trivial⟩) (hle_dead _)))))))) (dead_upd (Nat.le_of_ble_eq_true rfl) (dead_upd (Nat.le_of_ble_eq_true rfl) (dead_upd (Nat.le_of_ble_eq_true rfl) (dead_upd (Nat.le_of_ble_eq_true rfl) (dead_upd (Nat.le_of_ble_eq_true rfl) (dead_upd (Nat.le_of_ble_eq_true rfl) (dead_upd (Nat.le_of_ble_eq_true rfl) (dead_none))))))))
        · have he : i = na.length := by have := of_decide_eq_false hc34; rw [strRows_len] at this; omega
          rw [he, List.drop_length, show T.rjA (placesOf nb) lb [] (la.drop na.length) nm ls = some (nm, ls) by rw [T.rjA]; simp] at hS
          have hS : R = T.joinFin (some (T.rjB (placesOf na) nb lb nm ls)) := hS
          refine swp_exit ?_
          with_reducible refine after_exit ?_
          with_reducible refine after_exit ?_
          refine inblk_hit ?_
          refine swp_seq ?_
          refine swp_seq ?_
          refine swp_region ?_
          refine sops_go rfl (st_assign (v := .d _) rfl rfl rfl ?_)
          refine sops_nil ?_
          refine swp_block ?_
          refine swp_loopF (F := fun j : RJ => { t := upd (upd (upd (upd (upd (upd (fun _ => .any) 2 (.p 0 0 0)) 3 (.p 1 0 0)) 4 (.p 2 0 0)) 5 (.p 3 0 0)) 6 (.p 4 0 0)) 10 (.d (.v (.int .i64 j.i))), n := 131, h := upd (upd (upd (upd (upd (upd (upd (fun _ => .dead) 0 (.cells [.any, .d (.sl true (strRows na)), .d (.sl true (T.rows la))])) 1 (.cells [.any, .d (.sl true (strRows nb)), .d (.sl true (T.rows lb))])) 2 (.cells [.any, .any, .any])) 3 (.cells [.d (.v (.int .i64 1)), .d (.v (.slice none 0 0)), .d (.v (.slice none 0 0))])) 4 (.cells [.d (.v (.int .i64 11)), .own 5 j.v1 1 0 (strRows j.nm).length, .own 6 j.v2 3 0 (T.rows j.ls).length])) 5 (.arr j.v1 9 1 ((strRows j.nm).map (·.map .d)))) 6 (.arr j.v2 26 3 ((T.rows j.ls).map (·.map .d))), nx := 7 })
            (fun j => j.i ≤ nb.length ∧ JInv 0 (na.length + j.i) j.nm j.ls ∧ R = T.joinFin (some (T.rjB (placesOf na) (nb.drop j.i) (lb.drop j.i) j.nm j.ls))) (fun j => nb.length - j.i) ⟨0, nm, ls, v1, v2⟩ ⟨Nat.zero_le _, by rw [he] at hj; exact hj, hS⟩ ?_ ?_
          · refine wk_of rfl (Nat.le_of_ble_eq_true rfl) (by rw [hB]; exact Nat.zero_le _) (tle_upd (le_eq rfl rfl) (tle_upd (le_eq rfl rfl) (tle_upd (le_eq rfl rfl) (tle_upd (le_eq rfl rfl) (tle_upd (le_eq rfl rfl) (tle_upd (le_eq rfl rfl) (tle_any _))))))) (hle_upd (.arr _ _ _ _ _ (rfl) (rows_bnd _ _)) (hle_upd (.arr _ _ _ _ _ (rfl) (rows_bnd _ _)) (hle_upd (.cells _ _ ⟨le_eq rfl rfl, le_eq rfl rfl, le_eq rfl rfl, trivial⟩) (hle_upd (.cells _ _ ⟨le_eq rfl rfl, le_eq rfl rfl, le_eq rfl rfl, trivial⟩) (hle_upd (.cells _ _ ⟨le_any _, le_any _, le_any _, trivial⟩) (hle_upd (.cells _ _ ⟨le_any _, le_eq rfl rfl, le_eq rfl rfl, trivial⟩) (hle_upd (.cells _ _ ⟨le_any _, le_eq rfl rfl, le_eq rfl rfl, trivial⟩) (hle_dead _)))))))) (dead_upd (Nat.le_of_ble_eq_true rfl) (dead_upd (Nat.le_of_ble_eq_true rfl) (dead_upd (Nat.le_of_ble_eq_true rfl) (dead_upd (Nat.le_of_ble_eq_true rfl) (dead_upd (Nat.le_of_ble_eq_true rfl) (dead_upd (Nat.le_of_ble_eq_true rfl) (dead_upd (Nat.le_of_ble_eq_true rfl) (dead_none))))))))
          rintro ⟨j, nm, ls, v1, v2⟩ ⟨hjl, hj, hS⟩
          dsimp only
          have hjl : j ≤ nb.length := hjl
          have hj : JInv 0 (na.length + j) nm ls := hj
          have hS : R = T.joinFin (some (T.rjB (placesOf na) (nb.drop j) (lb.drop j) nm ls)) := hS
          have hj1 := hj.lo
          have hj2 := hj.hi
          have hj3 := hj.hn
          refine swp_seq ?_
          refine swp_seq ?_
          refine swp_region ?_
          refine sops_go rfl (st_move (v := .d _) rfl rfl rfl ?_)
          first | refine sops_go rfl (so_fieldAddr (v := .p _ _ _) rfl rfl rfl rfl rfl rfl rfl rfl rfl rfl ?_) | refine sops_go rfl (so_fieldAddr (v := .dp _ _) rfl rfl rfl rfl rfl rfl rfl rfl rfl rfl ?_) | refine sops_go rfl (so_fieldAddr (v := .pe _ _ _ _ _) rfl rfl rfl rfl rfl rfl rfl rfl rfl rfl ?_)
          first | refine sops_go rfl (so_load (v := .d _) rfl rfl rfl rfl rfl rfl rfl rfl ?_) | refine sops_go rfl (so_load (v := .own _ _ _ _ _) rfl rfl rfl rfl rfl rfl rfl rfl ?_)
          refine sops_go rfl (so_lenSl rfl rfl rfl rfl rfl ?_)
          refine sops_go rfl (st_bin rfl rfl rfl rfl rfl ?_)
          refine sops_nil ?_
          refine swp_cond _ rfl (fun hc94 => ?_) (fun hc94 => ?_)
          · have hlt : j < nb.length := by have := of_decide_eq_true hc94; rw [strRows_len] at this; omega
            have hk2 : j < lb.length := by omega
            rw [List.drop_eq_getElem_cons hlt, List.drop_eq_getElem_cons hk2, T.rjB] at hS
            have hyo := ib.all _ (List.getElem_mem hk2)
            have hyf := (T.fitL_iff lb).1 hfb.2 _ (List.getElem_mem hk2)
            have hnf := hfb.1 _ (List.getElem_mem hlt)
            have hyr : (strRows nb).getD j [] = [.v (.string nb[j])] := strRows_get _ _ hlt
            generalize nb[j] = name at hS hnf hyr
            have hpl := rplace_pure true na name
            have hsp : firstAt (fun y => y.toList == name.toList) na 0 = _ := spot_pget hpa name
            rw [hsp] at hpl
            generalize pget (placesOf na) name = pg at hS hpl
            refine swp_skip ?_
            refine swp_seq ?_
            refine swp_block ?_
            refine swp_seq ?_
            refine swp_regionQ 7 (by kernel_rfl) rfl rfl rfl ?_
            first | refine h0_go rfl (so_fieldAddr (v := .p _ _ _) rfl rfl rfl rfl rfl rfl rfl rfl rfl rfl ⟨_, rfl, ?_⟩) | refine h0_go rfl (so_fieldAddr (v := .dp _ _) rfl rfl rfl rfl rfl rfl rfl rfl rfl rfl ⟨_, rfl, ?_⟩) | refine h0_go rfl (so_fieldAddr (v := .pe _ _ _ _ _) rfl rfl rfl rfl rfl rfl rfl rfl rfl rfl ⟨_, rfl, ?_⟩)
            first | refine h0_go rfl (so_load (v := .d _) rfl rfl rfl rfl rfl rfl rfl rfl ⟨_, rfl, ?_⟩) | refine h0_go rfl (so_load (v := .own _ _ _ _ _) rfl rfl rfl rfl rfl rfl rfl rfl ⟨_, rfl, ?_⟩)
            first | refine h0_go rfl (so_fieldAddr (v := .p _ _ _) rfl rfl rfl rfl rfl rfl rfl rfl rfl rfl ⟨_, rfl, ?_⟩) | refine h0_go rfl (so_fieldAddr (v := .dp _ _) rfl rfl rfl rfl rfl rfl rfl rfl rfl rfl ⟨_, rfl, ?_⟩) | refine h0_go rfl (so_fieldAddr (v := .pe _ _ _ _ _) rfl rfl rfl rfl rfl rfl rfl rfl rfl rfl ⟨_, rfl, ?_⟩)
            first | refine h0_go rfl (so_load (v := .d _) rfl rfl rfl rfl rfl rfl rfl rfl ⟨_, rfl, ?_⟩) | refine h0_go rfl (so_load (v := .own _ _ _ _ _) rfl rfl rfl rfl rfl rfl rfl rfl ⟨_, rfl, ?_⟩)
            refine h0_go rfl (st_move (v := .d _) rfl rfl rfl ⟨_, rfl, ?_⟩)
            refine h0_go rfl (so_indexSl rfl rfl rfl rfl rfl rfl rfl (strRows_all _) (by omega) (by rw [strRows_len]; omega) hyr ⟨_, rfl, ?_⟩)
            refine h0_go rfl (so_load (v := .d _) rfl rfl rfl rfl rfl rfl rfl rfl ⟨_, rfl, ?_⟩)
            refine h0_nil ?_
            refine sops_go rfl (st_call rfl rfl (hpl) ⟨na_d _, na_d _, trivial⟩ rfl ?_)
            refine sops_go rfl (st_bin rfl rfl rfl rfl rfl ?_)
            refine sops_nil ?_
            refine swp_cond _ rfl (fun hc105 => ?_) (fun hc105 => ?_)
            · have hp : pg = none := by
                cases pg with
                | none => rfl
                | some j => have := of_decide_eq_true hc105; simp [pgI] at this <;> omega
              subst hp
              simp only at hS
              refine swp_seq ?_
              refine swp_regionD 8 (by kernel_rfl) rfl rfl rfl ?_
              first | refine hd_go 0 rfl rfl rfl (so_fieldAddr (v := .p _ _ _) rfl rfl rfl rfl rfl rfl rfl rfl rfl rfl ⟨_, rfl, ?_⟩) | refine hd_go 0 rfl rfl rfl (so_fieldAddr (v := .dp _ _) rfl rfl rfl rfl rfl rfl rfl rfl rfl rfl ⟨_, rfl, ?_⟩) | refine hd_go 0 rfl rfl rfl (so_fieldAddr (v := .pe _ _ _ _ _) rfl rfl rfl rfl rfl rfl rfl rfl rfl rfl ⟨_, rfl, ?_⟩)
              first | refine hd_go 0 rfl rfl rfl (so_load (v := .d _) rfl rfl rfl rfl rfl rfl rfl rfl ⟨_, rfl, ?_⟩) | refine hd_go 0 rfl rfl rfl (so_load (v := .own _ _ _ _ _) rfl rfl rfl rfl rfl rfl rfl rfl ⟨_, rfl, ?_⟩)
              first | refine hd_go 0 rfl rfl rfl (so_fieldAddr (v := .p _ _ _) rfl rfl rfl rfl rfl rfl rfl rfl rfl rfl ⟨_, rfl, ?_⟩) | refine hd_go 0 rfl rfl rfl (so_fieldAddr (v := .dp _ _) rfl rfl rfl rfl rfl rfl rfl rfl rfl rfl ⟨_, rfl, ?_⟩) | refine hd_go 0 rfl rfl rfl (so_fieldAddr (v := .pe _ _ _ _ _) rfl rfl rfl rfl rfl rfl rfl rfl rfl rfl ⟨_, rfl, ?_⟩)
              first | refine hd_go 0 rfl rfl rfl (so_load (v := .d _) rfl rfl rfl rfl rfl rfl rfl rfl ⟨_, rfl, ?_⟩) | refine hd_go 0 rfl rfl rfl (so_load (v := .own _ _ _ _ _) rfl rfl rfl rfl rfl rfl rfl rfl ⟨_, rfl, ?_⟩)
              refine hd_go 0 rfl rfl rfl (st_move (v := .d _) rfl rfl rfl ⟨_, rfl, ?_⟩)
              refine hd_go 0 rfl rfl rfl (so_indexSl rfl rfl rfl rfl rfl rfl rfl (strRows_all _) (by omega) (by rw [strRows_len]; omega) hyr ⟨_, rfl, ?_⟩)
              refine hd_go 0 rfl rfl rfl (so_load (v := .d _) rfl rfl rfl rfl rfl rfl rfl rfl ⟨_, rfl, ?_⟩)
              refine hd_new rfl rfl rfl (so_buildSlice (rows := [[_]]) rfl rfl rfl rfl rfl rfl rfl rfl rfl ⟨_, _, rfl, ?_⟩)
              refine hd_nil ?_
              refine sops_go rfl (so_append rfl rfl rfl rfl rfl rfl rfl rfl rfl rfl (by simp) (by intro r hr; simp at hr; subst hr; exact ⟨rfl, rfl⟩) (by show (_ + _) * 16 ≤ _; simp [strRows]; omega) (by simp [strRows]; omega) ?_)
              first | refine sops_go rfl (so_fieldAddr (v := .p _ _ _) rfl rfl rfl rfl rfl rfl rfl rfl rfl rfl ?_) | refine sops_go rfl (so_fieldAddr (v := .dp _ _) rfl rfl rfl rfl rfl rfl rfl rfl rfl rfl ?_) | refine sops_go rfl (so_fieldAddr (v := .pe _ _ _ _ _) rfl rfl rfl rfl rfl rfl rfl rfl rfl rfl ?_)
              refine sops_go rfl (so_store rfl rfl rfl rfl rfl rfl rfl rfl rfl (zs := [_, _, _]) rfl ?_)
              refine sops_nil ?_
              refine swp_regionD 8 (by kernel_rfl) rfl rfl rfl ?_
              first | refine hd_go 0 rfl rfl rfl (so_fieldAddr (v := .p _ _ _) rfl rfl rfl rfl rfl rfl rfl rfl rfl rfl ⟨_, rfl, ?_⟩) | refine hd_go 0 rfl rfl rfl (so_fieldAddr (v := .dp _ _) rfl rfl rfl rfl rfl rfl rfl rfl rfl rfl ⟨_, rfl, ?_⟩) | refine hd_go 0 rfl rfl rfl (so_fieldAddr (v := .pe _ _ _ _ _) rfl rfl rfl rfl rfl rfl rfl rfl rfl rfl ⟨_, rfl, ?_⟩)
              first | refine hd_go 0 rfl rfl rfl (so_load (v := .d _) rfl rfl rfl rfl rfl rfl rfl rfl ⟨_, rfl, ?_⟩) | refine hd_go 0 rfl rfl rfl (so_load (v := .own _ _ _ _ _) rfl rfl rfl rfl rfl rfl rfl rfl ⟨_, rfl, ?_⟩)
              first | refine hd_go 0 rfl rfl rfl (so_fieldAddr (v := .p _ _ _) rfl rfl rfl rfl rfl rfl rfl rfl rfl rfl ⟨_, rfl, ?_⟩) | refine hd_go 0 rfl rfl rfl (so_fieldAddr (v := .dp _ _) rfl rfl rfl rfl rfl rfl rfl rfl rfl rfl ⟨_, rfl, ?_⟩) | refine hd_go 0 rfl rfl rfl (so_fieldAddr (v := .pe _ _ _ _ _) rfl rfl rfl rfl rfl rfl rfl rfl rfl rfl ⟨_, rfl, ?_⟩)
              first | refine hd_go 0 rfl rfl rfl (so_load (v := .d _) rfl rfl rfl rfl rfl rfl rfl rfl ⟨_, rfl, ?_⟩) | refine hd_go 0 rfl rfl rfl (so_load (v := .own _ _ _ _ _) rfl rfl rfl rfl rfl rfl rfl rfl ⟨_, rfl, ?_⟩)
              refine hd_go 0 rfl rfl rfl (st_move (v := .d _) rfl rfl rfl ⟨_, rfl, ?_⟩)
              refine hd_go 0 rfl rfl rfl (so_indexSl rfl rfl rfl rfl rfl rfl rfl (T.rows_all _) (by omega) (by rw [T.rows_len]; omega) (T.rows_get _ _ hk2) ⟨_, rfl, ?_⟩)
              generalize lb[j] = y at hS hyo hyf ⊢
              obtain ⟨y1, y2, y3⟩ := y
              first | refine hd_go 0 rfl rfl rfl (so_load (v := .d (.agg [_, _, _])) rfl rfl rfl rfl rfl rfl rfl rfl ⟨_, rfl, ?_⟩) | refine hd_go 0 rfl rfl rfl (so_load (v := .agg [_, _, _]) rfl rfl rfl rfl rfl rfl rfl rfl ⟨_, rfl, ?_⟩)
              refine hd_new rfl rfl rfl (so_buildSlice (rows := [[_, _, _]]) rfl rfl rfl rfl rfl rfl rfl rfl rfl ⟨_, _, rfl, ?_⟩)
              refine hd_nil ?_
              refine sops_go rfl (so_append rfl rfl rfl rfl rfl rfl rfl rfl rfl rfl (by simp) (by intro r hr; simp at hr; subst hr; exact ⟨rfl, rfl⟩) (by show (_ + _) * 56 ≤ _; simp [T.rows_eq]; omega) (by simp [T.rows_eq]; omega) ?_)
              first | refine sops_go rfl (so_fieldAddr (v := .p _ _ _) rfl rfl rfl rfl rfl rfl rfl rfl rfl rfl ?_) | refine sops_go rfl (so_fieldAddr (v := .dp _ _) rfl rfl rfl rfl rfl rfl rfl rfl rfl rfl ?_) | refine sops_go rfl (so_fieldAddr (v := .pe _ _ _ _ _) rfl rfl rfl rfl rfl rfl rfl rfl rfl rfl ?_)
              refine sops_go rfl (so_store rfl rfl rfl rfl rfl rfl rfl rfl rfl (zs := [_, _, _]) rfl ?_)
              refine sops_nil ?_
              refine swp_region ?_
              refine sops_go rfl (st_move (v := .d _) rfl rfl rfl ?_)
              refine sops_go rfl (st_bin rfl rfl rfl rfl rfl ?_)
              refine sops_go rfl (st_assign (v := .d _) rfl rfl rfl ?_)
              refine sops_nil ?_
              refine ⟨⟨j + 1, nm ++ [name], ls ++ [.mk y1 y2 y3], v1 + 1, v2 + 1⟩, ⟨hlt, hj.add hnf hyf hyo, hS⟩, by show nb.length - (j + 1) < nb.length - j; omega, ?_⟩
              refine wk_of rfl (Nat.le_of_ble_eq_true rfl) (by rw [hB]; exact Nat.zero_le _) (tle_upd (le_eq (next_i64 hlt (by omega)) rfl) (tle_upd (le_eq rfl rfl) (tle_upd (le_eq rfl rfl) (tle_upd (le_eq rfl rfl) (tle_upd (le_eq rfl rfl) (tle_upd (le_eq rfl rfl) (tle_any _))))))) (hle_upd (.arr _ _ _ _ _ ((by simp [T.rows_eq, T.cells])) (rows_bnd _ _)) (hle_upd (.arr _ _ _ _ _ ((by simp [strRows])) (rows_bnd _ _)) (hle_upd (.cells _ _ ⟨le_eq rfl rfl, le_eq (own_len (by simp [strRows])) rfl, le_eq (own_len (by simp [T.rows_eq])) rfl, trivial⟩) (hle_upd (.cells _ _ ⟨le_eq rfl rfl, le_eq rfl rfl, le_eq rfl rfl, trivial⟩) (hle_upd (.cells _ _ ⟨le_any _, le_any _, le_any _, trivial⟩) (hle_upd (.cells _ _ ⟨le_any _, le_eq rfl rfl, le_eq rfl rfl, trivial⟩) (hle_upd (.cells _ _ ⟨le_any _, le_eq rfl rfl, le_eq rfl rfl, trivial⟩) (hle_dead _)))))))) (dead_upd (Nat.le_of_ble_eq_true rfl) (dead_upd (Nat.le_of_ble_eq_true rfl) (dead_upd (Nat.le_of_ble_eq_true rfl) (dead_upd (Nat.le_of_ble_eq_true rfl) (dead_upd (Nat.le_of_ble_eq_true rfl) (dead_upd (Nat.le_of_ble_eq_true rfl) (dead_upd (Nat.le_of_ble_eq_true rfl) (dead_none))))))))
            · obtain ⟨k, rfl⟩ : ∃ j, pg = some j := by
                cases pg with
                | none => have := of_decide_eq_false hc105; simp [pgI] at this
                | some j => exact ⟨j, rfl⟩
              simp only at hS
              refine swp_skip ?_
              refine swp_region ?_
              refine sops_go rfl (st_move (v := .d _) rfl rfl rfl ?_)
              refine sops_go rfl (st_bin rfl rfl rfl rfl rfl ?_)
              refine sops_go rfl (st_assign (v := .d _) rfl rfl rfl ?_)
              refine sops_nil ?_
              refine ⟨⟨j + 1, nm, ls, v1, v2⟩, ⟨hlt, hj.up, hS⟩, by show nb.length - (j + 1) < nb.length - j; omega, ?_⟩
              refine wk_of rfl (Nat.le_of_ble_eq_true rfl) (by rw [hB]; exact Nat.zero_le _) (tle_upd (le_eq (next_i64 hlt (by omega)) rfl) (tle_upd (le_eq rfl rfl) (tle_upd (le_eq rfl rfl) (tle_upd (le_eq rfl rfl) (tle_upd (le_eq rfl rfl) (tle_upd (le_eq rfl rfl) (tle_any _))))))) (hle_upd (.arr _ _ _ _ _ (rfl) (rows_bnd _ _)) (hle_upd (.arr _ _ _ _ _ (rfl) (rows_bnd _ _)) (hle_upd (.cells _ _ ⟨le_eq rfl rfl, le_eq rfl rfl, le_eq rfl rfl, trivial⟩) (hle_upd (.cells _ _ ⟨le_eq rfl rfl, le_eq rfl rfl, le_eq rfl rfl, trivial⟩) (hle_upd (.cells _ _ ⟨le_any _, le_any _, le_any _, trivial⟩) (hle_upd (.cells _ _ ⟨le_any _, le_eq rfl rfl, le_eq rfl rfl, trivial⟩) (hle_upd (.cells _ _ ⟨le_any _, le_eq rfl rfl, le_eq rfl rfl, trivial⟩) (hle_dead _)))))))) (dead_upd (Nat.le_of_ble_eq_true rfl) (dead_upd (Nat.le_of_ble_eq_true rfl) (dead_upd (Nat.le_of_ble_eq_true rfl) (dead_upd (Nat.le_of_ble_eq_true rfl) (dead_upd (Nat.le_of_ble_eq_true rfl) (dead_upd (Nat.le_of_ble_eq_true rfl) (dead_upd (Nat.le_of_ble_eq_true rfl) (dead_none))))))))
          · have he2 : j = nb.length := by have := of_decide_eq_false hc94; rw [strRows_len] at this; omega
            rw [he2, List.drop_length, show T.rjB (placesOf na) [] (lb.drop nb.length) nm ls = (nm, ls) by rw [T.rjB]; simp] at hS
            have hR : R = if ((T.mk 11 nm ls).check != 0) = true then .every else .mk 11 nm ls := hS
            have hck := rcheck_pure (.mk 11 nm ls) ⟨hj.fn, (T.fitL_iff ls).2 hj.ff⟩ false
            refine swp_exit ?_
            with_reducible refine after_exit ?_
            with_reducible refine after_exit ?_
            refine inblk_hit ?_
            refine swp_seq ?_
            refine swp_seq ?_
            refine swp_region ?_
            first | refine sops_go rfl (so_load (v := .d (.agg [_, _, _])) rfl rfl rfl rfl rfl rfl rfl rfl ?_) | refine sops_go rfl (so_load (v := .agg [_, _, _]) rfl rfl rfl rfl rfl rfl rfl rfl ?_)
            refine sops_go rfl (st_call rfl rfl (hck) ⟨na_agg ⟨na_d _, na_row rfl rfl, na_row rfl rfl, trivial⟩, trivial⟩ rfl ?_)
            refine sops_go rfl (st_bin rfl rfl rfl rfl rfl ?_)
            refine sops_nil ?_
            refine swp_cond _ rfl (fun hc128 => ?_) (fun hc128 => ?_)
            · rw [if_pos hc128] at hR
              have hS := hR
              refine swp_seq ?_
              refine swp_region ?_
              first | refine sops_go rfl (so_load (v := .d (.agg [_, _, _])) rfl rfl rfl rfl rfl rfl rfl rfl ?_) | refine sops_go rfl (so_load (v := .agg [_, _, _]) rfl rfl rfl rfl rfl rfl rfl rfl ?_)
              refine sops_go rfl (so_store rfl rfl rfl rfl rfl rfl rfl rfl rfl (zs := [_, _, _]) rfl ?_)
              refine sops_nil ?_
              refine swp_ret ?_
              with_reducible refine after_ret ?_
              exact fin_c rfl (rc_of rfl rfl rfl rfl rfl (by rw [hS]; exact ra_dagg ⟨ra_d (keeps_v _), ra_nil, ra_nil, trivial⟩))
            · rw [if_neg (by rw [hc128]; simp)] at hR
              have hS := hR
              refine swp_skip ?_
              refine swp_seq ?_
              refine swp_region ?_
              first | refine sops_go rfl (so_load (v := .d (.agg [_, _, _])) rfl rfl rfl rfl rfl rfl rfl rfl ?_) | refine sops_go rfl (so_load (v := .agg [_, _, _]) rfl rfl rfl rfl rfl rfl rfl rfl ?_)
              refine sops_go rfl (so_store rfl rfl rfl rfl rfl rfl rfl rfl rfl (zs := [_, _, _]) rfl ?_)
              refine sops_nil ?_
              refine swp_ret ?_
              exact fin_c rfl (rc_of rfl rfl rfl rfl rfl (by rw [hS]; exact ra_agg ⟨ra_d (keeps_v _), ra_row rfl rfl (strRows_keeps _), ra_row rfl rfl (T.rows_keeps _), trivial⟩))
end Go.Proofs.YtdcpnpcmgfmenaaDoor
/-
  Plain law: being part goes on; both are part of their join. Conditions: none.
-/
set_option linter.unusedVariables false
set_option linter.unusedSimpArgs false
namespace Go.Proofs.YtdcpnpcmgfmenaaDoor
open Go Go.Proofs.YtdcpnpcmgfmenaaDoor.Lg

theorem T.sub_refl (a : T) : a.formed = true → a.sub a = true := by
  revert a
  apply T.ind
  intro ka na la ih ha
  have ia := T.inv ha
  rw [T.sub_w ia ia]
  by_cases h11 : ka = 11
  · exact .union h11 h11 fun i n x hn hx => ⟨i, x, hn, hx, ih x (List.mem_of_getElem? hx) (ia.all x (List.mem_of_getElem? hx))⟩
  · exact .same rfl h11 rfl rfl fun i x y hx hy => by
      rw [hx] at hy
      cases hy
      exact ih x (List.mem_of_getElem? hx) (ia.all x (List.mem_of_getElem? hx))

theorem T.sub_trans (a : T) : ∀ b c : T, a.formed = true → b.formed = true → c.formed = true → a.sub b = true → b.sub c = true → a.sub c = true := by
  revert a
  apply T.ind
  intro ka na la ih b c ha hb hc h1 h2
  obtain ⟨kb, nb, lb⟩ := b
  obtain ⟨kc, nc, lc⟩ := c
  have ia := T.inv ha
  have ib := T.inv hb
  have ic := T.inv hc
  rw [T.sub_w ia ib] at h1
  rw [T.sub_w ib ic] at h2
  rw [T.sub_w ia ic]
  cases h2 with
  | any h => exact .any h
  | num e1 e2 =>
    cases h1 with
    | any h => omega
    | num f1 f2 => omega
    | union f1 f2 _ => omega
    | same f1 _ _ _ _ => exact .num (by omega) e2
  | union e1 e2 e3 =>
    cases h1 with
    | any h => omega
    | num f1 f2 => omega
    | same f1 f2 _ _ _ => omega
    | union f1 f2 f3 =>
      refine .union f1 e2 fun i n x hn hx => ?_
      obtain ⟨k, y, g1, g2, g3⟩ := f3 i n x hn hx
      obtain ⟨k', z, g4, g5, g6⟩ := e3 k n y g1 g2
      exact ⟨k', z, g4, g5, ih x (List.mem_of_getElem? hx) y z (ia.all x (List.mem_of_getElem? hx)) (ib.all y (List.mem_of_getElem? g2)) (ic.all z (List.mem_of_getElem? g5)) g3 g6⟩
  | same e1 e2 e3 e4 e5 =>
    cases h1 with
    | any h => exact .any (by omega)
    | num f1 f2 => exact .num f1 (by omega)
    | union f1 f2 _ => omega
    | same f1 f2 f3 f4 f5 =>
      refine .same (by omega) f2 (f3.trans e3) (by omega) fun i x z hx hz => ?_
      have hi : i < lb.length := by have := (List.getElem?_eq_some_iff.1 hx).1; omega
      have hy : lb[i]? = some lb[i] := List.getElem?_eq_getElem hi
      exact ih x (List.mem_of_getElem? hx) _ z (ia.all x (List.mem_of_getElem? hx)) (ib.all _ (List.mem_of_getElem? hy)) (ic.all z (List.mem_of_getElem? hz)) (f5 i x _ hx hy) (e5 i _ z hy hz)

structure JW (ns : List ByteArray) (ys : List T) (nm : List ByteArray) (ls : List T) (nm' : List ByteArray) (ls' : List T) : Prop where
  formed : ∀ z ∈ ls', z.formed = true
  keep : ∀ (k : Nat) n z, nm[k]? = some n → ls[k]? = some z → ∃ z', nm'[k]? = some n ∧ ls'[k]? = some z' ∧ z.sub z' = true
  new : ∀ (j : Nat) n y, ns[j]? = some n → ys[j]? = some y → ∃ (k : Nat) (z : T), nm'[k]? = some n ∧ ls'[k]? = some z ∧ y.sub z = true

theorem joinL_w (pl : List (ByteArray × Nat)) : ∀ (ns : List ByteArray) (ys : List T) (nm : List ByteArray) (ls : List T) (nm' : List ByteArray) (ls' : List T), ns.length = ys.length → (∀ y ∈ ys, y.formed = true) → (∀ z ∈ ls, z.formed = true) →
    nm.length = ls.length → (∀ n k, pget pl n = some k → nm[k]? = some n) → T.joinL pl ns ys nm ls = some (nm', ls') → JW ns ys nm ls nm' ls'
  | [], ys, nm, ls, nm', ls', hl, hy, hz, hlen, hpl, h => by
    rw [T.joinL] at h
    · injection h with h
      injection h with h1 h2
      subst h1; subst h2
      exact ⟨hz, fun k n z hn hz' => ⟨z, hn, hz', T.sub_refl z (hz z (List.mem_of_getElem? hz'))⟩, fun j n y hn => by simp at hn⟩
    · simp
  | _ :: _, [], _, _, _, _, hl, _, _, _, _, _ => by simp at hl
  | n :: ns, y :: ys, nm, ls, nm', ls', hl, hy, hz, hlen, hpl, h => by
    rw [T.joinL] at h
    have hy0 := hy y (by simp)
    have hys : ∀ x ∈ ys, x.formed = true := fun x hx => hy x (by simp [hx])
    have hl' : ns.length = ys.length := by simpa using hl
    cases hp : pget pl n with
    | none =>
      simp only [hp] at h
      have ihw := joinL_w pl ns ys (nm ++ [n]) (ls ++ [y]) nm' ls' hl' hys (by intro z hz'; simp at hz'; rcases hz' with hz' | rfl; exact hz z hz'; exact hy0) (by simp [hlen])
        (fun m k hk => by
          have h1 := hpl m k hk
          have := (List.getElem?_eq_some_iff.1 h1).1
          rw [List.getElem?_append_left this]; exact h1) h
      refine ⟨ihw.formed, fun k m z hm hz' => ihw.keep k m z ?_ ?_, fun j m x hm hx => ?_⟩
      · rw [List.getElem?_append_left (List.getElem?_eq_some_iff.1 hm).1]; exact hm
      · rw [List.getElem?_append_left (List.getElem?_eq_some_iff.1 hz').1]; exact hz'
      · cases j with
        | zero =>
          simp at hm hx
          subst hm; subst hx
          obtain ⟨z', g1, g2, g3⟩ := ihw.keep nm.length n y (by simp) (by simp [hlen])
          exact ⟨_, z', g1, g2, g3⟩
        | succ j => exact ihw.new j m x (by simpa using hm) (by simpa using hx)
    | some k =>
      simp only [hp] at h
      have hk := hpl n k hp
      have hkl : k < ls.length := by have := (List.getElem?_eq_some_iff.1 hk).1; omega
      have hlk : ls[k]? = some ls[k] := List.getElem?_eq_getElem hkl
      have hg : ls.getD k .every = ls[k] := by simp [List.getD, hlk]
      rw [hg] at h
      have hzk := hz _ (List.getElem_mem hkl)
      split at h
      · rename_i hs
        have ihw := joinL_w pl ns ys nm ls nm' ls' hl' hys hz hlen hpl h
        refine ⟨ihw.formed, ihw.keep, fun j m x hm hx => ?_⟩
        cases j with
        | zero =>
          simp at hm hx
          subst hm; subst hx
          obtain ⟨z', g1, g2, g3⟩ := ihw.keep k n _ hk hlk
          exact ⟨k, z', g1, g2, T.sub_trans y _ z' hy0 hzk (ihw.formed z' (List.mem_of_getElem? g2)) hs g3⟩
        | succ j => exact ihw.new j m x (by simpa using hm) (by simpa using hx)
      · split at h
        · rename_i hs hs2
          have ihw := joinL_w pl ns ys nm (ls.set k y) nm' ls' hl' hys (by intro z hz'; rcases List.mem_or_eq_of_mem_set hz' with hz' | rfl; exact hz z hz'; exact hy0) (by simpa using hlen) hpl h
          refine ⟨ihw.formed, fun j m z hm hz' => ?_, fun j m x hm hx => ?_⟩
          · by_cases e : j = k
            · subst e
              rw [hlk] at hz'
              injection hz' with hz'
              subst hz'
              obtain ⟨z', g1, g2, g3⟩ := ihw.keep j m y hm (by simp [hkl])
              exact ⟨z', g1, g2, T.sub_trans _ y z' hzk hy0 (ihw.formed z' (List.mem_of_getElem? g2)) hs2 g3⟩
            · exact ihw.keep j m z hm (by rw [List.getElem?_set_ne (Ne.symm e)]; exact hz')
          · cases j with
            | zero =>
              simp at hm hx
              subst hm; subst hx
              obtain ⟨z', g1, g2, g3⟩ := ihw.keep k n y hk (by simp [hkl])
              exact ⟨k, z', g1, g2, g3⟩
            | succ j => exact ihw.new j m x (by simpa using hm) (by simpa using hx)
        · cases h

theorem T.every_formed : T.every.formed = true := by unfold T.every; rw [T.formed]; rfl
theorem T.every_check : T.every.check = 0 := by kernel_rfl
theorem T.sub_every (a : T) : a.sub .every = true := by obtain ⟨k, n, l⟩ := a; unfold T.every; rw [T.sub]; rfl

/-- Both are part of their join, and it is a type. -/
theorem T.join_ok (a b : T) (ha : a.check = 0) (hb : b.check = 0) : (a.join b).check = 0 ∧ a.sub (a.join b) = true ∧ b.sub (a.join b) = true := by
  have fa := T.check_ok ha
  have fb := T.check_ok hb
  unfold T.join
  split
  · rename_i h; exact ⟨hb, h, T.sub_refl b fb⟩
  · split
    · rename_i h; exact ⟨ha, T.sub_refl a fa, h⟩
    · split
      · exact ⟨T.every_check, T.sub_every a, T.sub_every b⟩
      · rename_i hk
        obtain ⟨ka, na, la⟩ := a
        obtain ⟨kb, nb, lb⟩ := b
        have hk' := Bool.or_eq_false_iff.1 (Bool.not_eq_true _ ▸ hk)
        have hka : ka = 11 := by simpa [T.kind] using hk'.1
        have hkb : kb = 11 := by simpa [T.kind] using hk'.2
        have ia := T.inv fa
        have ib := T.inv fb
        simp only [T.names, T.list]
        cases hj : T.joinL (placesOf na) nb lb na la with
        | none => exact ⟨T.every_check, T.sub_every _, T.sub_every _⟩
        | some p =>
          obtain ⟨nm, ls⟩ := p
          simp only [T.joinFin]
          split
          · exact ⟨T.every_check, T.sub_every _, T.sub_every _⟩
          · rename_i hc
            have hc : (T.mk 11 nm ls).check = 0 := by simpa using hc
            have it := T.inv (T.check_ok hc)
            have w := joinL_w (placesOf na) nb lb na la nm ls (ib.same (.inr hkb)) ib.all ia.all (ia.same (.inr hka)) (fun n k h => (place_iff (ia.some (.inr hka))).1 h) hj
            refine ⟨hc, (T.sub_w ia it).2 (.union hka rfl fun i n x hn hx => ?_), (T.sub_w ib it).2 (.union hkb rfl fun i n x hn hx => w.new i n x hn hx)⟩
            obtain ⟨z, g1, g2, g3⟩ := w.keep i n x hn hx
            exact ⟨i, z, g1, g2, g3⟩
end Go.Proofs.YtdcpnpcmgfmenaaDoor
/-
  The document's Join is the program's. No program in sight. Conditions: none.
-/
set_option linter.unusedVariables false
set_option maxRecDepth 100000
namespace Go.Proofs.YtdcpnpcmgfmenaaDoor
open Go Go.Proofs.YtdcpnpcmgfmenaaDoor.Lg

def T.pick (x y : T) : Option T := if y.sub x = true then some x else if x.sub y = true then some y else .none
def look : List ByteArray → List T → ByteArray → Option T
  | n :: ns, y :: ys, m => if n = m then some y else look ns ys m
  | _, _, _ => .none
def elOf : Option T → T → Option T
  | .none, x => some x
  | some y, x => T.pick x y
theorem look_none : ∀ (ns : List ByteArray) (ys : List T) (m : ByteArray), m ∉ ns → look ns ys m = .none
  | [], ys, m, _ => by rw [look]; simp
  | n :: ns, [], m, _ => by rw [look]; simp
  | n :: ns, y :: ys, m, h => by
    rw [look, if_neg (fun e => h (by simp [e]))]
    exact look_none ns ys m (fun hm => h (by simp [hm]))
theorem look_at : ∀ (ns : List ByteArray) (ys : List T) (m : ByteArray) (k : Nat), ns.Nodup → ns.length = ys.length → ns[k]? = some m → look ns ys m = ys[k]?
  | [], ys, m, k, _, _, h => by simp at h
  | n :: ns, [], m, k, _, hl, _ => by simp at hl
  | n :: ns, y :: ys, m, 0, _, _, h => by simp at h; rw [look, if_pos h]; rfl
  | n :: ns, y :: ys, m, k + 1, hn, hl, h => by
    have hn' := List.nodup_cons.1 hn
    have h' : ns[k]? = some m := by simpa using h
    rw [look, if_neg (fun e : n = m => hn'.1 (by rw [e]; exact List.mem_of_getElem? h')), look_at ns ys m k hn'.2 (by simpa using hl) h']
    simp
theorem look_pget {nb : List ByteArray} {lb : List T} (h : (placesOf nb).length = nb.length) (hl : nb.length = lb.length) (m : ByteArray) : look nb lb m = (pget (placesOf nb) m).map fun k => lb.getD k .every := by
  cases hp : pget (placesOf nb) m with
  | none => rw [look_none nb lb m ((pget_mem h).1 hp)]; rfl
  | some k =>
    have hk := (place_iff h).1 hp
    rw [look_at nb lb m k (placesOf_nd h) hl hk]
    have : k < lb.length := by have := (List.getElem?_eq_some_iff.1 hk).1; omega
    simp [List.getD, this]

def elems (nb : List ByteArray) (lb : List T) : List ByteArray → List T → Option (List T)
  | n :: ns, x :: xs => (elOf (look nb lb n) x).bind fun z => (elems nb lb ns xs).map (z :: ·)
  | _, _ => some []
theorem elems_nil (nb : List ByteArray) (lb : List T) (xs : List T) : elems nb lb [] xs = some [] := by rw [elems]; simp
theorem rjA_eq {nb : List ByteArray} {lb : List T} {pl : List (ByteArray × Nat)} (hp : ∀ m, look nb lb m = (pget pl m).map fun k => lb.getD k .every) : ∀ (ns : List ByteArray) (xs : List T) (nm : List ByteArray) (ls : List T), ns.length = xs.length →
    T.rjA pl lb ns xs nm ls = (elems nb lb ns xs).map fun L => (nm ++ ns, ls ++ L)
  | [], [], nm, ls, _ => by rw [elems_nil, T.rjA] <;> simp
  | [], _ :: _, nm, ls, h => by simp at h
  | _ :: _, [], nm, ls, h => by simp at h
  | n :: ns, x :: xs, nm, ls, h => by
    have h' : ns.length = xs.length := by simpa using h
    rw [T.rjA, elems, hp n]
    cases hq : pget pl n with
    | none =>
      simp only [Option.map_none, elOf, Option.bind_some]
      rw [rjA_eq hp ns xs _ _ h']
      cases elems nb lb ns xs <;> simp
    | some k =>
      simp only [Option.map_some, elOf, T.pick]
      split
      · rw [rjA_eq hp ns xs _ _ h']
        cases elems nb lb ns xs <;> simp
      · split
        · rw [rjA_eq hp ns xs _ _ h']
          cases elems nb lb ns xs <;> simp
        · rfl

def newN (pl : List (ByteArray × Nat)) : List ByteArray → List T → List ByteArray
  | n :: ns, y :: ys => match pget pl n with | .none => n :: newN pl ns ys | some _ => newN pl ns ys
  | _, _ => []
def newY (pl : List (ByteArray × Nat)) : List ByteArray → List T → List T
  | n :: ns, y :: ys => match pget pl n with | .none => y :: newY pl ns ys | some _ => newY pl ns ys
  | _, _ => []
theorem rjB_eq (pl : List (ByteArray × Nat)) : ∀ (ns : List ByteArray) (ys : List T) (nm : List ByteArray) (ls : List T), T.rjB pl ns ys nm ls = (nm ++ newN pl ns ys, ls ++ newY pl ns ys)
  | [], ys, nm, ls => by rw [T.rjB, newN, newY] <;> simp
  | n :: ns, [], nm, ls => by rw [T.rjB, newN, newY] <;> simp
  | n :: ns, y :: ys, nm, ls => by
    rw [T.rjB, newN, newY]
    cases pget pl n with
    | none => simp only [rjB_eq pl ns ys]; simp
    | some k => simp only [rjB_eq pl ns ys]
def foldC (pl : List (ByteArray × Nat)) : List ByteArray → List T → List T → Option (List T)
  | n :: ns, y :: ys, L => match pget pl n with
    | .none => foldC pl ns ys L
    | some k => (T.pick (L.getD k .every) y).bind fun z => foldC pl ns ys (L.set k z)
  | _, _, L => some L
theorem set_same (L : List T) (k : Nat) (h : k < L.length) : L.set k (L.getD k .every) = L := by
  simp [List.getD, h]
theorem joinL_eq (pl : List (ByteArray × Nat)) : ∀ (ns : List ByteArray) (ys : List T) (nm : List ByteArray) (L Z : List T), (∀ m k, pget pl m = some k → k < L.length) →
    T.joinL pl ns ys nm (L ++ Z) = (foldC pl ns ys L).map fun L' => (nm ++ newN pl ns ys, L' ++ Z ++ newY pl ns ys)
  | [], ys, nm, L, Z, _ => by rw [T.joinL, foldC, newN, newY] <;> simp
  | n :: ns, [], nm, L, Z, _ => by rw [T.joinL, foldC, newN, newY] <;> simp
  | n :: ns, y :: ys, nm, L, Z, hp => by
    rw [T.joinL, foldC, newN, newY]
    cases hq : pget pl n with
    | none =>
      simp only
      rw [List.append_assoc, joinL_eq pl ns ys _ L (Z ++ [y]) hp]
      cases foldC pl ns ys L <;> simp
    | some k =>
      have hk := hp n k hq
      have e1 : (L ++ Z).getD k .every = L.getD k .every := by simp [List.getD, List.getElem?_append_left hk]
      simp only [e1, T.pick]
      split
      · rw [joinL_eq pl ns ys nm L Z hp]
        simp only [Option.bind_some, set_same L k hk]
      · split
        · rw [List.set_append_left _ _ hk, joinL_eq pl ns ys nm (L.set k y) Z (by simpa using hp)]
          simp only [Option.bind_some]
        · rfl

theorem elems_iff (nb : List ByteArray) (lb : List T) : ∀ (ns : List ByteArray) (xs L' : List T), ns.length = xs.length →
    (elems nb lb ns xs = some L' ↔ L'.length = xs.length ∧ ∀ (i : Nat) n x z, ns[i]? = some n → xs[i]? = some x → L'[i]? = some z → elOf (look nb lb n) x = some z)
  | [], [], L', _ => by
    rw [elems_nil]
    constructor
    · intro h; injection h with h; subst h; simp
    · rintro ⟨h, _⟩; rw [List.eq_nil_of_length_eq_zero h]
  | [], _ :: _, _, h => by simp at h
  | _ :: _, [], _, h => by simp at h
  | n :: ns, x :: xs, L', h => by
    have h' : ns.length = xs.length := by simpa using h
    rw [elems, Option.bind_eq_some_iff]
    constructor
    · rintro ⟨z, hz, h2⟩
      obtain ⟨L, hL, rfl⟩ := Option.map_eq_some_iff.1 h2
      obtain ⟨g1, g2⟩ := (elems_iff nb lb ns xs L h').1 hL
      refine ⟨by simp [g1], fun i n' x' z' e1 e2 e3 => ?_⟩
      cases i with
      | zero => simp at e1 e2 e3; subst e1; subst e2; subst e3; exact hz
      | succ i => exact g2 i n' x' z' (by simpa using e1) (by simpa using e2) (by simpa using e3)
    · rintro ⟨g1, g2⟩
      cases L' with
      | nil => simp at g1
      | cons z L =>
        refine ⟨z, g2 0 n x z rfl rfl rfl, ?_⟩
        rw [(elems_iff nb lb ns xs L h').2 ⟨by simpa using g1, fun i n' x' z' e1 e2 e3 => g2 (i + 1) n' x' z' (by simpa using e1) (by simpa using e2) (by simpa using e3)⟩]
        rfl

theorem foldC_iff {na : List ByteArray} (hpa : (placesOf na).length = na.length) : ∀ (ns : List ByteArray) (ys L L' : List T), ns.Nodup → ns.length = ys.length → na.length = L.length →
    (foldC (placesOf na) ns ys L = some L' ↔ L'.length = L.length ∧ ∀ (i : Nat) n x z, na[i]? = some n → L[i]? = some x → L'[i]? = some z → elOf (look ns ys n) x = some z)
  | [], ys, L, L', _, _, hl => by
    rw [foldC]
    · constructor
      · intro h; injection h with h; subst h
        refine ⟨rfl, fun i n x z _ e2 e3 => ?_⟩
        rw [look_none [] ys n (by simp)]
        rw [e2] at e3; exact e3
      · rintro ⟨h1, h2⟩
        congr 1
        refine List.ext_getElem h1.symm fun i g1 g2 => ?_
        have := h2 i (na[i]'(by omega)) L[i] L'[i] (List.getElem?_eq_getElem _) (List.getElem?_eq_getElem _) (List.getElem?_eq_getElem _)
        rw [look_none [] ys _ (by simp)] at this
        injection this
    · simp
  | n :: ns, [], _, _, _, h, _ => by simp at h
  | n :: ns, y :: ys, L, L', hn, h, hl => by
    have h' : ns.length = ys.length := by simpa using h
    have hn' := List.nodup_cons.1 hn
    rw [foldC]
    cases hq : pget (placesOf na) n with
    | none =>
      have hnot := (pget_mem hpa).1 hq
      simp only
      rw [foldC_iff hpa ns ys L L' hn'.2 h' hl]
      refine and_congr_right fun _ => ?_
      constructor
      · intro g i m x z e1 e2 e3
        rw [look, if_neg (fun e : n = m => hnot (by rw [e]; exact List.mem_of_getElem? e1))]
        exact g i m x z e1 e2 e3
      · intro g i m x z e1 e2 e3
        have := g i m x z e1 e2 e3
        rw [look, if_neg (fun e : n = m => hnot (by rw [e]; exact List.mem_of_getElem? e1))] at this
        exact this
    | some k =>
      have hk := (place_iff hpa).1 hq
      have hkl : k < L.length := by have := (List.getElem?_eq_some_iff.1 hk).1; omega
      have hgd : L.getD k .every = L[k] := by simp [List.getD, hkl]
      have hnn := look_none ns ys n hn'.1
      simp only [hgd]
      rw [Option.bind_eq_some_iff]
      constructor
      · rintro ⟨z, hz, h2⟩
        obtain ⟨g1, g2⟩ := (foldC_iff hpa ns ys (L.set k z) L' hn'.2 h' (by simpa using hl)).1 h2
        have g1' : L'.length = L.length := by simpa using g1
        refine ⟨g1', fun i m x w e1 e2 e3 => ?_⟩
        by_cases hi : i = k
        · subst hi
          have hm : m = n := by rw [e1] at hk; injection hk
          subst hm
          have hx : x = L[i] := by rw [List.getElem?_eq_getElem hkl] at e2; injection e2 with e2; exact e2.symm
          subst hx
          have := g2 i m z w e1 (by simp [hkl]) e3
          rw [hnn] at this
          injection this with this
          subst this
          rw [look, if_pos rfl]; exact hz
        · have hm : n ≠ m := fun e => hi (nd_inj (placesOf_nd hpa) (e ▸ e1) hk)
          rw [look, if_neg hm]
          exact g2 i m x w e1 (by rw [List.getElem?_set_ne (Ne.symm hi)]; exact e2) e3
      · rintro ⟨g1, g2⟩
        have hkl' : k < L'.length := by omega
        have h0 := g2 k n L[k] L'[k] hk (List.getElem?_eq_getElem _) (List.getElem?_eq_getElem _)
        rw [look, if_pos rfl] at h0
        refine ⟨L'[k], h0, (foldC_iff hpa ns ys (L.set k L'[k]) L' hn'.2 h' (by simpa using hl)).2 ⟨by simpa using g1, fun i m x w e1 e2 e3 => ?_⟩⟩
        by_cases hi : i = k
        · subst hi
          have hm : m = n := by rw [e1] at hk; injection hk
          subst hm
          rw [hnn]
          simp [hkl] at e2
          rw [List.getElem?_eq_getElem hkl'] at e3
          injection e3 with e3
          rw [← e2, ← e3]; rfl
        · have hm : n ≠ m := fun e => hi (nd_inj (placesOf_nd hpa) (e ▸ e1) hk)
          have := g2 i m x w e1 (by rw [List.getElem?_set_ne (Ne.symm hi)] at e2; exact e2) e3
          rw [look, if_neg hm] at this
          exact this

theorem T.rjoin_eq (a b : T) (ha : a.formed = true) (hb : b.formed = true) : a.rjoin b = a.join b := by
  obtain ⟨ka, na, la⟩ := a
  obtain ⟨kb, nb, lb⟩ := b
  have ia := T.inv ha
  have ib := T.inv hb
  unfold T.rjoin T.join
  split
  · rfl
  · split
    · rfl
    · split
      · rfl
      · rename_i hk
        simp only [T.kind, Bool.or_eq_true, bne_iff_ne, ne_eq, not_or, Decidable.not_not] at hk
        have hla := ia.same (.inr hk.1)
        have hlb := ib.same (.inr hk.2)
        have hpa := ia.some (.inr hk.1)
        have hpb := ib.some (.inr hk.2)
        simp only [T.names, T.list]
        have h1 := rjA_eq (look_pget hpb hlb) na la [] [] hla
        have h2 := joinL_eq (placesOf na) nb lb na la [] (fun m k h => by have := pget_lt h; omega)
        rw [List.append_nil] at h2
        have h3 : elems nb lb na la = foldC (placesOf na) nb lb la := by
          refine Option.ext fun L' => ?_
          rw [elems_iff nb lb na la L' hla, foldC_iff hpa nb lb la L' (placesOf_nd hpb) hlb hla]
        rw [h1, h2, h3]
        cases foldC (placesOf na) nb lb la with
        | none => rfl
        | some L => simp [rjB_eq]
end Go.Proofs.YtdcpnpcmgfmenaaDoor
/-
  Walks: the laws TypesThree and TypesAny. Conditions: none.
-/
set_option linter.unusedVariables false
set_option maxRecDepth 100000
namespace Go.Proofs.YtdcpnpcmgfmenaaDoor
open Go Go.Proofs.YtdcpnpcmgfmenaaDoor.Lg

theorem joinL_fit (pl : List (ByteArray × Nat)) : ∀ (ns : List ByteArray) (ys : List T) (nm : List ByteArray) (ls : List T) (nm' : List ByteArray) (ls' : List T), (∀ n ∈ ns, fits n) → (∀ y ∈ ys, y.fit) → (∀ n ∈ nm, fits n) → (∀ z ∈ ls, z.fit) →
    T.joinL pl ns ys nm ls = some (nm', ls') → (∀ n ∈ nm', fits n) ∧ ∀ z ∈ ls', z.fit
  | [], ys, nm, ls, nm', ls', h1, h2, h3, h4, h => by
    rw [T.joinL] at h
    · injection h with h; injection h with e1 e2; subst e1; subst e2; exact ⟨h3, h4⟩
    · simp
  | n :: ns, [], nm, ls, nm', ls', h1, h2, h3, h4, h => by
    rw [T.joinL] at h
    · injection h with h; injection h with e1 e2; subst e1; subst e2; exact ⟨h3, h4⟩
    · simp
  | n :: ns, y :: ys, nm, ls, nm', ls', h1, h2, h3, h4, h => by
    rw [T.joinL] at h
    have h1' : ∀ x ∈ ns, fits x := fun x hx => h1 x (by simp [hx])
    have h2' : ∀ x ∈ ys, x.fit := fun x hx => h2 x (by simp [hx])
    cases hp : pget pl n with
    | none =>
      simp only [hp] at h
      exact joinL_fit pl ns ys _ _ nm' ls' h1' h2' (by intro x hx; simp at hx; rcases hx with hx | rfl; exact h3 x hx; exact h1 x (by simp)) (by intro x hx; simp at hx; rcases hx with hx | rfl; exact h4 x hx; exact h2 x (by simp)) h
    | some k =>
      simp only [hp] at h
      split at h
      · exact joinL_fit pl ns ys _ _ nm' ls' h1' h2' h3 h4 h
      · split at h
        · exact joinL_fit pl ns ys _ _ nm' ls' h1' h2' h3 (by intro x hx; rcases List.mem_or_eq_of_mem_set hx with hx | rfl; exact h4 x hx; exact h2 x (by simp)) h
        · cases h
theorem T.every_fit : T.every.fit := tf_plain 1
theorem T.Join_fit {a b : T} (ha : a.fit) (hb : b.fit) : (a.Join b).1.fit := by
  unfold T.Join
  split
  · exact tf_plain 0
  · show (a.join b).fit
    unfold T.join
    split
    · exact hb
    · split
      · exact ha
      · split
        · exact T.every_fit
        · obtain ⟨ka, na, la⟩ := a
          obtain ⟨kb, nb, lb⟩ := b
          simp only [T.names, T.list]
          cases hj : T.joinL (placesOf na) nb lb na la with
          | none => exact T.every_fit
          | some p =>
            obtain ⟨nm, ls⟩ := p
            obtain ⟨h1, h2⟩ := joinL_fit _ nb lb na la nm ls hb.1 ((T.fitL_iff lb).1 hb.2) ha.1 ((T.fitL_iff la).1 ha.2) hj
            simp only [T.joinFin]
            split
            · exact T.every_fit
            · exact ⟨h1, (T.fitL_iff ls).2 h2⟩
theorem T.Sub_eq {a b : T} (ha : a.check = 0) (hb : b.check = 0) : a.Sub b = (a.sub b, 0) := by
  have h : a.both b = 0 := by unfold T.both; rw [if_neg (by rw [ha]; simp)]; exact hb
  unfold T.Sub; rw [if_neg (by rw [h]; simp)]
theorem T.Has_eq {a : T} {v : V} (ha : a.check = 0) (hv : v.check = 0) : a.Has v = (a.has v, 0) := by
  unfold T.Has; rw [if_neg (by rw [ha]; simp), if_neg (by rw [hv]; simp)]

theorem TypesThree_pure (a b c : T) (ha : a.fit) (hb : b.fit) (hc : c.fit) : Pure env 5 [.d a.d, .d b.d, .d c.d] (.d (.v (.bool true))) := by
  have c0a := bigType_s a
  have c0b := bigType_s b
  have c0c := bigType_s c
  have c1 := Sub_pure a b ha hb true true
  have c2 := Sub_pure b c hb hc true true
  have c3 := Sub_pure a c ha hc true true
  have c4 := Sub_pure a a ha ha true true
  have c5 := Join_pure a b ha hb
  have c6 := Sub_pure a (a.Join b).1 ha (T.Join_fit ha hb) true true
  have c7 := Sub_pure b (a.Join b).1 hb (T.Join_fit ha hb) true true
  have hlaw : (a.Sub b).2 = 0 → (b.Sub c).2 = 0 → (a.Sub c).2 = 0 → (a.Sub a).2 = 0 → (a.Sub a).1 = true ∧ ((a.Sub b).1 = true → (b.Sub c).1 = true → (a.Sub c).1 = true) ∧ (a.Join b).2 = 0 ∧ a.Sub (a.Join b).1 = (true, 0) ∧ b.Sub (a.Join b).1 = (true, 0) := by
    intro e1 e2 e3 e4
    obtain ⟨h1, h2, h3⟩ := T.Sub_ok e1
    obtain ⟨h4, h5, h6⟩ := T.Sub_ok e2
    obtain ⟨h7, h8, h9⟩ := T.Sub_ok e3
    obtain ⟨h10, h11, h12⟩ := T.Sub_ok e4
    have hj : a.Join b = (a.join b, 0) := by
      have h : a.both b = 0 := by unfold T.both; rw [if_neg (by rw [h1]; simp)]; exact h2
      unfold T.Join; rw [if_neg (by rw [h]; simp)]
    obtain ⟨g1, g2, g3⟩ := T.join_ok a b h1 h2
    rw [hj, h12, h3, h6, h9, T.Sub_eq h1 g1, T.Sub_eq h2 g1, g2, g3]
    exact ⟨T.sub_refl a (T.check_ok h1), T.sub_trans a b c (T.check_ok h1) (T.check_ok h2) (T.check_ok h5), rfl, rfl, rfl⟩
  generalize a.Sub b = r1 at *
  generalize b.Sub c = r2 at *
  generalize a.Sub c = r3 at *
  generalize a.Sub a = r4 at *
  generalize a.Join b = r5 at *
  obtain ⟨j, i5⟩ := r5
  simp only at c5 c6 c7 hlaw
  generalize a.Sub j = r6 at *
  generalize b.Sub j = r7 at *
  rw [T.df_d] at c0a c0b c0c ⊢
  rw [T.df_d, T.df_d]
  rw [T.df_d] at c5
  obtain ⟨p1, e1⟩ := r1
  obtain ⟨p2, e2⟩ := r2
  obtain ⟨p3, e3⟩ := r3
  obtain ⟨p4, e4⟩ := r4
  obtain ⟨p6, e6⟩ := r6
  obtain ⟨p7, e7⟩ := r7
  obtain ⟨ka, na, la⟩ := a
  obtain ⟨kb, nb, lb⟩ := b
  obtain ⟨kc, nc, lc⟩ := c
  obtain ⟨kj, nj, lj⟩ := j
  refine pure_of_body Tryd.func5 rfl rfl rfl fun B hB => ?_
  refine swp_seq ?_
  refine swp_region ?_
  refine sops_go rfl (so_box (cs := [_, _, _]) rfl rfl rfl ?_)
  refine sops_go rfl (so_box (cs := [_, _, _]) rfl rfl rfl ?_)
  refine sops_go rfl (so_box (cs := [_, _, _]) rfl rfl rfl ?_)
  refine sops_go rfl (st_assign (v := .d _) rfl rfl rfl ?_)
  refine sops_nil ?_
  refine swp_seq ?_
  refine swp_seq ?_
  refine swp_region ?_
  first | refine sops_go rfl (so_load (v := .d (.agg [_, _, _])) rfl rfl rfl rfl rfl rfl rfl rfl ?_) | refine sops_go rfl (so_load (v := .agg [_, _, _]) rfl rfl rfl rfl rfl rfl rfl rfl ?_)
  refine sops_go rfl (st_callS rfl rfl (c0a) ⟨na_d _, trivial⟩ rfl fun r hr => ?_)
  obtain ⟨b1, rfl⟩ := hr
  refine sops_go rfl (st_move (v := .d _) rfl rfl rfl ?_)
  refine sops_case 23 rfl (fun hb23 => ?_) (fun hb23 => ?_)
  · refine sops_no rfl rfl rfl rfl rfl ?_
    refine sops_no rfl rfl rfl rfl rfl ?_
    refine sops_go rfl (st_pick (v := .d _) rfl rfl rfl rfl ?_)
    refine sops_go rfl (st_move (v := .d _) rfl rfl rfl ?_)
    refine sops_no rfl rfl rfl rfl rfl ?_
    refine sops_no rfl rfl rfl rfl rfl ?_
    refine sops_go rfl (st_pick (v := .d _) rfl rfl rfl rfl ?_)
    refine sops_nil ?_
    refine swp_condT rfl ?_
    refine swp_seq ?_
    refine swp_region ?_
    refine sops_go rfl (st_assign (v := .d _) rfl rfl rfl ?_)
    refine sops_nil ?_
    refine swp_ret ?_
    with_reducible refine after_ret ?_
    exact fin_b rfl rfl rfl
  · first | refine sops_yes rfl rfl rfl rfl (so_load (v := .d (.agg [_, _, _])) rfl rfl rfl rfl rfl rfl rfl rfl ?_) | refine sops_yes rfl rfl rfl rfl (so_load (v := .agg [_, _, _]) rfl rfl rfl rfl rfl rfl rfl rfl ?_)
    refine sops_yes rfl rfl rfl rfl (st_callS rfl rfl (c0b) ⟨na_d _, trivial⟩ rfl fun r hr => ?_)
    obtain ⟨b2, rfl⟩ := hr
    refine sops_go rfl (st_pick (v := .d _) rfl rfl rfl rfl ?_)
    refine sops_go rfl (st_move (v := .d _) rfl rfl rfl ?_)
    refine sops_case 27 rfl (fun hb27 => ?_) (fun hb27 => ?_)
    · refine sops_no rfl rfl rfl rfl rfl ?_
      refine sops_no rfl rfl rfl rfl rfl ?_
      refine sops_go rfl (st_pick (v := .d _) rfl rfl rfl rfl ?_)
      refine sops_nil ?_
      refine swp_condT rfl ?_
      refine swp_seq ?_
      refine swp_region ?_
      refine sops_go rfl (st_assign (v := .d _) rfl rfl rfl ?_)
      refine sops_nil ?_
      refine swp_ret ?_
      with_reducible refine after_ret ?_
      exact fin_b rfl rfl rfl
    · first | refine sops_yes rfl rfl rfl rfl (so_load (v := .d (.agg [_, _, _])) rfl rfl rfl rfl rfl rfl rfl rfl ?_) | refine sops_yes rfl rfl rfl rfl (so_load (v := .agg [_, _, _]) rfl rfl rfl rfl rfl rfl rfl rfl ?_)
      refine sops_yes rfl rfl rfl rfl (st_callS rfl rfl (c0c) ⟨na_d _, trivial⟩ rfl fun r hr => ?_)
      obtain ⟨b3, rfl⟩ := hr
      refine sops_go rfl (st_pick (v := .d _) rfl rfl rfl rfl ?_)
      refine sops_nil ?_
      refine swp_cond _ rfl (fun hc30 => ?_) (fun hc30 => ?_)
      · refine swp_seq ?_
        refine swp_region ?_
        refine sops_go rfl (st_assign (v := .d _) rfl rfl rfl ?_)
        refine sops_nil ?_
        refine swp_ret ?_
        with_reducible refine after_ret ?_
        exact fin_b rfl rfl rfl
      · refine swp_skip ?_
        refine swp_seq ?_
        refine swp_region ?_
        first | refine sops_go rfl (so_load (v := .d (.agg [_, _, _])) rfl rfl rfl rfl rfl rfl rfl rfl ?_) | refine sops_go rfl (so_load (v := .agg [_, _, _]) rfl rfl rfl rfl rfl rfl rfl rfl ?_)
        first | refine sops_go rfl (so_load (v := .d (.agg [_, _, _])) rfl rfl rfl rfl rfl rfl rfl rfl ?_) | refine sops_go rfl (so_load (v := .agg [_, _, _]) rfl rfl rfl rfl rfl rfl rfl rfl ?_)
        refine sops_go rfl (st_call rfl rfl (c1) ⟨na_d _, na_d _, trivial⟩ rfl ?_)
        refine sops_go rfl (st_move (v := .tup _) rfl rfl rfl ?_)
        refine sops_go rfl (st_extract (c := .d _) rfl rfl rfl rfl ?_)
        refine sops_go rfl (st_extract (c := .d _) rfl rfl rfl rfl ?_)
        refine sops_go rfl (st_assign (v := .d _) rfl rfl rfl ?_)
        refine sops_go rfl (st_assign (v := .d _) rfl rfl rfl ?_)
        refine sops_nil ?_
        refine swp_seq ?_
        refine swp_region ?_
        first | refine sops_go rfl (so_load (v := .d (.agg [_, _, _])) rfl rfl rfl rfl rfl rfl rfl rfl ?_) | refine sops_go rfl (so_load (v := .agg [_, _, _]) rfl rfl rfl rfl rfl rfl rfl rfl ?_)
        first | refine sops_go rfl (so_load (v := .d (.agg [_, _, _])) rfl rfl rfl rfl rfl rfl rfl rfl ?_) | refine sops_go rfl (so_load (v := .agg [_, _, _]) rfl rfl rfl rfl rfl rfl rfl rfl ?_)
        refine sops_go rfl (st_call rfl rfl (c2) ⟨na_d _, na_d _, trivial⟩ rfl ?_)
        refine sops_go rfl (st_move (v := .tup _) rfl rfl rfl ?_)
        refine sops_go rfl (st_extract (c := .d _) rfl rfl rfl rfl ?_)
        refine sops_go rfl (st_extract (c := .d _) rfl rfl rfl rfl ?_)
        refine sops_go rfl (st_assign (v := .d _) rfl rfl rfl ?_)
        refine sops_go rfl (st_assign (v := .d _) rfl rfl rfl ?_)
        refine sops_nil ?_
        refine swp_seq ?_
        refine swp_region ?_
        first | refine sops_go rfl (so_load (v := .d (.agg [_, _, _])) rfl rfl rfl rfl rfl rfl rfl rfl ?_) | refine sops_go rfl (so_load (v := .agg [_, _, _]) rfl rfl rfl rfl rfl rfl rfl rfl ?_)
        first | refine sops_go rfl (so_load (v := .d (.agg [_, _, _])) rfl rfl rfl rfl rfl rfl rfl rfl ?_) | refine sops_go rfl (so_load (v := .agg [_, _, _]) rfl rfl rfl rfl rfl rfl rfl rfl ?_)
        refine sops_go rfl (st_call rfl rfl (c3) ⟨na_d _, na_d _, trivial⟩ rfl ?_)
        refine sops_go rfl (st_move (v := .tup _) rfl rfl rfl ?_)
        refine sops_go rfl (st_extract (c := .d _) rfl rfl rfl rfl ?_)
        refine sops_go rfl (st_extract (c := .d _) rfl rfl rfl rfl ?_)
        refine sops_go rfl (st_assign (v := .d _) rfl rfl rfl ?_)
        refine sops_go rfl (st_assign (v := .d _) rfl rfl rfl ?_)
        refine sops_nil ?_
        refine swp_seq ?_
        refine swp_region ?_
        first | refine sops_go rfl (so_load (v := .d (.agg [_, _, _])) rfl rfl rfl rfl rfl rfl rfl rfl ?_) | refine sops_go rfl (so_load (v := .agg [_, _, _]) rfl rfl rfl rfl rfl rfl rfl rfl ?_)
        first | refine sops_go rfl (so_load (v := .d (.agg [_, _, _])) rfl rfl rfl rfl rfl rfl rfl rfl ?_) | refine sops_go rfl (so_load (v := .agg [_, _, _]) rfl rfl rfl rfl rfl rfl rfl rfl ?_)
        refine sops_go rfl (st_call rfl rfl (c4) ⟨na_d _, na_d _, trivial⟩ rfl ?_)
        refine sops_go rfl (st_move (v := .tup _) rfl rfl rfl ?_)
        refine sops_go rfl (st_extract (c := .d _) rfl rfl rfl rfl ?_)
        refine sops_go rfl (st_extract (c := .d _) rfl rfl rfl rfl ?_)
        refine sops_go rfl (st_assign (v := .d _) rfl rfl rfl ?_)
        refine sops_go rfl (st_assign (v := .d _) rfl rfl rfl ?_)
        refine sops_nil ?_
        refine swp_seq ?_
        refine swp_seq ?_
        refine swp_region ?_
        refine sops_go rfl (st_move (v := .d _) rfl rfl rfl ?_)
        refine sops_go rfl (st_bin rfl rfl rfl rfl rfl ?_)
        refine sops_go rfl (st_move (v := .d _) rfl rfl rfl ?_)
        refine' sops_or (d := 57) (p := 60) [58, 59] 3 rfl rfl rfl (fun hb57 => ?a57) (fun hb57 => ?b57) ?_
        case a57 =>
          refine sops_yes rfl rfl rfl rfl (st_move (v := .d _) rfl rfl rfl ?_)
          refine sops_yes rfl rfl rfl rfl (st_bin rfl rfl rfl rfl rfl ?_)
          refine sops_go rfl (st_pick (v := .d _) rfl rfl rfl rfl ?_)
          refine sops_nil ?_
          exact ⟨rfl, rfl, rfl, rfl, [_, _], rfl, rfl⟩
        case b57 =>
          refine sops_no rfl rfl rfl rfl rfl ?_
          refine sops_no rfl rfl rfl rfl rfl ?_
          refine sops_go rfl (st_pick (v := .d _) rfl rfl rfl rfl ?_)
          refine sops_nil ?_
          exact ⟨rfl, rfl, rfl, rfl, [_, _], rfl, rfl⟩
        refine sops_go rfl (st_move (v := .d _) rfl rfl rfl ?_)
        refine' sops_or (d := 61) (p := 64) [62, 63] 3 rfl rfl rfl (fun hb61 => ?a61) (fun hb61 => ?b61) ?_
        case a61 =>
          refine sops_yes rfl rfl rfl rfl (st_move (v := .d _) rfl rfl rfl ?_)
          refine sops_yes rfl rfl rfl rfl (st_bin rfl rfl rfl rfl rfl ?_)
          refine sops_go rfl (st_pick (v := .d _) rfl rfl rfl rfl ?_)
          refine sops_nil ?_
          exact ⟨rfl, rfl, rfl, rfl, [_, _], rfl, rfl⟩
        case b61 =>
          refine sops_no rfl rfl rfl rfl rfl ?_
          refine sops_no rfl rfl rfl rfl rfl ?_
          refine sops_go rfl (st_pick (v := .d _) rfl rfl rfl rfl ?_)
          refine sops_nil ?_
          exact ⟨rfl, rfl, rfl, rfl, [_, _], rfl, rfl⟩
        refine sops_go rfl (st_move (v := .d _) rfl rfl rfl ?_)
        refine' sops_or (d := 65) (p := 68) [66, 67] 3 rfl rfl rfl (fun hb65 => ?a65) (fun hb65 => ?b65) ?_
        case a65 =>
          refine sops_yes rfl rfl rfl rfl (st_move (v := .d _) rfl rfl rfl ?_)
          refine sops_yes rfl rfl rfl rfl (st_bin rfl rfl rfl rfl rfl ?_)
          refine sops_go rfl (st_pick (v := .d _) rfl rfl rfl rfl ?_)
          refine sops_nil ?_
          exact ⟨rfl, rfl, rfl, rfl, [_, _], rfl, rfl⟩
        case b65 =>
          refine sops_no rfl rfl rfl rfl rfl ?_
          refine sops_no rfl rfl rfl rfl rfl ?_
          refine sops_go rfl (st_pick (v := .d _) rfl rfl rfl rfl ?_)
          refine sops_nil ?_
          exact ⟨rfl, rfl, rfl, rfl, [_, _], rfl, rfl⟩
        refine sops_nil ?_
        refine swp_cond _ rfl (fun hc68 => ?_) (fun hc68 => ?_)
        · refine swp_seq ?_
          refine swp_region ?_
          refine sops_go rfl (st_call rfl rfl (awake_pure) trivial rfl ?_)
          refine sops_go rfl (st_assign (v := .d _) rfl rfl rfl ?_)
          refine sops_nil ?_
          refine swp_ret ?_
          with_reducible refine after_ret ?_
          exact fin_b rfl rfl rfl
        · have hlaw : p4 = true ∧ (p1 = true → p2 = true → p3 = true) ∧ i5 = 0 ∧ (p6, e6) = (true, 0) ∧ (p7, e7) = (true, 0) := by
            simp only [Bool.or_eq_false_iff, bne_eq_false_iff_eq] at hc68
            exact hlaw hc68.1.1.1 hc68.1.1.2 hc68.1.2 hc68.2
          simp only [Prod.mk.injEq] at hlaw
          obtain ⟨rfl, hlaw, rfl, ⟨rfl, rfl⟩, ⟨rfl, rfl⟩⟩ := hlaw
          refine swp_skip ?_
          refine swp_seq ?_
          refine swp_region ?_
          first | refine sops_go rfl (so_load (v := .d (.agg [_, _, _])) rfl rfl rfl rfl rfl rfl rfl rfl ?_) | refine sops_go rfl (so_load (v := .agg [_, _, _]) rfl rfl rfl rfl rfl rfl rfl rfl ?_)
          first | refine sops_go rfl (so_load (v := .d (.agg [_, _, _])) rfl rfl rfl rfl rfl rfl rfl rfl ?_) | refine sops_go rfl (so_load (v := .agg [_, _, _]) rfl rfl rfl rfl rfl rfl rfl rfl ?_)
          refine sops_go rfl (st_call rfl rfl (c5) ⟨na_d _, na_d _, trivial⟩ rfl ?_)
          refine sops_go rfl (st_move (v := .tup _) rfl rfl rfl ?_)
          first | refine sops_go rfl (st_extract (c := .d _) rfl rfl rfl rfl ?_) | refine sops_go rfl (st_extract (c := .agg _) rfl rfl rfl rfl ?_)
          refine sops_go rfl (st_extract (c := .d _) rfl rfl rfl rfl ?_)
          refine sops_go rfl (so_alloc (cs := [_, _, _]) rfl rfl rfl rfl ?_)
          refine sops_go rfl (so_store rfl rfl rfl rfl rfl rfl rfl rfl rfl (zs := [_, _, _]) rfl ?_)
          refine sops_go rfl (st_assign (v := .d _) rfl rfl rfl ?_)
          refine sops_nil ?_
          refine swp_seq ?_
          refine swp_region ?_
          first | refine sops_go rfl (so_load (v := .d (.agg [_, _, _])) rfl rfl rfl rfl rfl rfl rfl rfl ?_) | refine sops_go rfl (so_load (v := .agg [_, _, _]) rfl rfl rfl rfl rfl rfl rfl rfl ?_)
          first | refine sops_go rfl (so_load (v := .d (.agg [_, _, _])) rfl rfl rfl rfl rfl rfl rfl rfl ?_) | refine sops_go rfl (so_load (v := .agg [_, _, _]) rfl rfl rfl rfl rfl rfl rfl rfl ?_)
          refine sops_go rfl (st_call rfl rfl (c6) ⟨na_d _, na_d _, trivial⟩ rfl ?_)
          refine sops_go rfl (st_move (v := .tup _) rfl rfl rfl ?_)
          refine sops_go rfl (st_extract (c := .d _) rfl rfl rfl rfl ?_)
          refine sops_go rfl (st_extract (c := .d _) rfl rfl rfl rfl ?_)
          refine sops_go rfl (st_assign (v := .d _) rfl rfl rfl ?_)
          refine sops_go rfl (st_assign (v := .d _) rfl rfl rfl ?_)
          refine sops_nil ?_
          refine swp_seq ?_
          refine swp_region ?_
          first | refine sops_go rfl (so_load (v := .d (.agg [_, _, _])) rfl rfl rfl rfl rfl rfl rfl rfl ?_) | refine sops_go rfl (so_load (v := .agg [_, _, _]) rfl rfl rfl rfl rfl rfl rfl rfl ?_)
          first | refine sops_go rfl (so_load (v := .d (.agg [_, _, _])) rfl rfl rfl rfl rfl rfl rfl rfl ?_) | refine sops_go rfl (so_load (v := .agg [_, _, _]) rfl rfl rfl rfl rfl rfl rfl rfl ?_)
          refine sops_go rfl (st_call rfl rfl (c7) ⟨na_d _, na_d _, trivial⟩ rfl ?_)
          refine sops_go rfl (st_move (v := .tup _) rfl rfl rfl ?_)
          refine sops_go rfl (st_extract (c := .d _) rfl rfl rfl rfl ?_)
          refine sops_go rfl (st_extract (c := .d _) rfl rfl rfl rfl ?_)
          refine sops_go rfl (st_assign (v := .d _) rfl rfl rfl ?_)
          refine sops_go rfl (st_assign (v := .d _) rfl rfl rfl ?_)
          refine sops_nil ?_
          refine swp_seq ?_
          refine swp_region ?_
          refine sops_go rfl (st_call rfl rfl (awake_pure) trivial rfl ?_)
          refine sops_go rfl (st_move (v := .d _) rfl rfl rfl ?_)
          refine' sops_and (d := 89) (p := 91) [90] 2 rfl rfl rfl (fun hb89 => ?a89) (fun hb89 => ?b89) ?_
          case a89 =>
            refine sops_yes rfl rfl rfl rfl (st_move (v := .d _) rfl rfl rfl ?_)
            refine sops_go rfl (st_pick (v := .d _) rfl rfl rfl rfl ?_)
            refine sops_nil ?_
            exact ⟨rfl, rfl, rfl, rfl, [_], rfl, rfl⟩
          case b89 =>
            refine sops_no rfl rfl rfl rfl rfl ?_
            refine sops_go rfl (st_pick (v := .d _) rfl rfl rfl rfl ?_)
            refine sops_nil ?_
            exact ⟨rfl, rfl, rfl, rfl, [_], rfl, rfl⟩
          refine sops_go rfl (st_move (v := .d _) rfl rfl rfl ?_)
          refine' sops_and (d := 92) (p := 102) [93, 94, 95, 96, 97, 98, 99, 100, 101] 10 rfl rfl rfl (fun hb92 => ?a92) (fun hb92 => ?b92) ?_
          case a92 =>
            refine sops_yes rfl rfl rfl rfl (st_move (v := .d _) rfl rfl rfl ?_)
            refine sops_yes rfl rfl rfl rfl (st_not rfl rfl rfl ?_)
            refine sops_yes rfl rfl rfl rfl (st_move (v := .d _) rfl rfl rfl ?_)
            refine' sops_or (d := 95) (p := 98) [96, 97] 3 rfl rfl rfl (fun hb95 => ?a95) (fun hb95 => ?b95) ?_
            case a95 =>
              refine sops_yes rfl rfl rfl rfl (st_move (v := .d _) rfl rfl rfl ?_)
              refine sops_yes rfl rfl rfl rfl (st_not rfl rfl rfl ?_)
              refine sops_yes rfl rfl rfl rfl (st_pick (v := .d _) rfl rfl rfl rfl ?_)
              refine sops_nil ?_
              exact ⟨rfl, rfl, rfl, rfl, [_, _], rfl, rfl⟩
            case b95 =>
              refine sops_no rfl rfl rfl rfl rfl ?_
              refine sops_no rfl rfl rfl rfl rfl ?_
              refine sops_yes rfl rfl rfl rfl (st_pick (v := .d _) rfl rfl rfl rfl ?_)
              refine sops_nil ?_
              exact ⟨rfl, rfl, rfl, rfl, [_, _], rfl, rfl⟩
            refine sops_yes rfl rfl rfl rfl (st_move (v := .d _) rfl rfl rfl ?_)
            refine' sops_or (d := 99) (p := 101) [100] 2 rfl rfl rfl (fun hb99 => ?a99) (fun hb99 => ?b99) ?_
            case a99 =>
              refine sops_yes rfl rfl rfl rfl (st_move (v := .d _) rfl rfl rfl ?_)
              refine sops_yes rfl rfl rfl rfl (st_pick (v := .d _) rfl rfl rfl rfl ?_)
              refine sops_nil ?_
              exact ⟨rfl, rfl, rfl, rfl, [_], rfl, rfl⟩
            case b99 =>
              refine sops_no rfl rfl rfl rfl rfl ?_
              refine sops_yes rfl rfl rfl rfl (st_pick (v := .d _) rfl rfl rfl rfl ?_)
              refine sops_nil ?_
              exact ⟨rfl, rfl, rfl, rfl, [_], rfl, rfl⟩
            refine sops_go rfl (st_pick (v := .d _) rfl rfl rfl rfl ?_)
            refine sops_nil ?_
            exact ⟨rfl, rfl, rfl, rfl, [_, _, _, _, _, _, _, _, _], rfl, rfl⟩
          case b92 =>
            refine sops_no rfl rfl rfl rfl rfl ?_
            refine sops_no rfl rfl rfl rfl rfl ?_
            refine sops_no rfl rfl rfl rfl rfl ?_
            refine sops_un rfl rfl rfl rfl rfl ?_
            refine sops_un rfl rfl rfl rfl rfl ?_
            refine sops_no rfl rfl rfl rfl rfl ?_
            refine sops_no rfl rfl rfl rfl rfl ?_
            refine sops_un rfl rfl rfl rfl rfl ?_
            refine sops_no rfl rfl rfl rfl rfl ?_
            refine sops_go rfl (st_pick (v := .d _) rfl rfl rfl rfl ?_)
            refine sops_nil ?_
            exact ⟨rfl, rfl, rfl, rfl, [_, _, _, _, _, _, _, _, _], rfl, rfl⟩
          refine sops_go rfl (st_move (v := .d _) rfl rfl rfl ?_)
          refine' sops_and (d := 103) (p := 106) [104, 105] 3 rfl rfl rfl (fun hb103 => ?a103) (fun hb103 => ?b103) ?_
          case a103 =>
            refine sops_yes rfl rfl rfl rfl (st_move (v := .d _) rfl rfl rfl ?_)
            refine sops_yes rfl rfl rfl rfl (st_bin rfl rfl rfl rfl rfl ?_)
            refine sops_go rfl (st_pick (v := .d _) rfl rfl rfl rfl ?_)
            refine sops_nil ?_
            exact ⟨rfl, rfl, rfl, rfl, [_, _], rfl, rfl⟩
          case b103 =>
            refine sops_no rfl rfl rfl rfl rfl ?_
            refine sops_no rfl rfl rfl rfl rfl ?_
            refine sops_go rfl (st_pick (v := .d _) rfl rfl rfl rfl ?_)
            refine sops_nil ?_
            exact ⟨rfl, rfl, rfl, rfl, [_, _], rfl, rfl⟩
          refine sops_go rfl (st_move (v := .d _) rfl rfl rfl ?_)
          refine' sops_and (d := 107) (p := 110) [108, 109] 3 rfl rfl rfl (fun hb107 => ?a107) (fun hb107 => ?b107) ?_
          case a107 =>
            refine sops_yes rfl rfl rfl rfl (st_move (v := .d _) rfl rfl rfl ?_)
            refine sops_yes rfl rfl rfl rfl (st_bin rfl rfl rfl rfl rfl ?_)
            refine sops_go rfl (st_pick (v := .d _) rfl rfl rfl rfl ?_)
            refine sops_nil ?_
            exact ⟨rfl, rfl, rfl, rfl, [_, _], rfl, rfl⟩
          case b107 =>
            refine sops_no rfl rfl rfl rfl rfl ?_
            refine sops_no rfl rfl rfl rfl rfl ?_
            refine sops_go rfl (st_pick (v := .d _) rfl rfl rfl rfl ?_)
            refine sops_nil ?_
            exact ⟨rfl, rfl, rfl, rfl, [_, _], rfl, rfl⟩
          refine sops_go rfl (st_move (v := .d _) rfl rfl rfl ?_)
          refine' sops_and (d := 111) (p := 114) [112, 113] 3 rfl rfl rfl (fun hb111 => ?a111) (fun hb111 => ?b111) ?_
          case a111 =>
            refine sops_yes rfl rfl rfl rfl (st_move (v := .d _) rfl rfl rfl ?_)
            refine sops_yes rfl rfl rfl rfl (st_bin rfl rfl rfl rfl rfl ?_)
            refine sops_go rfl (st_pick (v := .d _) rfl rfl rfl rfl ?_)
            refine sops_nil ?_
            exact ⟨rfl, rfl, rfl, rfl, [_, _], rfl, rfl⟩
          case b111 =>
            refine sops_no rfl rfl rfl rfl rfl ?_
            refine sops_no rfl rfl rfl rfl rfl ?_
            refine sops_go rfl (st_pick (v := .d _) rfl rfl rfl rfl ?_)
            refine sops_nil ?_
            exact ⟨rfl, rfl, rfl, rfl, [_, _], rfl, rfl⟩
          refine sops_go rfl (st_move (v := .d _) rfl rfl rfl ?_)
          refine' sops_and (d := 115) (p := 117) [116] 2 rfl rfl rfl (fun hb115 => ?a115) (fun hb115 => ?b115) ?_
          case a115 =>
            refine sops_yes rfl rfl rfl rfl (st_move (v := .d _) rfl rfl rfl ?_)
            refine sops_go rfl (st_pick (v := .d _) rfl rfl rfl rfl ?_)
            refine sops_nil ?_
            exact ⟨rfl, rfl, rfl, rfl, [_], rfl, rfl⟩
          case b115 =>
            refine sops_no rfl rfl rfl rfl rfl ?_
            refine sops_go rfl (st_pick (v := .d _) rfl rfl rfl rfl ?_)
            refine sops_nil ?_
            exact ⟨rfl, rfl, rfl, rfl, [_], rfl, rfl⟩
          refine sops_go rfl (st_move (v := .d _) rfl rfl rfl ?_)
          refine' sops_and (d := 118) (p := 120) [119] 2 rfl rfl rfl (fun hb118 => ?a118) (fun hb118 => ?b118) ?_
          case a118 =>
            refine sops_yes rfl rfl rfl rfl (st_move (v := .d _) rfl rfl rfl ?_)
            refine sops_go rfl (st_pick (v := .d _) rfl rfl rfl rfl ?_)
            refine sops_nil ?_
            exact ⟨rfl, rfl, rfl, rfl, [_], rfl, rfl⟩
          case b118 =>
            refine sops_no rfl rfl rfl rfl rfl ?_
            refine sops_go rfl (st_pick (v := .d _) rfl rfl rfl rfl ?_)
            refine sops_nil ?_
            exact ⟨rfl, rfl, rfl, rfl, [_], rfl, rfl⟩
          refine sops_go rfl (st_assign (v := .d _) rfl rfl rfl ?_)
          refine sops_nil ?_
          refine swp_ret ?_
          refine fin_b rfl rfl ?_
          cases p1 <;> cases p2 <;> cases p3 <;> simp_all

def vListOf (v : V) : V := .mk 7 false false noText 0 0 noText [] [v]
theorem T.list_check {t : T} {v : V} (ht : t.check = 0) (hv : v.check = 0) : ((T.mk 9 [] [t]).Has (vListOf v)).2 = 2 ∨ (T.mk 9 [] [t]).Has (vListOf v) = (t.has v, 0) := by
  have f1 : (T.mk 9 [] [t]).formed = true := by
    rw [T.formed]; simp [T.formedL, T.check_ok ht]
  have f2 : (vListOf v).formed = true := by
    unfold vListOf; rw [V.formed]; simp [V.formedL, V.check_ok hv, V.bad]
  have e : (T.mk 9 [] [t]).has (vListOf v) = t.has v := by
    unfold vListOf; rw [T.has]; simp [V.kind, V.list, T.hasAt]
  have c1 : (T.mk 9 [] [t]).check = 0 ∨ (T.mk 9 [] [t]).check = 2 := by
    unfold T.check; rw [if_pos f1]; split <;> simp
  have c2 : (vListOf v).check = 0 ∨ (vListOf v).check = 2 := by
    unfold V.check; rw [if_pos f2]; split <;> simp
  unfold T.Has
  rcases c1 with c1 | c1 <;> rcases c2 with c2 | c2
  · right; rw [if_neg (by rw [c1]; simp), if_neg (by rw [c2]; simp), e]
  · left; rw [if_neg (by rw [c1]; simp), if_pos (by rw [c2]; rfl)]; exact c2
  · left; rw [if_pos (by rw [c1]; rfl)]; exact c1
  · left; rw [if_pos (by rw [c1]; rfl)]; exact c1
theorem T.every_has (v : V) : (T.every.Has v).1 = ((T.every.Has v).2 == 0) := by
  unfold T.Has
  rw [if_neg (by rw [T.every_check]; simp)]
  split
  · rename_i h; have : v.check ≠ 0 := by simpa using h
    simp [this]
  · have : T.every.has v = true := by unfold T.every; rw [T.has]; rfl
    simp [this]
theorem T.every_sub (t : T) : T.every.sub t = (t.kind == 1) := by
  obtain ⟨k, n, l⟩ := t
  unfold T.every
  rw [T.sub]
  by_cases h : k = 1
  · subst h; rfl
  · have e1 : (k == 1) = false := by simpa using h
    simp [T.kind, e1]
    intro e; exact absurd e.symm h

theorem TypesAny_pure (t : T) (v : V) (ht : t.fit) (hv : v.fit) : Pure env 6 [.d t.d, .d v.d] (.d (.v (.bool true))) := by
  have c0t := bigType_s t
  have c0v := big_s v
  have c1 := Has_pure (T.mk 1 [] []) v (tf_plain 1) hv true true
  have c2 := Sub_pure t (T.mk 1 [] []) ht (tf_plain 1) true true
  have c3 := Sub_pure (T.mk 1 [] []) t (tf_plain 1) ht true true
  have c4 := Has_pure t v ht hv true true
  have c5 := Has_pure (T.mk 9 [] [t]) (vListOf v) ⟨by simp, ht, trivial⟩ ⟨fits_of (by decide), fits_of (by decide), by simp, hv, trivial⟩ false false
  have hev : ((T.mk 1 [] []).Has v).1 = (((T.mk 1 [] []).Has v).2 == 0) := T.every_has v
  have hlaw : ((T.mk 1 [] []).Has v).2 = 0 → (t.Sub (T.mk 1 [] [])).2 = 0 → ((T.mk 1 [] []).Sub t).2 = 0 → (t.Has v).2 = 0 →
      (t.Sub (T.mk 1 [] [])).1 = true ∧ ((T.mk 1 [] []).Sub t).1 = (t.kind == 1) ∧ (((T.mk 9 [] [t]).Has (vListOf v)).2 = 2 ∨ (T.mk 9 [] [t]).Has (vListOf v) = ((t.Has v).1, 0)) := by
    intro e1 e2 e3 e4
    obtain ⟨h1, h2, h3⟩ := T.Sub_ok e2
    obtain ⟨h4, h5, h6⟩ := T.Sub_ok e3
    obtain ⟨h7, h8, h9⟩ := T.Has_ok e4
    rw [h3, h6, h9]
    exact ⟨T.sub_every t, T.every_sub t, T.list_check h7 h8⟩
  generalize (T.mk 1 [] []).Has v = r1 at *
  generalize t.Sub (T.mk 1 [] []) = r2 at *
  generalize (T.mk 1 [] []).Sub t = r3 at *
  generalize t.Has v = r4 at *
  generalize hr5 : (T.mk 9 [] [t]).Has (vListOf v) = r5 at *
  clear hr5
  rw [T.df_d] at c0t ⊢
  rw [V.df_d] at c0v ⊢
  obtain ⟨p1, e1⟩ := r1
  obtain ⟨p2, e2⟩ := r2
  obtain ⟨p3, e3⟩ := r3
  obtain ⟨p4, e4⟩ := r4
  obtain ⟨p5, e5⟩ := r5
  obtain ⟨ka, na, la⟩ := t
  obtain ⟨vk, flag, neg, digits, exp, bits, text, vnames, vlist⟩ := v
  refine pure_of_body Tryd.func6 rfl rfl rfl fun B hB => ?_
  refine swp_seq ?_
  refine swp_region ?_
  refine sops_go rfl (so_box (cs := [_, _, _]) rfl rfl rfl ?_)
  refine sops_go rfl (so_box (cs := [_, _, _, _, _, _, _, _, _]) rfl rfl rfl ?_)
  refine sops_go rfl (st_assign (v := .d _) rfl rfl rfl ?_)
  refine sops_nil ?_
  refine swp_seq ?_
  refine swp_seq ?_
  refine swp_region ?_
  first | refine sops_go rfl (so_load (v := .d (.agg [_, _, _])) rfl rfl rfl rfl rfl rfl rfl rfl ?_) | refine sops_go rfl (so_load (v := .agg [_, _, _]) rfl rfl rfl rfl rfl rfl rfl rfl ?_)
  refine sops_go rfl (st_callS rfl rfl (c0t) ⟨na_d _, trivial⟩ rfl fun r hr => ?_)
  obtain ⟨b1, rfl⟩ := hr
  refine sops_go rfl (st_move (v := .d _) rfl rfl rfl ?_)
  refine sops_case 18 rfl (fun hb18 => ?_) (fun hb18 => ?_)
  · refine sops_no rfl rfl rfl rfl rfl ?_
    refine sops_no rfl rfl rfl rfl rfl ?_
    refine sops_go rfl (st_pick (v := .d _) rfl rfl rfl rfl ?_)
    refine sops_nil ?_
    refine swp_condT rfl ?_
    refine swp_seq ?_
    refine swp_region ?_
    refine sops_go rfl (st_assign (v := .d _) rfl rfl rfl ?_)
    refine sops_nil ?_
    refine swp_ret ?_
    with_reducible refine after_ret ?_
    exact fin_b rfl rfl rfl
  · first | refine sops_yes rfl rfl rfl rfl (so_load (v := .d (.agg [_, _, _, _, _, _, _, _, _])) rfl rfl rfl rfl rfl rfl rfl rfl ?_) | refine sops_yes rfl rfl rfl rfl (so_load (v := .agg [_, _, _, _, _, _, _, _, _]) rfl rfl rfl rfl rfl rfl rfl rfl ?_)
    refine sops_yes rfl rfl rfl rfl (st_callS rfl rfl (c0v) ⟨na_d _, trivial⟩ rfl fun r hr => ?_)
    obtain ⟨b2, rfl⟩ := hr
    refine sops_go rfl (st_pick (v := .d _) rfl rfl rfl rfl ?_)
    refine sops_nil ?_
    refine swp_cond _ rfl (fun hc21 => ?_) (fun hc21 => ?_)
    · refine swp_seq ?_
      refine swp_region ?_
      refine sops_go rfl (st_assign (v := .d _) rfl rfl rfl ?_)
      refine sops_nil ?_
      refine swp_ret ?_
      with_reducible refine after_ret ?_
      exact fin_b rfl rfl rfl
    · refine swp_skip ?_
      refine swp_seq ?_
      refine swp_region ?_
      refine sops_go rfl (st_call rfl rfl (plain_pure _) ⟨na_d _, trivial⟩ rfl ?_)
      refine sops_go rfl (so_alloc (cs := [_, _, _]) rfl rfl rfl rfl ?_)
      refine sops_go rfl (so_store rfl rfl rfl rfl rfl rfl rfl rfl rfl (zs := [_, _, _]) rfl ?_)
      refine sops_nil ?_
      refine swp_seq ?_
      refine swp_region ?_
      first | refine sops_go rfl (so_load (v := .d (.agg [_, _, _])) rfl rfl rfl rfl rfl rfl rfl rfl ?_) | refine sops_go rfl (so_load (v := .agg [_, _, _]) rfl rfl rfl rfl rfl rfl rfl rfl ?_)
      first | refine sops_go rfl (so_load (v := .d (.agg [_, _, _, _, _, _, _, _, _])) rfl rfl rfl rfl rfl rfl rfl rfl ?_) | refine sops_go rfl (so_load (v := .agg [_, _, _, _, _, _, _, _, _]) rfl rfl rfl rfl rfl rfl rfl rfl ?_)
      refine sops_go rfl (st_call rfl rfl (c1) ⟨na_d _, na_d _, trivial⟩ rfl ?_)
      refine sops_go rfl (st_move (v := .tup _) rfl rfl rfl ?_)
      refine sops_go rfl (st_extract (c := .d _) rfl rfl rfl rfl ?_)
      refine sops_go rfl (st_extract (c := .d _) rfl rfl rfl rfl ?_)
      refine sops_go rfl (st_assign (v := .d _) rfl rfl rfl ?_)
      refine sops_go rfl (st_assign (v := .d _) rfl rfl rfl ?_)
      refine sops_nil ?_
      refine swp_seq ?_
      refine swp_region ?_
      first | refine sops_go rfl (so_load (v := .d (.agg [_, _, _])) rfl rfl rfl rfl rfl rfl rfl rfl ?_) | refine sops_go rfl (so_load (v := .agg [_, _, _]) rfl rfl rfl rfl rfl rfl rfl rfl ?_)
      first | refine sops_go rfl (so_load (v := .d (.agg [_, _, _])) rfl rfl rfl rfl rfl rfl rfl rfl ?_) | refine sops_go rfl (so_load (v := .agg [_, _, _]) rfl rfl rfl rfl rfl rfl rfl rfl ?_)
      refine sops_go rfl (st_call rfl rfl (c2) ⟨na_d _, na_d _, trivial⟩ rfl ?_)
      refine sops_go rfl (st_move (v := .tup _) rfl rfl rfl ?_)
      refine sops_go rfl (st_extract (c := .d _) rfl rfl rfl rfl ?_)
      refine sops_go rfl (st_extract (c := .d _) rfl rfl rfl rfl ?_)
      refine sops_go rfl (st_assign (v := .d _) rfl rfl rfl ?_)
      refine sops_go rfl (st_assign (v := .d _) rfl rfl rfl ?_)
      refine sops_nil ?_
      refine swp_seq ?_
      refine swp_region ?_
      first | refine sops_go rfl (so_load (v := .d (.agg [_, _, _])) rfl rfl rfl rfl rfl rfl rfl rfl ?_) | refine sops_go rfl (so_load (v := .agg [_, _, _]) rfl rfl rfl rfl rfl rfl rfl rfl ?_)
      first | refine sops_go rfl (so_load (v := .d (.agg [_, _, _])) rfl rfl rfl rfl rfl rfl rfl rfl ?_) | refine sops_go rfl (so_load (v := .agg [_, _, _]) rfl rfl rfl rfl rfl rfl rfl rfl ?_)
      refine sops_go rfl (st_call rfl rfl (c3) ⟨na_d _, na_d _, trivial⟩ rfl ?_)
      refine sops_go rfl (st_move (v := .tup _) rfl rfl rfl ?_)
      refine sops_go rfl (st_extract (c := .d _) rfl rfl rfl rfl ?_)
      refine sops_go rfl (st_extract (c := .d _) rfl rfl rfl rfl ?_)
      refine sops_go rfl (st_assign (v := .d _) rfl rfl rfl ?_)
      refine sops_go rfl (st_assign (v := .d _) rfl rfl rfl ?_)
      refine sops_nil ?_
      refine swp_seq ?_
      refine swp_region ?_
      first | refine sops_go rfl (so_load (v := .d (.agg [_, _, _])) rfl rfl rfl rfl rfl rfl rfl rfl ?_) | refine sops_go rfl (so_load (v := .agg [_, _, _]) rfl rfl rfl rfl rfl rfl rfl rfl ?_)
      first | refine sops_go rfl (so_load (v := .d (.agg [_, _, _, _, _, _, _, _, _])) rfl rfl rfl rfl rfl rfl rfl rfl ?_) | refine sops_go rfl (so_load (v := .agg [_, _, _, _, _, _, _, _, _]) rfl rfl rfl rfl rfl rfl rfl rfl ?_)
      refine sops_go rfl (st_call rfl rfl (c4) ⟨na_d _, na_d _, trivial⟩ rfl ?_)
      refine sops_go rfl (st_move (v := .tup _) rfl rfl rfl ?_)
      refine sops_go rfl (st_extract (c := .d _) rfl rfl rfl rfl ?_)
      refine sops_go rfl (st_extract (c := .d _) rfl rfl rfl rfl ?_)
      refine sops_go rfl (st_assign (v := .d _) rfl rfl rfl ?_)
      refine sops_go rfl (st_assign (v := .d _) rfl rfl rfl ?_)
      refine sops_nil ?_
      refine swp_seq ?_
      refine swp_region ?_
      first | refine sops_go rfl (so_load (v := .d (.agg [_, _, _])) rfl rfl rfl rfl rfl rfl rfl rfl ?_) | refine sops_go rfl (so_load (v := .agg [_, _, _]) rfl rfl rfl rfl rfl rfl rfl rfl ?_)
      refine sops_go rfl (so_buildSlice (rows := [[_, _, _]]) rfl rfl rfl rfl rfl rfl rfl rfl rfl ?_)
      first | refine sops_go rfl (so_build (v := .d (.agg [_, _, _])) rfl rfl rfl rfl rfl rfl rfl ?_) | refine sops_go rfl (so_build (v := .agg [_, _, _]) rfl rfl rfl rfl rfl rfl rfl ?_)
      first | refine sops_go rfl (so_load (v := .d (.agg [_, _, _, _, _, _, _, _, _])) rfl rfl rfl rfl rfl rfl rfl rfl ?_) | refine sops_go rfl (so_load (v := .agg [_, _, _, _, _, _, _, _, _]) rfl rfl rfl rfl rfl rfl rfl rfl ?_)
      refine sops_go rfl (so_buildSlice (rows := [[_, _, _, _, _, _, _, _, _]]) rfl rfl rfl rfl rfl rfl rfl rfl rfl ?_)
      first | refine sops_go rfl (so_build (v := .d (.agg [_, _, _, _, _, _, _, _, _])) rfl rfl rfl rfl rfl rfl rfl ?_) | refine sops_go rfl (so_build (v := .agg [_, _, _, _, _, _, _, _, _]) rfl rfl rfl rfl rfl rfl rfl ?_)
      refine sops_go rfl (st_call rfl rfl (c5) ⟨na_agg ⟨na_d _, na_nilF false, na_row (rows := T.rows [.mk ka na la]) rfl rfl, trivial⟩, na_agg ⟨na_d _, na_d _, na_d _, na_d _, na_d _, na_d _, na_d _, na_nilF false, na_row (rows := V.rows [.mk vk flag neg digits exp bits text vnames vlist]) rfl rfl, trivial⟩, trivial⟩ rfl ?_)
      refine sops_go rfl (st_move (v := .tup _) rfl rfl rfl ?_)
      refine sops_go rfl (st_extract (c := .d _) rfl rfl rfl rfl ?_)
      refine sops_go rfl (st_extract (c := .d _) rfl rfl rfl rfl ?_)
      refine sops_go rfl (st_assign (v := .d _) rfl rfl rfl ?_)
      refine sops_go rfl (st_assign (v := .d _) rfl rfl rfl ?_)
      refine sops_nil ?_
      refine swp_seq ?_
      refine swp_seq ?_
      refine swp_region ?_
      refine sops_go rfl (st_move (v := .d _) rfl rfl rfl ?_)
      refine sops_go rfl (st_bin rfl rfl rfl rfl rfl ?_)
      refine sops_go rfl (st_move (v := .d _) rfl rfl rfl ?_)
      refine' sops_or (d := 59) (p := 62) [60, 61] 3 rfl rfl rfl (fun hb59 => ?a59) (fun hb59 => ?b59) ?_
      case a59 =>
        refine sops_yes rfl rfl rfl rfl (st_move (v := .d _) rfl rfl rfl ?_)
        refine sops_yes rfl rfl rfl rfl (st_bin rfl rfl rfl rfl rfl ?_)
        refine sops_go rfl (st_pick (v := .d _) rfl rfl rfl rfl ?_)
        refine sops_nil ?_
        exact ⟨rfl, rfl, rfl, rfl, [_, _], rfl, rfl⟩
      case b59 =>
        refine sops_no rfl rfl rfl rfl rfl ?_
        refine sops_no rfl rfl rfl rfl rfl ?_
        refine sops_go rfl (st_pick (v := .d _) rfl rfl rfl rfl ?_)
        refine sops_nil ?_
        exact ⟨rfl, rfl, rfl, rfl, [_, _], rfl, rfl⟩
      refine sops_go rfl (st_move (v := .d _) rfl rfl rfl ?_)
      refine' sops_or (d := 63) (p := 66) [64, 65] 3 rfl rfl rfl (fun hb63 => ?a63) (fun hb63 => ?b63) ?_
      case a63 =>
        refine sops_yes rfl rfl rfl rfl (st_move (v := .d _) rfl rfl rfl ?_)
        refine sops_yes rfl rfl rfl rfl (st_bin rfl rfl rfl rfl rfl ?_)
        refine sops_go rfl (st_pick (v := .d _) rfl rfl rfl rfl ?_)
        refine sops_nil ?_
        exact ⟨rfl, rfl, rfl, rfl, [_, _], rfl, rfl⟩
      case b63 =>
        refine sops_no rfl rfl rfl rfl rfl ?_
        refine sops_no rfl rfl rfl rfl rfl ?_
        refine sops_go rfl (st_pick (v := .d _) rfl rfl rfl rfl ?_)
        refine sops_nil ?_
        exact ⟨rfl, rfl, rfl, rfl, [_, _], rfl, rfl⟩
      refine sops_go rfl (st_move (v := .d _) rfl rfl rfl ?_)
      refine' sops_or (d := 67) (p := 70) [68, 69] 3 rfl rfl rfl (fun hb67 => ?a67) (fun hb67 => ?b67) ?_
      case a67 =>
        refine sops_yes rfl rfl rfl rfl (st_move (v := .d _) rfl rfl rfl ?_)
        refine sops_yes rfl rfl rfl rfl (st_bin rfl rfl rfl rfl rfl ?_)
        refine sops_go rfl (st_pick (v := .d _) rfl rfl rfl rfl ?_)
        refine sops_nil ?_
        exact ⟨rfl, rfl, rfl, rfl, [_, _], rfl, rfl⟩
      case b67 =>
        refine sops_no rfl rfl rfl rfl rfl ?_
        refine sops_no rfl rfl rfl rfl rfl ?_
        refine sops_go rfl (st_pick (v := .d _) rfl rfl rfl rfl ?_)
        refine sops_nil ?_
        exact ⟨rfl, rfl, rfl, rfl, [_, _], rfl, rfl⟩
      refine sops_nil ?_
      refine swp_cond _ rfl (fun hc70 => ?_) (fun hc70 => ?_)
      · refine swp_seq ?_
        refine swp_region ?_
        refine sops_go rfl (st_call rfl rfl (awake_pure) trivial rfl ?_)
        refine sops_go rfl (st_move (v := .d _) rfl rfl rfl ?_)
        refine' sops_and (d := 72) (p := 77) [73, 74, 75, 76] 5 rfl rfl rfl (fun hb72 => ?a72) (fun hb72 => ?b72) ?_
        case a72 =>
          refine sops_yes rfl rfl rfl rfl (st_move (v := .d _) rfl rfl rfl ?_)
          refine sops_yes rfl rfl rfl rfl (st_move (v := .d _) rfl rfl rfl ?_)
          refine sops_yes rfl rfl rfl rfl (st_bin rfl rfl rfl rfl rfl ?_)
          refine sops_yes rfl rfl rfl rfl (so_eqB rfl rfl rfl rfl rfl rfl rfl ?_)
          refine sops_go rfl (st_pick (v := .d _) rfl rfl rfl rfl ?_)
          refine sops_nil ?_
          exact ⟨rfl, rfl, rfl, rfl, [_, _, _, _], rfl, rfl⟩
        case b72 =>
          refine sops_no rfl rfl rfl rfl rfl ?_
          refine sops_no rfl rfl rfl rfl rfl ?_
          refine sops_no rfl rfl rfl rfl rfl ?_
          refine sops_no rfl rfl rfl rfl rfl ?_
          refine sops_go rfl (st_pick (v := .d _) rfl rfl rfl rfl ?_)
          refine sops_nil ?_
          exact ⟨rfl, rfl, rfl, rfl, [_, _, _, _], rfl, rfl⟩
        refine sops_go rfl (st_assign (v := .d _) rfl rfl rfl ?_)
        refine sops_nil ?_
        refine swp_ret ?_
        with_reducible refine after_ret ?_
        refine fin_b rfl rfl ?_
        simp only at hev
        rw [hev]; simp
      · have hlaw : p2 = true ∧ p3 = (ka == 1) ∧ (e5 = 2 ∨ (p5, e5) = (p4, 0)) := by
          simp only [Bool.or_eq_false_iff, bne_eq_false_iff_eq] at hc70
          exact hlaw hc70.1.1.1 hc70.1.1.2 hc70.1.2 hc70.2
        have hp1 : p1 = true := by
          simp only [Bool.or_eq_false_iff, bne_eq_false_iff_eq] at hc70
          have h0 : e1 = 0 := hc70.1.1.1
          have hev : p1 = (e1 == 0) := hev
          rw [hev, h0]; rfl
        obtain ⟨rfl, rfl, hlaw2⟩ := hlaw
        subst hp1
        refine swp_skip ?_
        refine swp_seq ?_
        refine swp_region ?_
        refine sops_go rfl (st_call rfl rfl (awake_pure) trivial rfl ?_)
        refine sops_go rfl (st_move (v := .d _) rfl rfl rfl ?_)
        refine' sops_and (d := 79) (p := 81) [80] 2 rfl rfl rfl (fun hb79 => ?a79) (fun hb79 => ?b79) ?_
        case a79 =>
          refine sops_yes rfl rfl rfl rfl (st_move (v := .d _) rfl rfl rfl ?_)
          refine sops_go rfl (st_pick (v := .d _) rfl rfl rfl rfl ?_)
          refine sops_nil ?_
          exact ⟨rfl, rfl, rfl, rfl, [_], rfl, rfl⟩
        case b79 =>
          refine sops_no rfl rfl rfl rfl rfl ?_
          refine sops_go rfl (st_pick (v := .d _) rfl rfl rfl rfl ?_)
          refine sops_nil ?_
          exact ⟨rfl, rfl, rfl, rfl, [_], rfl, rfl⟩
        refine sops_go rfl (st_move (v := .d _) rfl rfl rfl ?_)
        refine' sops_and (d := 82) (p := 84) [83] 2 rfl rfl rfl (fun hb82 => ?a82) (fun hb82 => ?b82) ?_
        case a82 =>
          refine sops_yes rfl rfl rfl rfl (st_move (v := .d _) rfl rfl rfl ?_)
          refine sops_go rfl (st_pick (v := .d _) rfl rfl rfl rfl ?_)
          refine sops_nil ?_
          exact ⟨rfl, rfl, rfl, rfl, [_], rfl, rfl⟩
        case b82 =>
          refine sops_no rfl rfl rfl rfl rfl ?_
          refine sops_go rfl (st_pick (v := .d _) rfl rfl rfl rfl ?_)
          refine sops_nil ?_
          exact ⟨rfl, rfl, rfl, rfl, [_], rfl, rfl⟩
        refine sops_go rfl (st_move (v := .d _) rfl rfl rfl ?_)
        refine' sops_and (d := 85) (p := 91) [86, 87, 88, 89, 90] 6 rfl rfl rfl (fun hb85 => ?a85) (fun hb85 => ?b85) ?_
        case a85 =>
          refine sops_yes rfl rfl rfl rfl (st_move (v := .d _) rfl rfl rfl ?_)
          first | refine sops_yes rfl rfl rfl rfl (so_fieldAddr (v := .p _ _ _) rfl rfl rfl rfl rfl rfl rfl rfl rfl rfl ?_) | refine sops_yes rfl rfl rfl rfl (so_fieldAddr (v := .dp _ _) rfl rfl rfl rfl rfl rfl rfl rfl rfl rfl ?_) | refine sops_yes rfl rfl rfl rfl (so_fieldAddr (v := .pe _ _ _ _ _) rfl rfl rfl rfl rfl rfl rfl rfl rfl rfl ?_)
          refine sops_yes rfl rfl rfl rfl (so_load (v := .d _) rfl rfl rfl rfl rfl rfl rfl rfl ?_)
          refine sops_yes rfl rfl rfl rfl (st_bin rfl rfl rfl rfl rfl ?_)
          refine sops_yes rfl rfl rfl rfl (so_eqB rfl rfl rfl rfl rfl rfl rfl ?_)
          refine sops_go rfl (st_pick (v := .d _) rfl rfl rfl rfl ?_)
          refine sops_nil ?_
          exact ⟨rfl, rfl, rfl, rfl, [_, _, _, _, _], rfl, rfl⟩
        case b85 =>
          refine sops_no rfl rfl rfl rfl rfl ?_
          refine sops_no rfl rfl rfl rfl rfl ?_
          refine sops_no rfl rfl rfl rfl rfl ?_
          refine sops_no rfl rfl rfl rfl rfl ?_
          refine sops_no rfl rfl rfl rfl rfl ?_
          refine sops_go rfl (st_pick (v := .d _) rfl rfl rfl rfl ?_)
          refine sops_nil ?_
          exact ⟨rfl, rfl, rfl, rfl, [_, _, _, _, _], rfl, rfl⟩
        refine sops_go rfl (st_move (v := .d _) rfl rfl rfl ?_)
        refine' sops_and (d := 92) (p := 104) [93, 94, 95, 96, 97, 98, 99, 100, 101, 102, 103] 12 rfl rfl rfl (fun hb92 => ?a92) (fun hb92 => ?b92) ?_
        case a92 =>
          refine sops_yes rfl rfl rfl rfl (st_move (v := .d _) rfl rfl rfl ?_)
          refine sops_yes rfl rfl rfl rfl (st_bin rfl rfl rfl rfl rfl ?_)
          refine sops_yes rfl rfl rfl rfl (st_move (v := .d _) rfl rfl rfl ?_)
          refine' sops_or (d := 95) (p := 103) [96, 97, 98, 99, 100, 101, 102] 8 rfl rfl rfl (fun hb95 => ?a95) (fun hb95 => ?b95) ?_
          case a95 =>
            refine sops_yes rfl rfl rfl rfl (st_move (v := .d _) rfl rfl rfl ?_)
            refine sops_yes rfl rfl rfl rfl (st_bin rfl rfl rfl rfl rfl ?_)
            refine sops_yes rfl rfl rfl rfl (st_move (v := .d _) rfl rfl rfl ?_)
            refine' sops_and (d := 98) (p := 102) [99, 100, 101] 4 rfl rfl rfl (fun hb98 => ?a98) (fun hb98 => ?b98) ?_
            case a98 =>
              refine sops_yes rfl rfl rfl rfl (st_move (v := .d _) rfl rfl rfl ?_)
              refine sops_yes rfl rfl rfl rfl (st_move (v := .d _) rfl rfl rfl ?_)
              refine sops_yes rfl rfl rfl rfl (so_eqB rfl rfl rfl rfl rfl rfl rfl ?_)
              refine sops_yes rfl rfl rfl rfl (st_pick (v := .d _) rfl rfl rfl rfl ?_)
              refine sops_nil ?_
              exact ⟨rfl, rfl, rfl, rfl, [_, _, _], rfl, rfl⟩
            case b98 =>
              refine sops_no rfl rfl rfl rfl rfl ?_
              refine sops_no rfl rfl rfl rfl rfl ?_
              refine sops_no rfl rfl rfl rfl rfl ?_
              refine sops_yes rfl rfl rfl rfl (st_pick (v := .d _) rfl rfl rfl rfl ?_)
              refine sops_nil ?_
              exact ⟨rfl, rfl, rfl, rfl, [_, _, _], rfl, rfl⟩
            refine sops_yes rfl rfl rfl rfl (st_pick (v := .d _) rfl rfl rfl rfl ?_)
            refine sops_nil ?_
            exact ⟨rfl, rfl, rfl, rfl, [_, _, _, _, _, _, _], rfl, rfl⟩
          case b95 =>
            refine sops_no rfl rfl rfl rfl rfl ?_
            refine sops_no rfl rfl rfl rfl rfl ?_
            refine sops_no rfl rfl rfl rfl rfl ?_
            refine sops_un rfl rfl rfl rfl rfl ?_
            refine sops_un rfl rfl rfl rfl rfl ?_
            refine sops_un rfl rfl rfl rfl rfl ?_
            refine sops_no rfl rfl rfl rfl rfl ?_
            refine sops_yes rfl rfl rfl rfl (st_pick (v := .d _) rfl rfl rfl rfl ?_)
            refine sops_nil ?_
            exact ⟨rfl, rfl, rfl, rfl, [_, _, _, _, _, _, _], rfl, rfl⟩
          refine sops_go rfl (st_pick (v := .d _) rfl rfl rfl rfl ?_)
          refine sops_nil ?_
          exact ⟨rfl, rfl, rfl, rfl, [_, _, _, _, _, _, _, _, _, _, _], rfl, rfl⟩
        case b92 =>
          refine sops_no rfl rfl rfl rfl rfl ?_
          refine sops_no rfl rfl rfl rfl rfl ?_
          refine sops_no rfl rfl rfl rfl rfl ?_
          refine sops_un rfl rfl rfl rfl rfl ?_
          refine sops_un rfl rfl rfl rfl rfl ?_
          refine sops_un rfl rfl rfl rfl rfl ?_
          refine sops_un rfl rfl rfl rfl rfl ?_
          refine sops_un rfl rfl rfl rfl rfl ?_
          refine sops_un rfl rfl rfl rfl rfl ?_
          refine sops_un rfl rfl rfl rfl rfl ?_
          refine sops_no rfl rfl rfl rfl rfl ?_
          refine sops_go rfl (st_pick (v := .d _) rfl rfl rfl rfl ?_)
          refine sops_nil ?_
          exact ⟨rfl, rfl, rfl, rfl, [_, _, _, _, _, _, _, _, _, _, _], rfl, rfl⟩
        refine sops_go rfl (st_assign (v := .d _) rfl rfl rfl ?_)
        refine sops_nil ?_
        refine swp_ret ?_
        refine fin_b rfl rfl ?_
        rcases hlaw2 with h | h
        · simp [h]
        · simp only [Prod.mk.injEq] at h
          obtain ⟨rfl, rfl⟩ := h
          simp
end Go.Proofs.YtdcpnpcmgfmenaaDoor
/-
  Walks: the document's Sub, Join; the law TypesOrders. Conditions: none.
-/
set_option linter.unusedVariables false
set_option maxRecDepth 100000
namespace Go.Proofs.YtdcpnpcmgfmenaaDoor
open Go Go.Proofs.YtdcpnpcmgfmenaaDoor.Lg

theorem rSub_pure (a b : T) (ha : a.fit) (hb : b.fit) : Pure env 9 [.d (a.df true), .d (b.df true)] (.tup [.d (.v (.bool (a.Sub b).1)), .d (.v (.int .i64 (a.Sub b).2))]) := by
  have c1 := rcheck_pure a ha true
  have c2 := rcheck_pure b hb true
  have c3 : a.both b = 0 → Pure env 22 [.d (a.df true), .d (b.df true)] (.d (.v (.bool (a.sub b)))) := fun h => rpart_pure a b (T.check_ok (T.both_checks h).1) (T.check_ok (T.both_checks h).2)
  have hS : a.Sub b = if (a.both b != 0) = true then (false, a.both b) else (a.sub b, 0) := rfl
  have hE : a.both b = if (a.check != 0) = true then a.check else b.check := rfl
  generalize a.both b = e0 at *
  generalize a.check = r1 at *
  generalize b.check = r2 at *
  generalize a.sub b = r3 at *
  generalize a.Sub b = R at *
  obtain ⟨ka, na, la⟩ := a
  obtain ⟨kb, nb, lb⟩ := b
  refine pure_of_body Tryd.func9 rfl rfl rfl fun B hB => ?_
  refine swp_seq ?_
  refine swp_region ?_
  refine sops_go rfl (so_box (cs := [_, _, _]) rfl rfl rfl ?_)
  refine sops_go rfl (so_box (cs := [_, _, _]) rfl rfl rfl ?_)
  refine sops_go rfl (st_assign (v := .d _) rfl rfl rfl ?_)
  refine sops_go rfl (st_assign (v := .d _) rfl rfl rfl ?_)
  refine sops_nil ?_
  refine swp_seq ?_
  refine swp_region ?_
  first | refine sops_go rfl (so_load (v := .d (.agg [_, _, _])) rfl rfl rfl rfl rfl rfl rfl rfl ?_) | refine sops_go rfl (so_load (v := .agg [_, _, _]) rfl rfl rfl rfl rfl rfl rfl rfl ?_)
  refine sops_go rfl (st_call rfl rfl (c1) ⟨na_d _, trivial⟩ rfl ?_)
  refine sops_go rfl (st_assign (v := .d _) rfl rfl rfl ?_)
  refine sops_nil ?_
  refine swp_seqF (F := fun e : Int => ({ t := upd (upd (upd (fun _ => .any) 2 (.p 0 0 0)) 3 (.p 1 0 0)) 6 (.d (.v (.int .i64 e))), n := 19, h := upd (upd (fun _ => .dead) 0 (.cells [.d (.v (.int .i64 ka)), .d (.sl true (strRows na)), .d (.sl true (T.rows la))])) 1 (.cells [.d (.v (.int .i64 kb)), .d (.sl true (strRows nb)), .d (.sl true (T.rows lb))]), nx := 2 } : St)) (P := fun e => e0 = e) ?_ ?_
  · refine swp_seq ?_
    refine swp_region ?_
    refine sops_go rfl (st_move (v := .d _) rfl rfl rfl ?_)
    refine sops_go rfl (st_bin rfl rfl rfl rfl rfl ?_)
    refine sops_nil ?_
    refine swp_cond _ rfl (fun hc10 => ?_) (fun hc10 => ?_)
    · rw [if_neg (by rw [show r1 = 0 by simpa using hc10]; simp)] at hE
      refine swp_region ?_
      first | refine sops_go rfl (so_load (v := .d (.agg [_, _, _])) rfl rfl rfl rfl rfl rfl rfl rfl ?_) | refine sops_go rfl (so_load (v := .agg [_, _, _]) rfl rfl rfl rfl rfl rfl rfl rfl ?_)
      refine sops_go rfl (st_call rfl rfl (c2) ⟨na_d _, trivial⟩ rfl ?_)
      refine sops_go rfl (st_assign (v := .d _) rfl rfl rfl ?_)
      refine sops_nil ?_
      refine ⟨_, hE, ?_⟩
      refine wk_of rfl (Nat.le_of_ble_eq_true rfl) (by rw [hB]; exact Nat.zero_le _) (tle_upd (le_eq rfl rfl) (tle_upd (le_eq rfl rfl) (tle_upd (le_eq rfl rfl) (tle_any _)))) (hle_upd (.cells _ _ ⟨le_eq rfl rfl, le_eq rfl rfl, le_eq rfl rfl, trivial⟩) (hle_upd (.cells _ _ ⟨le_eq rfl rfl, le_eq rfl rfl, le_eq rfl rfl, trivial⟩) (hle_dead _))) (dead_upd (Nat.le_of_ble_eq_true rfl) (dead_upd (Nat.le_of_ble_eq_true rfl) (dead_none)))
    · rw [if_pos (by simpa using hc10)] at hE
      refine swp_skip ?_
      refine ⟨_, hE, ?_⟩
      refine wk_of rfl (Nat.le_of_ble_eq_true rfl) (by rw [hB]; exact Nat.zero_le _) (tle_upd (le_eq rfl rfl) (tle_upd (le_eq rfl rfl) (tle_upd (le_eq rfl rfl) (tle_any _)))) (hle_upd (.cells _ _ ⟨le_eq rfl rfl, le_eq rfl rfl, le_eq rfl rfl, trivial⟩) (hle_upd (.cells _ _ ⟨le_eq rfl rfl, le_eq rfl rfl, le_eq rfl rfl, trivial⟩) (hle_dead _))) (dead_upd (Nat.le_of_ble_eq_true rfl) (dead_upd (Nat.le_of_ble_eq_true rfl) (dead_none)))
  · rintro e rfl
    refine swp_seq ?_
    refine swp_seq ?_
    refine swp_region ?_
    refine sops_go rfl (st_move (v := .d _) rfl rfl rfl ?_)
    refine sops_go rfl (st_bin rfl rfl rfl rfl rfl ?_)
    refine sops_nil ?_
    refine swp_cond _ rfl (fun hc14 => ?_) (fun hc14 => ?_)
    · rw [if_pos hc14] at hS
      refine swp_seq ?_
      refine swp_region ?_
      refine sops_go rfl (st_move (v := .d _) rfl rfl rfl ?_)
      refine sops_go rfl (st_assign (v := .d _) rfl rfl rfl ?_)
      refine sops_go rfl (st_assign (v := .d _) rfl rfl rfl ?_)
      refine sops_nil ?_
      refine swp_ret ?_
      with_reducible refine after_ret ?_
      rw [hS]; exact fin_2v rfl rfl rfl rfl rfl
    · rw [if_neg (by rw [hc14]; simp)] at hS
      have h0 : e0 = 0 := by simpa using hc14
      refine swp_skip ?_
      refine swp_seq ?_
      refine swp_region ?_
      first | refine sops_go rfl (so_load (v := .d (.agg [_, _, _])) rfl rfl rfl rfl rfl rfl rfl rfl ?_) | refine sops_go rfl (so_load (v := .agg [_, _, _]) rfl rfl rfl rfl rfl rfl rfl rfl ?_)
      first | refine sops_go rfl (so_load (v := .d (.agg [_, _, _])) rfl rfl rfl rfl rfl rfl rfl rfl ?_) | refine sops_go rfl (so_load (v := .agg [_, _, _]) rfl rfl rfl rfl rfl rfl rfl rfl ?_)
      refine sops_go rfl (st_call rfl rfl (c3 h0) ⟨na_d _, na_d _, trivial⟩ rfl ?_)
      refine sops_go rfl (st_assign (v := .d _) rfl rfl rfl ?_)
      refine sops_go rfl (st_assign (v := .d _) rfl rfl rfl ?_)
      refine sops_nil ?_
      refine swp_ret ?_
      rw [hS]; exact fin_2v rfl rfl rfl rfl rfl

theorem rJoin_pure (a b : T) (ha : a.fit) (hb : b.fit) : Pure env 11 [.d (a.df true), .d (b.df true)] (.tup [.d ((a.Join b).1.df true), .d (.v (.int .i64 (a.Join b).2))]) := by
  have c1 := rcheck_pure a ha true
  have c2 := rcheck_pure b hb true
  have c3 : a.both b = 0 → Pure env 25 [.d (a.df true), .d (b.df true)] (.d ((a.join b).df true)) := fun h => by
    obtain ⟨h1, h2⟩ := T.both_checks h
    have := rjoined_pure a b (T.check_ok h1) (T.check_ok h2) ha hb (T.check_slim h1) (T.check_slim h2)
    rwa [T.rjoin_eq a b (T.check_ok h1) (T.check_ok h2)] at this
  have hS : a.Join b = if (a.both b != 0) = true then (.none, a.both b) else (a.join b, 0) := rfl
  have hE : a.both b = if (a.check != 0) = true then a.check else b.check := rfl
  generalize a.both b = e0 at *
  generalize a.check = r1 at *
  generalize b.check = r2 at *
  generalize a.join b = r3 at *
  generalize a.Join b = R at *
  obtain ⟨ka, na, la⟩ := a
  obtain ⟨kb, nb, lb⟩ := b
  obtain ⟨k3, n3, l3⟩ := r3
  refine pure_of_body Tryd.func11 rfl rfl rfl fun B hB => ?_
  refine swp_seq ?_
  refine swp_region ?_
  refine sops_go rfl (so_box (cs := [_, _, _]) rfl rfl rfl ?_)
  refine sops_go rfl (so_box (cs := [_, _, _]) rfl rfl rfl ?_)
  refine sops_go rfl (so_alloc (cs := [_, _, _]) rfl rfl rfl rfl ?_)
  refine sops_go rfl (st_assign (v := .d _) rfl rfl rfl ?_)
  refine sops_nil ?_
  refine swp_seq ?_
  refine swp_region ?_
  first | refine sops_go rfl (so_load (v := .d (.agg [_, _, _])) rfl rfl rfl rfl rfl rfl rfl rfl ?_) | refine sops_go rfl (so_load (v := .agg [_, _, _]) rfl rfl rfl rfl rfl rfl rfl rfl ?_)
  refine sops_go rfl (st_call rfl rfl (c1) ⟨na_d _, trivial⟩ rfl ?_)
  refine sops_go rfl (st_assign (v := .d _) rfl rfl rfl ?_)
  refine sops_nil ?_
  refine swp_seqF (F := fun e : Int => ({ t := upd (upd (upd (upd (fun _ => .any) 2 (.p 0 0 0)) 3 (.p 1 0 0)) 4 (.p 2 0 0)) 6 (.d (.v (.int .i64 e))), n := 20, h := upd (upd (upd (fun _ => .dead) 0 (.cells [.d (.v (.int .i64 ka)), .d (.sl true (strRows na)), .d (.sl true (T.rows la))])) 1 (.cells [.d (.v (.int .i64 kb)), .d (.sl true (strRows nb)), .d (.sl true (T.rows lb))])) 2 (.cells [.any, .any, .any]), nx := 3 } : St)) (P := fun e => e0 = e) ?_ ?_
  · refine swp_seq ?_
    refine swp_region ?_
    refine sops_go rfl (st_move (v := .d _) rfl rfl rfl ?_)
    refine sops_go rfl (st_bin rfl rfl rfl rfl rfl ?_)
    refine sops_nil ?_
    refine swp_cond _ rfl (fun hc10 => ?_) (fun hc10 => ?_)
    · rw [if_neg (by rw [show r1 = 0 by simpa using hc10]; simp)] at hE
      refine swp_region ?_
      first | refine sops_go rfl (so_load (v := .d (.agg [_, _, _])) rfl rfl rfl rfl rfl rfl rfl rfl ?_) | refine sops_go rfl (so_load (v := .agg [_, _, _]) rfl rfl rfl rfl rfl rfl rfl rfl ?_)
      refine sops_go rfl (st_call rfl rfl (c2) ⟨na_d _, trivial⟩ rfl ?_)
      refine sops_go rfl (st_assign (v := .d _) rfl rfl rfl ?_)
      refine sops_nil ?_
      refine ⟨_, hE, ?_⟩
      refine wk_of rfl (Nat.le_of_ble_eq_true rfl) (by rw [hB]; exact Nat.zero_le _) (tle_upd (le_eq rfl rfl) (tle_upd (le_eq rfl rfl) (tle_upd (le_eq rfl rfl) (tle_upd (le_eq rfl rfl) (tle_any _))))) (hle_upd (.cells _ _ ⟨le_any _, le_any _, le_any _, trivial⟩) (hle_upd (.cells _ _ ⟨le_eq rfl rfl, le_eq rfl rfl, le_eq rfl rfl, trivial⟩) (hle_upd (.cells _ _ ⟨le_eq rfl rfl, le_eq rfl rfl, le_eq rfl rfl, trivial⟩) (hle_dead _)))) (dead_upd (Nat.le_of_ble_eq_true rfl) (dead_upd (Nat.le_of_ble_eq_true rfl) (dead_upd (Nat.le_of_ble_eq_true rfl) (dead_none))))
    · rw [if_pos (by simpa using hc10)] at hE
      refine swp_skip ?_
      refine ⟨_, hE, ?_⟩
      refine wk_of rfl (Nat.le_of_ble_eq_true rfl) (by rw [hB]; exact Nat.zero_le _) (tle_upd (le_eq rfl rfl) (tle_upd (le_eq rfl rfl) (tle_upd (le_eq rfl rfl) (tle_upd (le_eq rfl rfl) (tle_any _))))) (hle_upd (.cells _ _ ⟨le_any _, le_any _, le_any _, trivial⟩) (hle_upd (.cells _ _ ⟨le_eq rfl rfl, le_eq rfl rfl, le_eq rfl rfl, trivial⟩) (hle_upd (.cells _ _ ⟨le_eq rfl rfl, le_eq rfl rfl, le_eq rfl rfl, trivial⟩) (hle_dead _)))) (dead_upd (Nat.le_of_ble_eq_true rfl) (dead_upd (Nat.le_of_ble_eq_true rfl) (dead_upd (Nat.le_of_ble_eq_true rfl) (dead_none))))
  · rintro e rfl
    refine swp_seq ?_
    refine swp_seq ?_
    refine swp_region ?_
    refine sops_go rfl (st_move (v := .d _) rfl rfl rfl ?_)
    refine sops_go rfl (st_bin rfl rfl rfl rfl rfl ?_)
    refine sops_nil ?_
    refine swp_cond _ rfl (fun hc14 => ?_) (fun hc14 => ?_)
    · rw [if_pos hc14] at hS
      refine swp_seq ?_
      refine swp_region ?_
      first | refine sops_go rfl (so_build (v := .d (.agg [_, _, _])) rfl rfl rfl rfl rfl rfl rfl ?_) | refine sops_go rfl (so_build (v := .agg [_, _, _]) rfl rfl rfl rfl rfl rfl rfl ?_)
      refine sops_go rfl (st_move (v := .d _) rfl rfl rfl ?_)
      refine sops_go rfl (so_store rfl rfl rfl rfl rfl rfl rfl rfl rfl (zs := [_, _, _]) rfl ?_)
      refine sops_go rfl (st_assign (v := .d _) rfl rfl rfl ?_)
      refine sops_nil ?_
      refine swp_ret ?_
      with_reducible refine after_ret ?_
      rw [hS]; exact fin_cv rfl (rc_of rfl rfl rfl rfl rfl (ra_dagg ⟨ra_d (keeps_v _), ra_nil, ra_nil, trivial⟩)) rfl rfl
    · rw [if_neg (by rw [hc14]; simp)] at hS
      have h0 : e0 = 0 := by simpa using hc14
      refine swp_skip ?_
      refine swp_seq ?_
      refine swp_region ?_
      first | refine sops_go rfl (so_load (v := .d (.agg [_, _, _])) rfl rfl rfl rfl rfl rfl rfl rfl ?_) | refine sops_go rfl (so_load (v := .agg [_, _, _]) rfl rfl rfl rfl rfl rfl rfl rfl ?_)
      first | refine sops_go rfl (so_load (v := .d (.agg [_, _, _])) rfl rfl rfl rfl rfl rfl rfl rfl ?_) | refine sops_go rfl (so_load (v := .agg [_, _, _]) rfl rfl rfl rfl rfl rfl rfl rfl ?_)
      refine sops_go rfl (st_call rfl rfl (c3 h0) ⟨na_d _, na_d _, trivial⟩ rfl ?_)
      refine sops_go rfl (so_store rfl rfl rfl rfl rfl rfl rfl rfl rfl (zs := [_, _, _]) rfl ?_)
      refine sops_go rfl (st_assign (v := .d _) rfl rfl rfl ?_)
      refine sops_nil ?_
      refine swp_ret ?_
      rw [hS]; exact fin_cv rfl (rc_of rfl rfl rfl rfl rfl (ra_d (T.keepsD (.mk k3 n3 l3)))) rfl rfl

theorem TypesOrders_pure (a b : T) (ha : a.fit) (hb : b.fit) : Pure env 3 [.d a.d, .d b.d] (.d (.v (.bool true))) := by
  have c0a := bigType_s a
  have c0b := bigType_s b
  have c1 := Sub_pure a b ha hb true true
  have c2 := rSub_pure a b ha hb
  have c3 := Join_pure a b ha hb
  have c4 := rJoin_pure a b ha hb
  have c5 := rsame_pure (a.Join b).1
  generalize a.Sub b = r1 at *
  generalize a.Join b = r2 at *
  obtain ⟨j, i2⟩ := r2
  simp only at c3 c4 c5
  rw [T.df_d] at c0a c0b c3 c5 ⊢
  rw [T.df_d]
  obtain ⟨p1, e1⟩ := r1
  obtain ⟨ka, na, la⟩ := a
  obtain ⟨kb, nb, lb⟩ := b
  obtain ⟨kj, nj, lj⟩ := j
  refine pure_of_body Tryd.func3 rfl rfl rfl fun B hB => ?_
  refine swp_seq ?_
  refine swp_region ?_
  refine sops_go rfl (so_box (cs := [_, _, _]) rfl rfl rfl ?_)
  refine sops_go rfl (so_box (cs := [_, _, _]) rfl rfl rfl ?_)
  refine sops_go rfl (st_assign (v := .d _) rfl rfl rfl ?_)
  refine sops_nil ?_
  refine swp_seq ?_
  refine swp_seq ?_
  refine swp_region ?_
  first | refine sops_go rfl (so_load (v := .d (.agg [_, _, _])) rfl rfl rfl rfl rfl rfl rfl rfl ?_) | refine sops_go rfl (so_load (v := .agg [_, _, _]) rfl rfl rfl rfl rfl rfl rfl rfl ?_)
  refine sops_go rfl (st_callS rfl rfl (c0a) ⟨na_d _, trivial⟩ rfl fun r hr => ?_)
  obtain ⟨b1, rfl⟩ := hr
  refine sops_go rfl (st_move (v := .d _) rfl rfl rfl ?_)
  refine sops_case 15 rfl (fun hb15 => ?_) (fun hb15 => ?_)
  · refine sops_no rfl rfl rfl rfl rfl ?_
    refine sops_no rfl rfl rfl rfl rfl ?_
    refine sops_go rfl (st_pick (v := .d _) rfl rfl rfl rfl ?_)
    refine sops_nil ?_
    refine swp_condT rfl ?_
    refine swp_seq ?_
    refine swp_region ?_
    refine sops_go rfl (st_assign (v := .d _) rfl rfl rfl ?_)
    refine sops_nil ?_
    refine swp_ret ?_
    with_reducible refine after_ret ?_
    exact fin_b rfl rfl rfl
  · first | refine sops_yes rfl rfl rfl rfl (so_load (v := .d (.agg [_, _, _])) rfl rfl rfl rfl rfl rfl rfl rfl ?_) | refine sops_yes rfl rfl rfl rfl (so_load (v := .agg [_, _, _]) rfl rfl rfl rfl rfl rfl rfl rfl ?_)
    refine sops_yes rfl rfl rfl rfl (st_callS rfl rfl (c0b) ⟨na_d _, trivial⟩ rfl fun r hr => ?_)
    obtain ⟨b2, rfl⟩ := hr
    refine sops_go rfl (st_pick (v := .d _) rfl rfl rfl rfl ?_)
    refine sops_nil ?_
    refine swp_cond _ rfl (fun hc18 => ?_) (fun hc18 => ?_)
    · refine swp_seq ?_
      refine swp_region ?_
      refine sops_go rfl (st_assign (v := .d _) rfl rfl rfl ?_)
      refine sops_nil ?_
      refine swp_ret ?_
      with_reducible refine after_ret ?_
      exact fin_b rfl rfl rfl
    · refine swp_skip ?_
      refine swp_seq ?_
      refine swp_region ?_
      first | refine sops_go rfl (so_load (v := .d (.agg [_, _, _])) rfl rfl rfl rfl rfl rfl rfl rfl ?_) | refine sops_go rfl (so_load (v := .agg [_, _, _]) rfl rfl rfl rfl rfl rfl rfl rfl ?_)
      first | refine sops_go rfl (so_load (v := .d (.agg [_, _, _])) rfl rfl rfl rfl rfl rfl rfl rfl ?_) | refine sops_go rfl (so_load (v := .agg [_, _, _]) rfl rfl rfl rfl rfl rfl rfl rfl ?_)
      refine sops_go rfl (st_call rfl rfl (c1) ⟨na_d _, na_d _, trivial⟩ rfl ?_)
      refine sops_go rfl (st_move (v := .tup _) rfl rfl rfl ?_)
      refine sops_go rfl (st_extract (c := .d _) rfl rfl rfl rfl ?_)
      refine sops_go rfl (st_extract (c := .d _) rfl rfl rfl rfl ?_)
      refine sops_go rfl (st_assign (v := .d _) rfl rfl rfl ?_)
      refine sops_go rfl (st_assign (v := .d _) rfl rfl rfl ?_)
      refine sops_nil ?_
      refine swp_seq ?_
      refine swp_region ?_
      first | refine sops_go rfl (so_load (v := .d (.agg [_, _, _])) rfl rfl rfl rfl rfl rfl rfl rfl ?_) | refine sops_go rfl (so_load (v := .agg [_, _, _]) rfl rfl rfl rfl rfl rfl rfl rfl ?_)
      first | refine sops_go rfl (so_load (v := .d (.agg [_, _, _])) rfl rfl rfl rfl rfl rfl rfl rfl ?_) | refine sops_go rfl (so_load (v := .agg [_, _, _]) rfl rfl rfl rfl rfl rfl rfl rfl ?_)
      refine sops_go rfl (st_call rfl rfl (c2) ⟨na_d _, na_d _, trivial⟩ rfl ?_)
      refine sops_go rfl (st_move (v := .tup _) rfl rfl rfl ?_)
      refine sops_go rfl (st_extract (c := .d _) rfl rfl rfl rfl ?_)
      refine sops_go rfl (st_extract (c := .d _) rfl rfl rfl rfl ?_)
      refine sops_go rfl (st_assign (v := .d _) rfl rfl rfl ?_)
      refine sops_go rfl (st_assign (v := .d _) rfl rfl rfl ?_)
      refine sops_nil ?_
      refine swp_seq ?_
      refine swp_region ?_
      first | refine sops_go rfl (so_load (v := .d (.agg [_, _, _])) rfl rfl rfl rfl rfl rfl rfl rfl ?_) | refine sops_go rfl (so_load (v := .agg [_, _, _]) rfl rfl rfl rfl rfl rfl rfl rfl ?_)
      first | refine sops_go rfl (so_load (v := .d (.agg [_, _, _])) rfl rfl rfl rfl rfl rfl rfl rfl ?_) | refine sops_go rfl (so_load (v := .agg [_, _, _]) rfl rfl rfl rfl rfl rfl rfl rfl ?_)
      refine sops_go rfl (st_call rfl rfl (c3) ⟨na_d _, na_d _, trivial⟩ rfl ?_)
      refine sops_go rfl (st_move (v := .tup _) rfl rfl rfl ?_)
      first | refine sops_go rfl (st_extract (c := .d _) rfl rfl rfl rfl ?_) | refine sops_go rfl (st_extract (c := .agg _) rfl rfl rfl rfl ?_)
      refine sops_go rfl (st_extract (c := .d _) rfl rfl rfl rfl ?_)
      refine sops_go rfl (so_alloc (cs := [_, _, _]) rfl rfl rfl rfl ?_)
      refine sops_go rfl (so_store rfl rfl rfl rfl rfl rfl rfl rfl rfl (zs := [_, _, _]) rfl ?_)
      refine sops_go rfl (st_assign (v := .d _) rfl rfl rfl ?_)
      refine sops_nil ?_
      refine swp_seq ?_
      refine swp_region ?_
      first | refine sops_go rfl (so_load (v := .d (.agg [_, _, _])) rfl rfl rfl rfl rfl rfl rfl rfl ?_) | refine sops_go rfl (so_load (v := .agg [_, _, _]) rfl rfl rfl rfl rfl rfl rfl rfl ?_)
      first | refine sops_go rfl (so_load (v := .d (.agg [_, _, _])) rfl rfl rfl rfl rfl rfl rfl rfl ?_) | refine sops_go rfl (so_load (v := .agg [_, _, _]) rfl rfl rfl rfl rfl rfl rfl rfl ?_)
      refine sops_go rfl (st_call rfl rfl (c4) ⟨na_d _, na_d _, trivial⟩ rfl ?_)
      refine sops_go rfl (st_move (v := .tup _) rfl rfl rfl ?_)
      first | refine sops_go rfl (st_extract (c := .d _) rfl rfl rfl rfl ?_) | refine sops_go rfl (st_extract (c := .agg _) rfl rfl rfl rfl ?_)
      refine sops_go rfl (st_extract (c := .d _) rfl rfl rfl rfl ?_)
      refine sops_go rfl (so_alloc (cs := [_, _, _]) rfl rfl rfl rfl ?_)
      refine sops_go rfl (so_store rfl rfl rfl rfl rfl rfl rfl rfl rfl (zs := [_, _, _]) rfl ?_)
      refine sops_go rfl (st_assign (v := .d _) rfl rfl rfl ?_)
      refine sops_nil ?_
      refine swp_seq ?_
      refine swp_region ?_
      refine sops_go rfl (st_call rfl rfl (awake_pure) trivial rfl ?_)
      refine sops_go rfl (st_move (v := .d _) rfl rfl rfl ?_)
      refine' sops_and (d := 44) (p := 48) [45, 46, 47] 4 rfl rfl rfl (fun hb44 => ?a44) (fun hb44 => ?b44) ?_
      case a44 =>
        refine sops_yes rfl rfl rfl rfl (st_move (v := .d _) rfl rfl rfl ?_)
        refine sops_yes rfl rfl rfl rfl (st_move (v := .d _) rfl rfl rfl ?_)
        refine sops_yes rfl rfl rfl rfl (so_eqB rfl rfl rfl rfl rfl rfl rfl ?_)
        refine sops_go rfl (st_pick (v := .d _) rfl rfl rfl rfl ?_)
        refine sops_nil ?_
        exact ⟨rfl, rfl, rfl, rfl, [_, _, _], rfl, rfl⟩
      case b44 =>
        refine sops_no rfl rfl rfl rfl rfl ?_
        refine sops_no rfl rfl rfl rfl rfl ?_
        refine sops_no rfl rfl rfl rfl rfl ?_
        refine sops_go rfl (st_pick (v := .d _) rfl rfl rfl rfl ?_)
        refine sops_nil ?_
        exact ⟨rfl, rfl, rfl, rfl, [_, _, _], rfl, rfl⟩
      refine sops_go rfl (st_move (v := .d _) rfl rfl rfl ?_)
      refine' sops_and (d := 49) (p := 53) [50, 51, 52] 4 rfl rfl rfl (fun hb49 => ?a49) (fun hb49 => ?b49) ?_
      case a49 =>
        refine sops_yes rfl rfl rfl rfl (st_move (v := .d _) rfl rfl rfl ?_)
        refine sops_yes rfl rfl rfl rfl (st_move (v := .d _) rfl rfl rfl ?_)
        refine sops_yes rfl rfl rfl rfl (st_bin rfl rfl rfl rfl rfl ?_)
        refine sops_go rfl (st_pick (v := .d _) rfl rfl rfl rfl ?_)
        refine sops_nil ?_
        exact ⟨rfl, rfl, rfl, rfl, [_, _, _], rfl, rfl⟩
      case b49 =>
        refine sops_no rfl rfl rfl rfl rfl ?_
        refine sops_no rfl rfl rfl rfl rfl ?_
        refine sops_no rfl rfl rfl rfl rfl ?_
        refine sops_go rfl (st_pick (v := .d _) rfl rfl rfl rfl ?_)
        refine sops_nil ?_
        exact ⟨rfl, rfl, rfl, rfl, [_, _, _], rfl, rfl⟩
      refine sops_go rfl (st_move (v := .d _) rfl rfl rfl ?_)
      refine' sops_and (d := 54) (p := 58) [55, 56, 57] 4 rfl rfl rfl (fun hb54 => ?a54) (fun hb54 => ?b54) ?_
      case a54 =>
        refine sops_yes rfl rfl rfl rfl (st_move (v := .d _) rfl rfl rfl ?_)
        refine sops_yes rfl rfl rfl rfl (st_move (v := .d _) rfl rfl rfl ?_)
        refine sops_yes rfl rfl rfl rfl (st_bin rfl rfl rfl rfl rfl ?_)
        refine sops_go rfl (st_pick (v := .d _) rfl rfl rfl rfl ?_)
        refine sops_nil ?_
        exact ⟨rfl, rfl, rfl, rfl, [_, _, _], rfl, rfl⟩
      case b54 =>
        refine sops_no rfl rfl rfl rfl rfl ?_
        refine sops_no rfl rfl rfl rfl rfl ?_
        refine sops_no rfl rfl rfl rfl rfl ?_
        refine sops_go rfl (st_pick (v := .d _) rfl rfl rfl rfl ?_)
        refine sops_nil ?_
        exact ⟨rfl, rfl, rfl, rfl, [_, _, _], rfl, rfl⟩
      refine sops_go rfl (st_move (v := .d _) rfl rfl rfl ?_)
      refine' sops_and (d := 59) (p := 63) [60, 61, 62] 4 rfl rfl rfl (fun hb59 => ?a59) (fun hb59 => ?b59) ?_
      case a59 =>
        first | refine sops_yes rfl rfl rfl rfl (so_load (v := .d (.agg [_, _, _])) rfl rfl rfl rfl rfl rfl rfl rfl ?_) | refine sops_yes rfl rfl rfl rfl (so_load (v := .agg [_, _, _]) rfl rfl rfl rfl rfl rfl rfl rfl ?_)
        first | refine sops_yes rfl rfl rfl rfl (so_load (v := .d (.agg [_, _, _])) rfl rfl rfl rfl rfl rfl rfl rfl ?_) | refine sops_yes rfl rfl rfl rfl (so_load (v := .agg [_, _, _]) rfl rfl rfl rfl rfl rfl rfl rfl ?_)
        refine sops_yes rfl rfl rfl rfl (st_call rfl rfl (c5) ⟨na_d _, na_d _, trivial⟩ rfl ?_)
        refine sops_go rfl (st_pick (v := .d _) rfl rfl rfl rfl ?_)
        refine sops_nil ?_
        exact ⟨rfl, rfl, rfl, rfl, [_, _, _], rfl, rfl⟩
      case b59 =>
        refine sops_no rfl rfl rfl rfl rfl ?_
        refine sops_no rfl rfl rfl rfl rfl ?_
        refine sops_no rfl rfl rfl rfl rfl ?_
        refine sops_go rfl (st_pick (v := .d _) rfl rfl rfl rfl ?_)
        refine sops_nil ?_
        exact ⟨rfl, rfl, rfl, rfl, [_, _, _], rfl, rfl⟩
      refine sops_go rfl (st_assign (v := .d _) rfl rfl rfl ?_)
      refine sops_nil ?_
      refine swp_ret ?_
      exact fin_b rfl rfl (by simp)
end Go.Proofs.YtdcpnpcmgfmenaaDoor
/-
  What comes in, read as trees. Conditions: none.
-/
set_option linter.unusedVariables false
set_option linter.unusedSimpArgs false
set_option maxRecDepth 100000
namespace Go.Proofs.YtdcpnpcmgfmenaaDoor
open Go Go.Proofs.YtdcpnpcmgfmenaaDoor.Lg Go.ChangeShapes Go.WideShapes Go.RowKit

def Lt (W : World) : Nat → Prop := fun b => b < W.heap.size
def DRs (W : World) (ds : List D) (cs : List Value) : Prop := cs.length = ds.length ∧ ∀ (i : Nat) c v, ds[i]? = some c → cs[i]? = some v → DR W (Lt W) (Lt W) c v

theorem choose_list {α : Type} {p : Nat → α → Prop} : ∀ n : Nat, (∀ i, i < n → ∃ y, p i y) → ∃ l : List α, l.length = n ∧ ∀ (i : Nat) (h : i < l.length), p i l[i]
  | 0, _ => ⟨[], rfl, fun i h => absurd h (by simp)⟩
  | n + 1, h => by
    obtain ⟨l, h1, h2⟩ := choose_list n fun i hi => h i (by omega)
    obtain ⟨y, hy⟩ := h n (by omega)
    refine ⟨l ++ [y], by simp [h1], fun i hi => ?_⟩
    by_cases e : i < l.length
    · rw [List.getElem_append_left e]; exact h2 i e
    · have : i = l.length := by simp at hi; omega
      subst this
      simp [h1]; exact hy

section
variable {H : Type} {enc : TypeId × Value → H} {W : World} {base : Nat} {sp : Nat → Bool} {held : Bool}

theorem drs_one {d : D} {v : Value} (h : DR W (Lt W) (Lt W) d v) : DRs W [d] [v] := ⟨rfl, fun i c v' h1 h2 => by
  cases i with
  | zero => simp at h1 h2; subst h1; subst h2; exact h
  | succ i => simp at h1⟩

theorem read_slice {α : Type} {cells : α → List D} {Q : α → Prop} {t e sz : Nat} (ht : Tryd.prog.underlying t = some (.slice e)) (hsz : Tryd.prog.cellsOf e = sz) (h0 : 0 < sz) (hc : ∀ y, (cells y).length = sz) {n : Nat} {cs : List Value} {x : DataW H × List MemPlace}
    (h : DataW.trod enc Tryd.prog W base sp held n t cs = some x) (rd : ∀ m, m < n → ∀ cs x, DataW.trod enc Tryd.prog W base sp held m e cs = some x → ∃ y : α, Q y ∧ DRs W (cells y) cs) :
    ∃ l : List α, (∀ y ∈ l, Q y) ∧ DRs W [.sl true (l.map cells)] cs := by
  rcases DataW.trod_slice ht h with ⟨rfl, _⟩ | ⟨a, len, cap, elems, rest, m, rfl, rfl, _, hb, hl, hm, hlen, hel, _, _⟩
  · exact ⟨[], by simp, drs_one (.nil _ _ _)⟩
  rw [hsz] at hel
  obtain ⟨l, hll, hl'⟩ := choose_list (p := fun i y => Q y ∧ ∃ cs', W.cells? base (a.add (i * sz)) sz = some cs' ∧ DRs W (cells y) cs') len fun i hi => by
    have := hel i hi
    rw [List.getElem?_eq_getElem (by omega)] at this
    obtain ⟨cs', h1, h2⟩ := Option.bind_eq_some_iff.1 this
    obtain ⟨y, hy, hd⟩ := rd m (by omega) cs' _ h2
    exact ⟨y, hy, cs', h1, hd⟩
  refine ⟨l, fun y hy => ?_, ?_⟩
  · obtain ⟨i, hi, rfl⟩ := List.mem_iff_getElem.1 hy
    exact (hl' i hi).1
  · by_cases hz : len = 0
    · subst hz
      have : l = [] := List.eq_nil_of_length_eq_zero hll
      subst this
      exact drs_one (.nil _ _ _)
    · have hspot : ∃ b off, a = ⟨b, off, none⟩ := by
        obtain ⟨_, cs', h1, h2⟩ := hl' 0 (by omega)
        obtain ⟨_, h3, h4⟩ := World.cells?_some h1
        have h5 := h4 0 h0
        rw [List.getElem?_eq_getElem (by omega)] at h5
        have e0 : (a.add (0 * sz)).add 0 = a := by simp [Addr.add]
        rw [e0] at h5
        obtain ⟨b, off, s⟩ := a
        cases s with
        | none => exact ⟨b, off, rfl⟩
        | some s => simp [World.cell?] at h5; split at h5 <;> simp at h5
      obtain ⟨b, off, rfl⟩ := hspot
      have hcell : ∀ (q : Nat) (hq : q < l.length) (r : Nat), r < sz → ∃ v, W.cell? ⟨b, off + (q * sz + r), none⟩ = some v ∧ ∀ c, (cells l[q])[r]? = some c → DR W (Lt W) (Lt W) c v := by
        intro q hq r hr
        obtain ⟨_, cs', h1, h2, h3⟩ := hl' q hq
        obtain ⟨_, h4, h5⟩ := World.cells?_some h1
        have h6 := h5 r hr
        have e0 : ((⟨b, off, none⟩ : Addr).add (q * sz)).add r = ⟨b, off + (q * sz + r), none⟩ := by rw [add_mk, add_mk, Nat.add_assoc]
        rw [e0, List.getElem?_eq_getElem (by omega)] at h6
        exact ⟨_, h6, fun c hc => h3 r c _ hc (List.getElem?_eq_getElem (by omega))⟩
      have hlt : b < W.heap.size := by
        obtain ⟨v, h1, _⟩ := hcell 0 (by omega) 0 h0
        unfold World.cell? at h1
        split at h1
        · rename_i hh; exact (Array.getElem?_eq_some_iff.1 hh).1
        · cases h1
      have hrow : ∀ r ∈ l.map cells, r.length = sz := by
        intro r hr; obtain ⟨y, _, rfl⟩ := List.mem_map.1 hr; exact hc y
      have inv : ∀ (i : Nat) c, (l.map cells).flatten[i]? = some c → ∃ v, W.cell? ⟨b, off + i, none⟩ = some v ∧ DR W (Lt W) (Lt W) c v := by
        intro i c hi
        have hlen' := flat_length hrow
        have hi' : i < (l.map cells).length * sz := by rw [← hlen']; exact (List.getElem?_eq_some_iff.1 hi).1
        have hq : i / sz < l.length := by
          have := Nat.div_lt_of_lt_mul (m := i) (n := sz) (k := (l.map cells).length) (by rw [Nat.mul_comm]; exact hi')
          simpa using this
        have hr : i % sz < sz := Nat.mod_lt _ h0
        have e : i / sz * sz + i % sz = i := by rw [Nat.mul_comm]; exact Nat.div_add_mod i sz
        have hf := flat_at (es := l.map cells) hrow (i := i / sz) (row := cells l[i / sz]) (by simp [hq]) hr
        rw [e] at hf
        obtain ⟨v, h1, h2⟩ := hcell _ hq _ hr
        rw [e] at h1
        exact ⟨v, h1, h2 c (by rw [← hf]; exact hi)⟩
      have hsl := DR.sl (w := W) (I := Lt W) (J := Lt W) true (l.map cells) b off cap (fun i => (W.cell? ⟨b, off + i, none⟩).getD undef) (fun _ => hlt) hlt (by simp; omega) (fun i c hi => by
        obtain ⟨v, h1, _⟩ := inv i c hi
        simp only [h1, Option.getD_some]) (fun i c hi => by
        obtain ⟨v, h1, h2⟩ := inv i c hi
        simp only [h1, Option.getD_some]; exact h2)
      have el : (l.map cells).length = len := by simp [hll]
      rw [el] at hsl
      exact drs_one hsl

theorem read_str {t : Nat} (ht : Tryd.prog.underlying t = some .string) {n : Nat} {cs : List Value} {x : DataW H × List MemPlace} (h : DataW.trod enc Tryd.prog W base sp held n t cs = some x) : ∃ s : ByteArray, fits s ∧ DRs W [.v (.string s)] cs := by
  obtain ⟨s, rfl, _, hs⟩ := DataW.trod_string ht h
  exact ⟨s, by simpa [fits, maxLen] using hs, drs_one (.v _)⟩
theorem read_int {t : Nat} {k : IntKind} (ht : Tryd.prog.underlying t = some (.int k)) {n : Nat} {cs : List Value} {x : DataW H × List MemPlace} (h : DataW.trod enc Tryd.prog W base sp held n t cs = some x) : ∃ z : Int, DRs W [.v (.int k z)] cs := by
  obtain ⟨z, rfl, _, _⟩ := DataW.trod_int ht h
  exact ⟨z, drs_one (.v _)⟩
theorem read_bool {t : Nat} (ht : Tryd.prog.underlying t = some .bool) {n : Nat} {cs : List Value} {x : DataW H × List MemPlace} (h : DataW.trod enc Tryd.prog W base sp held n t cs = some x) : ∃ z : Bool, DRs W [.v (.bool z)] cs := by
  obtain ⟨z, rfl, _⟩ := DataW.trod_bool ht h
  exact ⟨z, drs_one (.v _)⟩

/-- A part of the cells at a place. -/
theorem drs_cons {d : D} {ds : List D} {cs : List Value} (h1 : DRs W [d] (cs.take 1)) (h2 : DRs W ds (cs.drop 1)) (hl : cs.length = ds.length + 1) : DRs W (d :: ds) cs := by
  refine ⟨by simp [hl], fun i c v hc hv => ?_⟩
  cases i with
  | zero => exact h1.2 0 c v (by simpa using hc) (by simpa using hv)
  | succ i => exact h2.2 i c v (by simpa using hc) (by simpa [Nat.add_comm] using hv)

theorem read_strs {t : Nat} (ht : Tryd.prog.underlying t = some (.slice 9)) {n : Nat} {cs : List Value} {x : DataW H × List MemPlace} (h : DataW.trod enc Tryd.prog W base sp held n t cs = some x) : ∃ l : List ByteArray, (∀ s ∈ l, fits s) ∧ DRs W [.sl true (strRows l)] cs :=
  read_slice (cells := fun s => [.v (.string s)]) (Q := fits) ht (by kernel_rfl) (by decide) (fun _ => rfl) h fun m _ cs x hx => read_str Tryd.underlying9 hx
theorem read_T : ∀ (n : Nat) (cs : List Value) (x : DataW H × List MemPlace), DataW.trod enc Tryd.prog W base sp held n 26 cs = some x → ∃ t : T, t.fit ∧ DRs W t.cells cs := by
  intro n
  induction n using Nat.strongRecOn with
  | _ n ih =>
    intro cs x h
    obtain ⟨xs, m, rfl, _, hl, hxl, hf⟩ := DataW.trod_struct Tryd.underlying26 h
    have c : Tryd.prog.cellsOf 26 = 3 := by kernel_rfl
    rw [c] at hl
    have g : ∀ i, i < 3 → ∃ y, xs[i]? = some y := fun i hi => ⟨xs[i]'(by rw [hxl]; exact hi), List.getElem?_eq_getElem _⟩
    obtain ⟨y0, e0⟩ := g 0 (by omega)
    obtain ⟨y1, e1⟩ := g 1 (by omega)
    obtain ⟨y2, e2⟩ := g 2 (by omega)
    have f0 := hf 0 _ rfl
    have f1 := hf 1 _ rfl
    have f2 := hf 2 _ rfl
    rw [e0] at f0
    rw [e1] at f1
    rw [e2] at f2
    obtain ⟨z, hz⟩ := read_int Tryd.underlying22 f0
    obtain ⟨names, hn1, hn2⟩ := read_strs Tryd.underlying23 f1
    obtain ⟨list, hl1, hl2⟩ := read_slice (cells := T.cells) (Q := T.fit) Tryd.underlying24 c (by decide) T.cells_length f2 fun m' hm' cs x hx => ih m' (by omega) cs x hx
    refine ⟨.mk z names list, ⟨hn1, (T.fitL_iff list).2 hl1⟩, ?_⟩
    rw [← T.rows_eq] at hl2
    match cs, hl with
    | [c0, c1, c2], _ => exact drs_cons hz (drs_cons hn2 (drs_cons hl2 ⟨rfl, fun i c v hc => by simp at hc⟩ rfl) rfl) rfl
theorem read_V : ∀ (n : Nat) (cs : List Value) (x : DataW H × List MemPlace), DataW.trod enc Tryd.prog W base sp held n 41 cs = some x → ∃ t : V, t.fit ∧ DRs W t.cells cs := by
  intro n
  induction n using Nat.strongRecOn with
  | _ n ih =>
    intro cs x h
    obtain ⟨xs, m, rfl, _, hl, hxl, hf⟩ := DataW.trod_struct Tryd.underlying41 h
    have c : Tryd.prog.cellsOf 41 = 9 := by kernel_rfl
    rw [c] at hl
    have g : ∀ i, i < 7 → ∃ y, xs[i]? = some y := fun i hi => ⟨xs[i]'(by rw [hxl]; exact hi), List.getElem?_eq_getElem _⟩
    obtain ⟨y0, e0⟩ := g 0 (by omega)
    obtain ⟨y1, e1⟩ := g 1 (by omega)
    obtain ⟨y2, e2⟩ := g 2 (by omega)
    obtain ⟨y3, e3⟩ := g 3 (by omega)
    obtain ⟨y4, e4⟩ := g 4 (by omega)
    obtain ⟨y5, e5⟩ := g 5 (by omega)
    obtain ⟨y6, e6⟩ := g 6 (by omega)
    have f0 := hf 0 _ rfl
    have f1 := hf 1 _ rfl
    have f2 := hf 2 _ rfl
    have f3 := hf 3 _ rfl
    have f4 := hf 4 _ rfl
    have f5 := hf 5 _ rfl
    have f6 := hf 6 _ rfl
    rw [e0] at f0
    rw [e1] at f1
    rw [e2] at f2
    rw [e3] at f3
    rw [e4] at f4
    rw [e5] at f5
    rw [e6] at f6
    obtain ⟨kind, h0⟩ := read_int Tryd.underlying35 f0
    obtain ⟨flag, h1⟩ := read_bool Tryd.underlying4 f1
    obtain ⟨ys, m', rfl, _, hl', hxl', hf'⟩ := DataW.trod_struct Tryd.underlying37 f2
    have g' : ∀ i, i < 3 → ∃ y, ys[i]? = some y := fun i hi => ⟨ys[i]'(by rw [hxl']; exact hi), List.getElem?_eq_getElem _⟩
    obtain ⟨y0', e0'⟩ := g' 0 (by omega)
    obtain ⟨y1', e1'⟩ := g' 1 (by omega)
    obtain ⟨y2', e2'⟩ := g' 2 (by omega)
    have f0' := hf' 0 _ rfl
    have f1' := hf' 1 _ rfl
    have f2' := hf' 2 _ rfl
    rw [e0'] at f0'
    rw [e1'] at f1'
    rw [e2'] at f2'
    obtain ⟨neg, h0'⟩ := read_bool Tryd.underlying4 f0'
    obtain ⟨digits, hd, h1'⟩ := read_str Tryd.underlying9 f1'
    obtain ⟨exp, h2'⟩ := read_int Tryd.underlying3 f2'
    obtain ⟨bits, h3⟩ := read_int Tryd.underlying38 f3
    obtain ⟨text, ht, h4⟩ := read_str Tryd.underlying9 f4
    obtain ⟨names, hn1, h5⟩ := read_strs Tryd.underlying23 f5
    obtain ⟨list, hl1, h6⟩ := read_slice (cells := V.cells) (Q := V.fit) Tryd.underlying39 c (by decide) V.cells_length f6 fun m'' hm' cs x hx => ih m'' (by omega) cs x hx
    refine ⟨.mk kind flag neg digits exp bits text names list, ⟨hd, ht, hn1, (V.fitL_iff list).2 hl1⟩, ?_⟩
    rw [← V.rows_eq] at h6
    match cs, hl with
    | [c0, c1, c2, c3, c4, c5, c6, c7, c8], _ =>
      exact drs_cons h0 (drs_cons h1 (drs_cons h0' (drs_cons h1' (drs_cons h2' (drs_cons h3 (drs_cons h4 (drs_cons h5 (drs_cons h6 ⟨rfl, fun i c v hc => by simp at hc⟩ rfl) rfl) rfl) rfl) rfl) rfl) rfl) rfl) rfl
end
end Go.Proofs.YtdcpnpcmgfmenaaDoor
/-
  What the row's condition gives: the tables. Conditions: none.
-/
set_option linter.unusedVariables false
set_option maxRecDepth 100000
namespace Go.Proofs.YtdcpnpcmgfmenaaDoor
open Go Go.Proofs.YtdcpnpcmgfmenaaDoor.Lg Go.ChangeShapes Go.WideShapes Go.RowKit

def laidL : List (String × DataW Unit) := [("unicode/utf8.acceptRanges", Rows.laid_unicode_utf8_acceptRanges), ("calamus/types.kinds", Rows.laid_calamus_types_kinds), ("unicode/utf8.first", Rows.laid_unicode_utf8_first)]
theorem u8t : U8Types Tryd.prog Tryd.laysValid_ren := U8Types.of196 Tryd.laysValid
theorem u8x : U8Extra Tryd.prog Tryd.laysValid_ren := { n3 := by kernel_rfl, y3 := by kernel_rfl, n4 := by kernel_rfl, y4 := by kernel_rfl, c5 := by kernel_rfl, c119 := by kernel_rfl, c138 := by kernel_rfl }
theorem first_eq : Rows.laid_unicode_utf8_first = Lib.firstData := by kernel_rfl
theorem accept_eq : (Rows.laid_unicode_utf8_acceptRanges : DataW Unit) = Lib.acceptData := by kernel_rfl
theorem tabs_of_laid {W : World} (h : laidMetH Tryd.prog laidL W) : Lib.Utf8Tabs gFirst gAccept W := by
  rw [MakeChecks.laidMetH_plain _ _ _ (by kernel_rfl)] at h
  have h3 := Lib.laidMet.reads h (n := "unicode/utf8.first") (d := Rows.laid_unicode_utf8_first) (by simp [laidL])
  have h4 := Lib.laidMet.reads h (n := "unicode/utf8.acceptRanges") (d := Rows.laid_unicode_utf8_acceptRanges) (by simp [laidL])
  rw [first_eq] at h3
  rw [accept_eq] at h4
  exact utf8Tabs_of_readsT u8t u8x h3 h4
theorem kinds_of_laid {W : World} (h : laidMetH Tryd.prog laidL W) : ∀ (j : Nat) c, gl0[j]? = some c → ∃ v, c = .v v ∧ W.cell? ⟨0, j, none⟩ = some v := by
  rw [MakeChecks.laidMetH_plain _ _ _ (by kernel_rfl)] at h
  obtain ⟨g, t, cs, fuel, p, hg, ht, hv, hd⟩ := Lib.laidMet.reads h (n := "calamus/types.kinds") (d := Rows.laid_calamus_types_kinds) (by simp [laidL])
  obtain rfl := Option.some.inj ((show Tryd.prog.globalNamed "calamus/types.kinds" = some 0 by kernel_rfl).symm.trans hg)
  obtain rfl := Option.some.inj ((show (Tryd.prog.globals[0]?).map (·.type) = some 69 by kernel_rfl).symm.trans ht)
  have hcs := Lib.cells_of_tab (zs := [0, 0, 1, 2, 3, 3, 4, 5, 6]) (k := .i64) Tryd.underlying69 Tryd.underlying35 (by kernel_rfl) (by kernel_rfl) hd
  intro j c hj
  rw [World.var?_cell hg hv j, ← Array.getElem?_toList, hcs]
  match j, hj with
  | 0, hj | 1, hj | 2, hj | 3, hj | 4, hj | 5, hj | 6, hj | 7, hj | 8, hj => cases hj; exact ⟨_, rfl, rfl⟩
  | j + 9, hj => simp [gl0] at hj

/-- How a call of the law finds the world. -/
def g0 (W : World) : G := { ρ := fun _ => 0, κ := fun _ => 0, cap := fun _ => 0, vt := fun _ => false, I := Lt W, J := Lt W }
theorem cell_lt {W : World} {b o : Nat} {v : Value} (h : W.cell? ⟨b, o, none⟩ = some v) : b < W.heap.size := by
  unfold World.cell? at h
  split at h
  · rename_i hh; exact (Array.getElem?_eq_some_iff.1 hh).1
  · cases h
theorem gl_cells {W : World} {i : Nat} {cs : List D} (h0 : 0 < cs.length) (h : ∀ (j : Nat) c, cs[j]? = some c → ∃ v, c = .v v ∧ W.cell? ⟨i, j, none⟩ = some v) :
    Lt W i ∧ ∃ f : Nat → Value, (∀ (j : Nat) c, cs[j]? = some c → W.cell? ⟨i, j, none⟩ = some (f j)) ∧ ∀ (j : Nat) c, cs[j]? = some c → DR W (Lt W) (Lt W) c (f j) := by
  refine ⟨?_, fun j => (W.cell? ⟨i, j, none⟩).getD undef, fun j c hc => ?_, fun j c hc => ?_⟩
  · obtain ⟨v, _, hv⟩ := h 0 _ (List.getElem?_eq_getElem h0)
    exact cell_lt hv
  · obtain ⟨v, _, hv⟩ := h j c hc
    simp only [hv, Option.getD_some]
  · obtain ⟨v, rfl, hv⟩ := h j c hc
    simp only [hv, Option.getD_some]
    exact .v _
theorem start_hr {W : World} (h : laidMetH Tryd.prog laidL W) : HRel env W (g0 W) 0 (fun _ => .dead) := by
  refine ⟨fun _ h => by omega, fun _ _ => rfl, fun _ _ h => by omega, fun _ h => h, fun _ h => h, fun b _ ⟨l, hl, _⟩ => by omega, fun i cs hcs => ?_⟩
  have hT := tabs_of_laid h
  have hcs : glT i = some cs := hcs
  unfold glT at hcs
  split at hcs
  · injection hcs with hcs; subst hcs
    exact gl_cells (by decide) (kinds_of_laid h)
  · injection hcs with hcs; subst hcs
    refine gl_cells (by simp [gl1]) fun j c hj => ?_
    simp only [gl1, List.getElem?_map, Option.map_eq_some_iff] at hj
    obtain ⟨a, ha, rfl⟩ := hj
    obtain ⟨hlt, hra⟩ := List.getElem?_eq_some_iff.1 ha
    simp at hlt hra
    subst hra
    exact ⟨_, rfl, hT.1 j hlt⟩
  · injection hcs with hcs; subst hcs
    refine gl_cells (by decide) fun j c hj => ?_
    have hj32 : j < 32 := by have := (List.getElem?_eq_some_iff.1 hj).1; simpa [gl2] using this
    have key : ∀ i, i < 16 → gl2[2 * i]? = some (.v (.int .u8 (Lib.accLo i))) ∧ gl2[2 * i + 1]? = some (.v (.int .u8 (Lib.accHi i))) := by
      intro i hi
      match i, hi with
      | 0, _ | 1, _ | 2, _ | 3, _ | 4, _ | 5, _ | 6, _ | 7, _ | 8, _ | 9, _ | 10, _ | 11, _ | 12, _ | 13, _ | 14, _ | 15, _ => exact ⟨rfl, rfl⟩
      | i + 16, h => omega
    have ht := hT.2 (j / 2) (by omega)
    have hk := key (j / 2) (by omega)
    rcases Nat.mod_two_eq_zero_or_one j with e | e
    · have : j = 2 * (j / 2) := by omega
      rw [this] at hj ⊢
      rw [hk.1] at hj
      cases hj
      exact ⟨_, rfl, ht.1⟩
    · have : j = 2 * (j / 2) + 1 := by omega
      rw [this] at hj ⊢
      rw [hk.2] at hj
      cases hj
      exact ⟨_, rfl, ht.2⟩
  · cases hcs

theorem own0 : ownKnob Tryd.prog.godebug = none := by kernel_rfl
theorem laidOut0 : laidOutB Tryd.prog = true := by kernel_rfl
theorem vr_of {W : World} {ds : List D} {xs : Array Value} (h : DRs W ds xs.toList) : VR W (g0 W) 0 (.d (.agg ds)) (.agg xs) :=
  .d _ _ (.agg _ _ (by simpa using h.1) fun i c x hc hx => h.2 i c x hc (by simpa using hx))
end Go.Proofs.YtdcpnpcmgfmenaaDoor
/-
  The law TypesOrders of the given program: for every input that the row speaks of the call returns true, and each argument reads afterwards as it read before. Conditions: the row's own (the listed variables read as the program's text lays them).
-/
set_option linter.unusedVariables false
set_option maxRecDepth 100000
namespace Go.Proofs.YtdcpnpcmgfmenaaDoor
open Go Go.Proofs.YtdcpnpcmgfmenaaDoor.Lg Go.ChangeShapes Go.WideShapes Go.ChangeAt Go.RowKit

theorem typesOrders_lifted (os : Os) (started : os.Started) (H : Type) (enc : TypeId × Value → H) :
    ReturnsInHanded {} Tryd.checked os 3 .any (fun w args => (Rows.typesOrdersSpec.pre enc Tryd.prog Tryd.f3 [] false w args ∧ laidMetH Tryd.prog laidL w) ∧ sizedMet enc Tryd.prog Tryd.f3 (OpenSpec.ofChange Rows.typesOrdersSpec) false w args)
      (Rows.typesOrdersSpec.post enc Tryd.prog Tryd.f3 false true false false) := by
  refine returnsInHanded_of_change_and (C := Tryd.checked) (X := fun w _ => laidMetH Tryd.prog laidL w) (fun _ _ _ hh h => h.of_heap hh) own0 started (by kernel_rfl) Tryd.func3
    (ChangeSpec.witness_shaped (enc := enc) (C := Tryd.checked) (os := os) (X := fun w _ => laidMetH Tryd.prog laidL w) false (World.laidAll Tryd.prog os laidL) #[.agg #[.int .i64 0, .slice none 0 0, .slice none 0 0], .agg #[.int .i64 0, .slice none 0 0, .slice none 0 0]] 8 (World.laidAll_os _ _ _)
      (World.shaped_of_ZipB (by kernel_rfl) (by kernel_rfl)) (by kernel_rfl) (by kernel_rfl) (by kernel_rfl)
      (by rw [MakeChecks.laidMetH_plain _ _ _ (by kernel_rfl)]; exact laidMet_laidAll _ (by kernel_rfl) (by kernel_rfl))) ?_
  intro W base args ds gs before hval0 hW hc hsz0 hL _
  have hval : ∀ (j : Nat) t v, Tryd.f3.params[j]? = some t → args[j]? = some v → Value.okWide Tryd.prog W .any base t v := hval0
  have hW' := hW
  obtain ⟨p, q, hA0, hV, rfl, hfz, hnd⟩ := hW
  have hA : DataW.TrodAll enc Tryd.prog W 0 (fun _ => true) true Tryd.f3.params.toList args.toList ds p := hA0
  rw [Tryd.params3] at hA hval
  obtain ⟨v0, vs0, d0, ds0, p0, q0, hargs, rfl, rfl, h0, r0⟩ := trodAll_cons hA
  obtain ⟨v1, vs1, d1, ds1, p1, q1, rfl, rfl, rfl, h1, r1⟩ := trodAll_cons r0
  obtain ⟨rfl, rfl, rfl⟩ := trodAll_nil r1
  obtain rfl : args = #[v0, v1] := by cases args; simp_all
  obtain ⟨rfl, rfl⟩ := trodVars_none hV
  have lt0 : ∀ x ∈ p0, x.block < W.heap.size := by obtain ⟨m, hm⟩ := h0; exact DataW.trod_lt m _ _ _ hm
  have k0 := h0
  obtain ⟨x0, rfl, _⟩ := okWide_struct Tryd.underlying26 (hval 0 26 v0 rfl rfl)
  obtain ⟨t0, f0, c0⟩ := read_T _ _ _ (Classical.choose_spec h0)
  have c0 := vr_of c0
  have lt1 : ∀ x ∈ p1, x.block < W.heap.size := by obtain ⟨m, hm⟩ := h1; exact DataW.trod_lt m _ _ _ hm
  have k1 := h1
  obtain ⟨x1, rfl, _⟩ := okWide_struct Tryd.underlying26 (hval 1 26 v1 rfl rfl)
  obtain ⟨t1, f1, c1⟩ := read_T _ _ _ (Classical.choose_spec h1)
  have c1 := vr_of c1
  clear hA0 hval0 hsz0
  refine ((TypesOrders_pure t0 t1 f0 f1).2 W (g0 W) #[.agg x0, .agg x1] (start_hr hL) rfl (fun i c x hc hx => ?_)).mono ?_
  · match i, hc, hx with
    | 0, hc, hx => cases hc; cases hx; exact c0
    | 1, hc, hx => cases hc; cases hx; exact c1
    | i + 2, hc, hx => simp at hc
  rintro e W' ⟨v, rfl, hv, bel⟩
  obtain rfl := vr_val hv
  exact ⟨_, rfl, _, _, _, [], _, [], hW', trodAll_mk1 (shut_bool Tryd.underlying4 _), (trodAll_cons_mk (Below.trod laidOut0 (by kernel_rfl) (of_decide_eq_true (by kernel_rfl)) k0 bel lt0) (trodAll_cons_mk (Below.trod laidOut0 (by kernel_rfl) (of_decide_eq_true (by kernel_rfl)) k1 bel lt1) trodAll_mk0)), rfl, bel.frame _, fun h => by cases h⟩

theorem typesOrders_row : Rows.TypesOrdersSaid :=
  OpenClaim.holds_of_wide 3 Tryd.f3 rfl rfl rfl rfl rfl rfl rfl ⟨rfl, rfl, rfl, rfl, rfl⟩ rfl rfl rfl rfl rfl (by kernel_rfl) Tryd.func3 (by kernel_rfl)
    (of_decide_eq_true (by kernel_rfl)) (by unfold Func.isWrapper; first | (rw [if_pos (by decide +kernel)]; kernel_rfl) | (rw [if_neg (by decide +kernel)]; exact ⟨rfl, rfl⟩))
    (fun os started H enc _ => typesOrders_lifted os started H enc)
theorem typesOrders_holds : Rows.TypesOrdersCardSaid :=
  Claim7.holds_tied_plain_at .later [] [.data, .data, .pinned] true Rows.typesOrdersCard.stood.harness false typesOrders_row (fun _ h => by cases h) (by kernel_rfl) (fun _ h => by cases h) typesOrders_row_tie rfl ⟨rfl, rfl⟩ (by kernel_rfl) rfl
    (fun f fn hf hfn => by
      obtain rfl : f = 3 := Option.some.inj ((show Tryd.prog.funcNamed "calamus/calamuslaw11.TypesOrders" = some 3 by kernel_rfl).symm.trans hf) |>.symm
      obtain rfl : fn = Tryd.f3 := (Option.some.inj (Tryd.func3.symm.trans hfn)).symm
      exact ⟨by kernel_rfl, fun j t ht => by
        rw [Tryd.params3] at ht
        have hm : t ∈ [26] := by have := Array.mem_of_getElem? ht; simp at this ⊢; omega
        have hall : ([26].all fun u => !Tryd.prog.wantsStandIn u) = true := by kernel_rfl
        exact (show Tryd.prog.wantsStandIn t = false by simpa using List.all_eq_true.1 hall t hm)⟩)
    (by kernel_rfl)
#print axioms typesOrders_holds
end Go.Proofs.YtdcpnpcmgfmenaaDoor
