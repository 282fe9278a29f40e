/-
  Walks: the least type that two are part of. Conditions: none.
-/
import Derived.Test.YtdcpnpcmgfmenaaDoorHe
set_option linter.unusedVariables false
set_option maxRecDepth 100000
namespace Go.Proofs.YtdcpnpcmgfmenaaDoor
open Go Go.Proofs.YtdcpnpcmgfmenaaDoor.Lg

def T.every : T := .mk 1 [] []
def T.joinL (pl : List (ByteArray × Nat)) : List ByteArray → List T → List ByteArray → List T → Option (List ByteArray × List T)
  | n :: ns, y :: ys, nm, ls => match pget pl n with
    | none => T.joinL pl ns ys (nm ++ [n]) (ls ++ [y])
    | some k => if y.sub (ls.getD k .every) = true then T.joinL pl ns ys nm ls else if (ls.getD k .every).sub y = true then T.joinL pl ns ys nm (ls.set k y) else none
  | _, _, nm, ls => some (nm, ls)
def T.joinFin : Option (List ByteArray × List T) → T
  | none => .every
  | some (nm, ls) => if ((T.mk 11 nm ls).check != 0) = true then .every else .mk 11 nm ls
def T.join (a b : T) : T :=
  if a.sub b = true then b else if b.sub a = true then a else if (a.kind != 11 || b.kind != 11) = true then .every
  else T.joinFin (T.joinL (placesOf a.names) b.names b.list a.names a.list)

theorem na_row {E : Env} {σ : St} {l k e sz n : Nat} {rows : List (List D)} (hl : σ.h l = .arr k e sz (rows.map (·.map .d))) (hn : n = rows.length) : NA E σ (.own l k sz 0 n) (.d (.sl false rows)) := by
  have := na_own (E := E) (σ := σ) (off := 0) (n := n) hl (by omega)
  rw [List.drop_zero, hn, List.take_length] at this
  rw [hn]; exact this
theorem ra_dagg {E : Env} {σ : St} {cs ds : List D} (h : RAs E σ (cs.map .d) (ds.map .d)) : RA E σ (.d (.agg cs)) (.d (.agg ds)) := fun B g w a hB hr y hy => by
  obtain ⟨h1, h2⟩ := ras_get h
  have hy := vr_data hy
  cases hy with
  | agg _ xs g1 g2 =>
    refine .d _ _ (.agg _ _ (by simp at h1; omega) fun i d x hd hx => ?_)
    have hi : i < cs.length := by simp at h1; rw [h1]; exact (List.getElem?_eq_some_iff.1 hd).1
    exact vr_data (h2 i (.d cs[i]) (.d d) (by simp [hi]) (by simp [hd]) B g w a hB hr x (.d _ _ (g2 i _ x (List.getElem?_eq_getElem hi) hx)))
theorem at_pe {h : Nat → AO} {l k e sz i : Nat} {es : List (List AV)} {row : List AV} (hl : h l = .arr k e sz es) (hr : es[i]? = some row) : at_ h (.pe l k sz i 0) = some row := by simp [at_, hl, hr]
theorem T.rows_at {l : List T} {k : Nat} {kind : Int} {names : List ByteArray} {list : List T} (h : l[k]? = some (.mk kind names list)) : ((T.rows l).map (·.map AV.d))[k]? = some [.d (.v (.int .i64 kind)), .d (.sl true (strRows names)), .d (.sl true (T.rows list))] := by
  simp [T.rows_eq, h, T.cells]
theorem T.rows_set (l : List T) (k : Nat) (y : T) : ((T.rows l).map (·.map AV.d)).set k (y.cells.map .d) = (T.rows (l.set k y)).map (·.map .d) := by
  simp [T.rows_eq, List.map_set]

structure JInv (n i : Nat) (nm : List ByteArray) (ls : List T) : Prop where
  lo : n ≤ ls.length
  hi : ls.length ≤ 1000 + i
  hn : nm.length ≤ 1000 + i
  fn : ∀ x ∈ nm, fits x
  ff : ∀ x ∈ ls, x.fit
  fo : ∀ x ∈ ls, x.formed = true
theorem JInv.add {n i : Nat} {nm : List ByteArray} {ls : List T} (h : JInv n i nm ls) {s : ByteArray} {y : T} (hs : fits s) (hf : y.fit) (ho : y.formed = true) : JInv n (i + 1) (nm ++ [s]) (ls ++ [y]) :=
  ⟨by have := h.lo; simp; omega, by have := h.hi; simp; omega, by have := h.hn; simp; omega, by intro x hx; simp at hx; rcases hx with hx | rfl; exact h.fn x hx; exact hs,
    by intro x hx; simp at hx; rcases hx with hx | rfl; exact h.ff x hx; exact hf, by intro x hx; simp at hx; rcases hx with hx | rfl; exact h.fo x hx; exact ho⟩
theorem JInv.set {n i k : Nat} {nm : List ByteArray} {ls : List T} (h : JInv n i nm ls) {y : T} (hf : y.fit) (ho : y.formed = true) : JInv n (i + 1) nm (ls.set k y) :=
  ⟨by have := h.lo; simp; omega, by have := h.hi; simp; omega, by have := h.hn; omega, h.fn, by intro x hx; rcases List.mem_or_eq_of_mem_set hx with hx | rfl; exact h.ff x hx; exact hf,
    by intro x hx; rcases List.mem_or_eq_of_mem_set hx with hx | rfl; exact h.fo x hx; exact ho⟩
theorem JInv.up {n i : Nat} {nm : List ByteArray} {ls : List T} (h : JInv n i nm ls) : JInv n (i + 1) nm ls := ⟨h.lo, by have := h.hi; omega, by have := h.hn; omega, h.fn, h.ff, h.fo⟩

structure JI where
  i : Nat
  nm : List ByteArray
  ls : List T
  v1 : Nat
  v2 : Nat

theorem join_pure (a b : T) (ha : a.formed = true) (hb : b.formed = true) (hfa : a.fit) (hfb : b.fit) (hsa : a.slim) (hsb : b.slim) : Pure env 24 [.d (a.df true), .d (b.df true)] (.d ((a.join b).df true)) := by
  have hsub := sub_pure a b ha hb true true
  have hsub' := sub_pure b a hb ha true true
  have hS : a.join b = if a.sub b = true then b else if b.sub a = true then a else if (a.kind != 11 || b.kind != 11) = true then .every
    else T.joinFin (T.joinL (placesOf a.names) b.names b.list a.names a.list) := rfl
  generalize a.sub b = r1 at *
  generalize b.sub a = r2 at *
  generalize a.join b = R at *
  obtain ⟨ka, na, la⟩ := a
  obtain ⟨kb, nb, lb⟩ := b
  have ia := T.inv ha
  have ib := T.inv hb
  obtain ⟨hsa1, hsa2, hsa3⟩ := hsa
  obtain ⟨hsb1, hsb2, hsb3⟩ := hsb
  have hS : R = if r1 = true then .mk kb nb lb else if r2 = true then .mk ka na la else if (ka != 11 || kb != 11) = true then .every else T.joinFin (T.joinL (placesOf na) nb lb na la) := hS
  refine pure_of_body Tryd.func24 rfl rfl rfl fun B hB => ?_
  refine swp_seq ?_
  refine swp_region ?_
  refine sops_go rfl (so_box (cs := [_, _, _]) rfl rfl rfl ?_)
  refine sops_go rfl (so_box (cs := [_, _, _]) rfl rfl rfl ?_)
  refine sops_go rfl (so_alloc (cs := [_, _, _]) rfl rfl rfl rfl ?_)
  refine sops_nil ?_
  refine swp_seq ?_
  refine swp_region ?_
  first | refine sops_go rfl (so_build (v := .d (.agg [_, _, _])) rfl rfl rfl rfl rfl rfl rfl ?_) | refine sops_go rfl (so_build (v := .agg [_, _, _]) rfl rfl rfl rfl rfl rfl rfl ?_)
  refine sops_go rfl (so_alloc (cs := [_, _, _]) rfl rfl rfl rfl ?_)
  refine sops_go rfl (so_store rfl rfl rfl rfl rfl rfl rfl rfl rfl (zs := [_, _, _]) rfl ?_)
  refine sops_nil ?_
  refine swp_seq ?_
  refine swp_block ?_
  refine swp_seq ?_
  refine swp_region ?_
  first | refine sops_go rfl (so_load (v := .d (.agg [_, _, _])) rfl rfl rfl rfl rfl rfl rfl rfl ?_) | refine sops_go rfl (so_load (v := .agg [_, _, _]) rfl rfl rfl rfl rfl rfl rfl rfl ?_)
  first | refine sops_go rfl (so_load (v := .d (.agg [_, _, _])) rfl rfl rfl rfl rfl rfl rfl rfl ?_) | refine sops_go rfl (so_load (v := .agg [_, _, _]) rfl rfl rfl rfl rfl rfl rfl rfl ?_)
  refine sops_go rfl (st_call rfl rfl (hsub) ⟨na_d _, na_d _, trivial⟩ rfl ?_)
  refine sops_go rfl (st_assign (v := .d _) rfl rfl rfl ?_)
  refine sops_nil ?_
  refine swp_cond _ rfl (fun hc13 => ?_) (fun hc13 => ?_)
  · rw [if_pos hc13] at hS
    refine swp_seq ?_
    refine swp_region ?_
    first | refine sops_go rfl (so_load (v := .d (.agg [_, _, _])) rfl rfl rfl rfl rfl rfl rfl rfl ?_) | refine sops_go rfl (so_load (v := .agg [_, _, _]) rfl rfl rfl rfl rfl rfl rfl rfl ?_)
    refine sops_go rfl (so_store rfl rfl rfl rfl rfl rfl rfl rfl rfl (zs := [_, _, _]) rfl ?_)
    refine sops_nil ?_
    refine swp_ret ?_
    with_reducible refine inblk_ret ?_
    with_reducible refine after_ret ?_
    exact fin_c rfl (rc_of rfl rfl rfl rfl rfl (by rw [hS]; exact ra_d (T.keepsD (.mk kb nb lb))))
  · rw [if_neg (by rw [hc13]; simp)] at hS
    refine swp_seq ?_
    refine swp_region ?_
    first | refine sops_go rfl (so_load (v := .d (.agg [_, _, _])) rfl rfl rfl rfl rfl rfl rfl rfl ?_) | refine sops_go rfl (so_load (v := .agg [_, _, _]) rfl rfl rfl rfl rfl rfl rfl rfl ?_)
    first | refine sops_go rfl (so_load (v := .d (.agg [_, _, _])) rfl rfl rfl rfl rfl rfl rfl rfl ?_) | refine sops_go rfl (so_load (v := .agg [_, _, _]) rfl rfl rfl rfl rfl rfl rfl rfl ?_)
    refine sops_go rfl (st_call rfl rfl (hsub') ⟨na_d _, na_d _, trivial⟩ rfl ?_)
    refine sops_go rfl (st_assign (v := .d _) rfl rfl rfl ?_)
    refine sops_nil ?_
    refine swp_cond _ rfl (fun hc18 => ?_) (fun hc18 => ?_)
    · rw [if_pos hc18] at hS
      refine swp_seq ?_
      refine swp_region ?_
      first | refine sops_go rfl (so_load (v := .d (.agg [_, _, _])) rfl rfl rfl rfl rfl rfl rfl rfl ?_) | refine sops_go rfl (so_load (v := .agg [_, _, _]) rfl rfl rfl rfl rfl rfl rfl rfl ?_)
      refine sops_go rfl (so_store rfl rfl rfl rfl rfl rfl rfl rfl rfl (zs := [_, _, _]) rfl ?_)
      refine sops_nil ?_
      refine swp_ret ?_
      with_reducible refine inblk_ret ?_
      with_reducible refine after_ret ?_
      exact fin_c rfl (rc_of rfl rfl rfl rfl rfl (by rw [hS]; exact ra_d (T.keepsD (.mk ka na la))))
    · rw [if_neg (by rw [hc18]; simp)] at hS
      refine swp_seq ?_
      refine swp_region ?_
      first | refine sops_go rfl (so_fieldAddr (v := .p _ _ _) rfl rfl rfl rfl rfl rfl rfl rfl rfl rfl ?_) | refine sops_go rfl (so_fieldAddr (v := .dp _ _) rfl rfl rfl rfl rfl rfl rfl rfl rfl rfl ?_) | refine sops_go rfl (so_fieldAddr (v := .pe _ _ _ _ _) rfl rfl rfl rfl rfl rfl rfl rfl rfl rfl ?_)
      refine sops_go rfl (so_load (v := .d _) rfl rfl rfl rfl rfl rfl rfl rfl ?_)
      refine sops_go rfl (st_bin rfl rfl rfl rfl rfl ?_)
      refine sops_go rfl (st_move (v := .d _) rfl rfl rfl ?_)
      refine' sops_or (d := 27) (p := 31) [28, 29, 30] 4 rfl rfl rfl (fun hb27 => ?a27) (fun hb27 => ?b27) ?_
      case a27 =>
        first | refine sops_yes rfl rfl rfl rfl (so_fieldAddr (v := .p _ _ _) rfl rfl rfl rfl rfl rfl rfl rfl rfl rfl ?_) | refine sops_yes rfl rfl rfl rfl (so_fieldAddr (v := .dp _ _) rfl rfl rfl rfl rfl rfl rfl rfl rfl rfl ?_) | refine sops_yes rfl rfl rfl rfl (so_fieldAddr (v := .pe _ _ _ _ _) rfl rfl rfl rfl rfl rfl rfl rfl rfl rfl ?_)
        refine sops_yes rfl rfl rfl rfl (so_load (v := .d _) rfl rfl rfl rfl rfl rfl rfl rfl ?_)
        refine sops_yes rfl rfl rfl rfl (st_bin rfl rfl rfl rfl rfl ?_)
        refine sops_go rfl (st_pick (v := .d _) rfl rfl rfl rfl ?_)
        refine sops_nil ?_
        exact ⟨rfl, rfl, rfl, rfl, [_, _, _], rfl, rfl⟩
      case b27 =>
        refine sops_no rfl rfl rfl rfl rfl ?_
        refine sops_no rfl rfl rfl rfl rfl ?_
        refine sops_no rfl rfl rfl rfl rfl ?_
        refine sops_go rfl (st_pick (v := .d _) rfl rfl rfl rfl ?_)
        refine sops_nil ?_
        exact ⟨rfl, rfl, rfl, rfl, [_, _, _], rfl, rfl⟩
      refine sops_go rfl (st_assign (v := .d _) rfl rfl rfl ?_)
      refine sops_nil ?_
      refine swp_cond _ rfl (fun hc23 => ?_) (fun hc23 => ?_)
      · rw [if_pos (show (ka != 11 || kb != 11) = true from hc23)] at hS
        refine swp_seq ?_
        refine swp_region ?_
        first | refine sops_go rfl (so_load (v := .d (.agg [_, _, _])) rfl rfl rfl rfl rfl rfl rfl rfl ?_) | refine sops_go rfl (so_load (v := .agg [_, _, _]) rfl rfl rfl rfl rfl rfl rfl rfl ?_)
        refine sops_go rfl (so_store rfl rfl rfl rfl rfl rfl rfl rfl rfl (zs := [_, _, _]) rfl ?_)
        refine sops_nil ?_
        refine swp_ret ?_
        with_reducible refine inblk_ret ?_
        with_reducible refine after_ret ?_
        exact fin_c rfl (rc_of rfl rfl rfl rfl rfl (by rw [hS]; exact ra_dagg ⟨ra_d (keeps_v _), ra_nil, ra_nil, trivial⟩))
      · rw [if_neg (by rw [show (ka != 11 || kb != 11) = false from hc23]; simp)] at hS
        have e23 := Bool.or_eq_false_iff.1 hc23
        have hka : ka = 11 := by simpa using e23.1
        have hkb : kb = 11 := by simpa using e23.2
        have hla := ia.same (.inr hka)
        have hlb := ib.same (.inr hkb)
        refine swp_skip ?_
        refine swp_seq ?_
        refine swp_regionS 8 7 6 (by kernel_rfl) rfl rfl rfl rfl rfl rfl rfl rfl (Env.zer env (i := ti26) rfl) rfl ?_
        first | refine hd_go 0 rfl rfl rfl (so_fieldAddr (v := .p _ _ _) rfl rfl rfl rfl rfl rfl rfl rfl rfl rfl ⟨_, rfl, ?_⟩) | refine hd_go 0 rfl rfl rfl (so_fieldAddr (v := .dp _ _) rfl rfl rfl rfl rfl rfl rfl rfl rfl rfl ⟨_, rfl, ?_⟩) | refine hd_go 0 rfl rfl rfl (so_fieldAddr (v := .pe _ _ _ _ _) rfl rfl rfl rfl rfl rfl rfl rfl rfl rfl ⟨_, rfl, ?_⟩)
        first | refine hd_go 0 rfl rfl rfl (so_load (v := .d _) rfl rfl rfl rfl rfl rfl rfl rfl ⟨_, rfl, ?_⟩) | refine hd_go 0 rfl rfl rfl (so_load (v := .own _ _ _ _ _) rfl rfl rfl rfl rfl rfl rfl rfl ⟨_, rfl, ?_⟩)
        refine hd_new rfl rfl rfl (st_callO rfl rfl (cloneS_pure true na (by omega)) ⟨na_d _, trivial⟩ rfl ⟨_, _, rfl, ?_⟩)
        first | refine hd_go 0 rfl rfl rfl (so_fieldAddr (v := .p _ _ _) rfl rfl rfl rfl rfl rfl rfl rfl rfl rfl ⟨_, rfl, ?_⟩) | refine hd_go 0 rfl rfl rfl (so_fieldAddr (v := .dp _ _) rfl rfl rfl rfl rfl rfl rfl rfl rfl rfl ⟨_, rfl, ?_⟩) | refine hd_go 0 rfl rfl rfl (so_fieldAddr (v := .pe _ _ _ _ _) rfl rfl rfl rfl rfl rfl rfl rfl rfl rfl ⟨_, rfl, ?_⟩)
        first | refine hd_go 0 rfl rfl rfl (so_load (v := .d _) rfl rfl rfl rfl rfl rfl rfl rfl ⟨_, rfl, ?_⟩) | refine hd_go 0 rfl rfl rfl (so_load (v := .own _ _ _ _ _) rfl rfl rfl rfl rfl rfl rfl rfl ⟨_, rfl, ?_⟩)
        refine hd_new rfl rfl rfl (st_callO rfl rfl (cloneT_pure true la (by omega)) ⟨na_d _, trivial⟩ rfl ⟨_, _, rfl, ?_⟩)
        first | refine hd_go 2 rfl rfl rfl (so_build (v := .d (.agg [_, _, _])) rfl rfl rfl rfl rfl rfl rfl ⟨_, rfl, ?_⟩) | refine hd_go 2 rfl rfl rfl (so_build (v := .agg [_, _, _]) rfl rfl rfl rfl rfl rfl rfl ⟨_, rfl, ?_⟩)
        refine hd_side 0 rfl rfl rfl (Env.zer env (i := ti26) rfl) rfl rfl ?_
        refine hd_nil ?_
        refine sops_go rfl (so_store rfl rfl rfl rfl rfl rfl rfl rfl rfl (zs := [_, _, _]) rfl ?_)
        refine sops_nil ?_
        refine swp_seq ?_
        refine swp_region ?_
        first | refine sops_go rfl (so_fieldAddr (v := .p _ _ _) rfl rfl rfl rfl rfl rfl rfl rfl rfl rfl ?_) | refine sops_go rfl (so_fieldAddr (v := .dp _ _) rfl rfl rfl rfl rfl rfl rfl rfl rfl rfl ?_) | refine sops_go rfl (so_fieldAddr (v := .pe _ _ _ _ _) rfl rfl rfl rfl rfl rfl rfl rfl rfl rfl ?_)
        first | refine sops_go rfl (so_load (v := .d _) rfl rfl rfl rfl rfl rfl rfl rfl ?_) | refine sops_go rfl (so_load (v := .own _ _ _ _ _) rfl rfl rfl rfl rfl rfl rfl rfl ?_)
        refine sops_go rfl (st_call rfl rfl (places_pure true na) ⟨na_d _, trivial⟩ rfl ?_)
        first | refine sops_go rfl (st_assign (v := .map _) rfl rfl rfl ?_) | refine sops_go rfl (st_assign (v := .d _) rfl rfl rfl ?_)
        refine sops_nil ?_
        refine swp_seq ?_
        refine swp_seq ?_
        refine swp_region ?_
        first | refine sops_go rfl (so_fieldAddr (v := .p _ _ _) rfl rfl rfl rfl rfl rfl rfl rfl rfl rfl ?_) | refine sops_go rfl (so_fieldAddr (v := .dp _ _) rfl rfl rfl rfl rfl rfl rfl rfl rfl rfl ?_) | refine sops_go rfl (so_fieldAddr (v := .pe _ _ _ _ _) rfl rfl rfl rfl rfl rfl rfl rfl rfl rfl ?_)
        first | refine sops_go rfl (so_load (v := .d _) rfl rfl rfl rfl rfl rfl rfl rfl ?_) | refine sops_go rfl (so_load (v := .own _ _ _ _ _) rfl rfl rfl rfl rfl rfl rfl rfl ?_)
        refine sops_go rfl (so_lenSl rfl rfl rfl rfl rfl ?_)
        refine sops_go rfl (st_move (v := .d _) rfl rfl rfl ?_)
        refine sops_nil ?_
        refine swp_block ?_
        refine swp_loopF (F := fun j : JI => { t := upd (upd (upd (upd (upd (upd (upd (upd (fun _ => .any) 3 (.p 1 0 0)) 4 (.p 2 0 0)) 5 (.p 3 0 0)) 6 (.p 6 0 0)) 7 (.d (.map (encM (placesOf na))))) 44 (.d (.sl true (strRows nb)))) 45 (.d (.v (.int .i64 nb.length)))) 46 (.d (.v (.int .i64 j.i))), n := 116, h := upd (upd (upd (upd (upd (upd (fun _ => .dead) 1 (.cells [.any, .any, .d (.sl true (T.rows lb))])) 2 (.cells [.any, .any, .any])) 3 (.cells [.d (.v (.int .i64 1)), .d (.v (.slice none 0 0)), .d (.v (.slice none 0 0))])) 4 (.arr j.v1 9 1 ((strRows j.nm).map (·.map .d)))) 5 (.arr j.v2 26 3 ((T.rows j.ls).map (·.map .d)))) 6 (.cells [.d (.v (.int .i64 11)), .own 4 j.v1 1 0 (strRows j.nm).length, .own 5 j.v2 3 0 (T.rows j.ls).length]), nx := 7 })
          (fun j => j.i ≤ nb.length ∧ JInv la.length j.i j.nm j.ls ∧ R = T.joinFin (T.joinL (placesOf na) (nb.drop j.i) (lb.drop j.i) j.nm j.ls)) (fun j => nb.length - j.i) ⟨0, na, la, 0, 0⟩ ⟨Nat.zero_le _, ⟨Nat.le_refl _, by show la.length ≤ _; omega, by show na.length ≤ _; omega, hfa.1, (T.fitL_iff la).1 hfa.2, ia.all⟩, hS⟩ ?_ ?_
        · refine wk_of rfl (Nat.le_of_ble_eq_true rfl) (by rw [hB]; exact Nat.zero_le _) (tle_upd (le_eq rfl rfl) (tle_upd (le_eq (int_eq (by rw [strRows_len])) rfl) (tle_upd (le_eq rfl rfl) (tle_upd (le_eq rfl rfl) (tle_upd (le_eq rfl rfl) (tle_upd (le_eq rfl rfl) (tle_upd (le_eq rfl rfl) (tle_upd (le_eq rfl rfl) (tle_any _))))))))) (hle_upd (.cells _ _ ⟨le_eq rfl rfl, le_eq rfl rfl, le_eq rfl rfl, trivial⟩) (hle_upd (.arr _ _ _ _ _ (rfl) (rows_bnd _ _)) (hle_upd (.arr _ _ _ _ _ (rfl) (rows_bnd _ _)) (hle_upd (.cells _ _ ⟨le_eq rfl rfl, le_eq rfl rfl, le_eq rfl rfl, trivial⟩) (hle_upd (.cells _ _ ⟨le_any _, le_any _, le_any _, trivial⟩) (hle_upd (.cells _ _ ⟨le_any _, le_any _, le_eq rfl rfl, trivial⟩) (hle_dead _))))))) (dead_upd (Nat.le_of_ble_eq_true rfl) (dead_upd (Nat.le_of_ble_eq_true rfl) (dead_upd (Nat.le_of_ble_eq_true rfl) (dead_upd (Nat.le_of_ble_eq_true rfl) (dead_upd (Nat.le_of_ble_eq_true rfl) (dead_upd (Nat.le_of_ble_eq_true rfl) (dead_none)))))))
        rintro ⟨i, nm, ls, v1, v2⟩ ⟨hi, hj, hS⟩
        dsimp only
        have hi : i ≤ nb.length := hi
        have hj : JInv la.length i nm ls := hj
        have hS : R = T.joinFin (T.joinL (placesOf na) (nb.drop i) (lb.drop i) nm ls) := hS
        have hj1 := hj.lo
        have hj2 := hj.hi
        have hj3 := hj.hn
        refine swp_seq ?_
        refine swp_region ?_
        refine sops_go rfl (st_bin rfl rfl rfl rfl rfl ?_)
        refine sops_nil ?_
        refine swp_seq ?_
        refine swp_cond _ rfl (fun hc47 => ?_) (fun hc47 => ?_)
        · have hlt : i < nb.length := by have := of_decide_eq_true hc47; exact Int.ofNat_lt.1 this
          have hk2 : i < lb.length := by omega
          rw [List.drop_eq_getElem_cons hk2, List.drop_eq_getElem_cons hlt, T.joinL] at hS
          have hyo := ib.all _ (List.getElem_mem hk2)
          have hyf := (T.fitL_iff lb).1 hfb.2 _ (List.getElem_mem hk2)
          have hnf := hfb.1 _ (List.getElem_mem hlt)
          refine swp_skip ?_
          refine swp_seq ?_
          refine swp_block ?_
          refine swp_seq ?_
          refine swp_region ?_
          refine sops_go rfl (st_move (v := .d _) rfl rfl rfl ?_)
          refine sops_go rfl (so_indexSl rfl rfl rfl rfl rfl rfl rfl (strRows_all _) (by omega) (by rw [strRows_len]; omega) (strRows_get _ _ hlt) ?_)
          generalize nb[i] = name at hS hnf ⊢
          refine sops_go rfl (so_load (v := .d _) rfl rfl rfl rfl rfl rfl rfl rfl ?_)
          refine sops_go rfl (st_assign (v := .d _) rfl rfl rfl ?_)
          refine sops_go rfl (st_assign (v := .d _) rfl rfl rfl ?_)
          refine sops_nil ?_
          refine swp_seq ?_
          refine swp_region ?_
          first | refine sops_go rfl (st_move (v := .map _) rfl rfl rfl ?_) | refine sops_go rfl (st_move (v := .d _) rfl rfl rfl ?_)
          refine sops_go rfl (st_move (v := .d _) rfl rfl rfl ?_)
          refine sops_go rfl (so_placeGet rfl rfl rfl rfl rfl rfl rfl rfl rfl rfl (placesOf_nodup na) ?_)
          refine sops_go rfl (st_move (v := .tup _) rfl rfl rfl ?_)
          refine sops_go rfl (st_extract (c := .d _) rfl rfl rfl rfl ?_)
          refine sops_go rfl (st_extract (c := .d _) rfl rfl rfl rfl ?_)
          refine sops_go rfl (st_assign (v := .d _) rfl rfl rfl ?_)
          refine sops_go rfl (st_assign (v := .d _) rfl rfl rfl ?_)
          refine sops_nil ?_
          refine swp_block ?_
          refine swp_seq ?_
          refine swp_region ?_
          refine sops_go rfl (st_move (v := .d _) rfl rfl rfl ?_)
          refine sops_go rfl (st_not rfl rfl rfl ?_)
          refine sops_go rfl (st_assign (v := .d _) rfl rfl rfl ?_)
          refine sops_nil ?_
          refine swp_cond _ rfl (fun hc58 => ?_) (fun hc58 => ?_)
          · have hp : pget (placesOf na) name = none := by simpa using hc58
            simp only [hp] at hS
            refine swp_seq ?_
            refine swp_region ?_
            first | refine sops_go rfl (so_fieldAddr (v := .p _ _ _) rfl rfl rfl rfl rfl rfl rfl rfl rfl rfl ?_) | refine sops_go rfl (so_fieldAddr (v := .dp _ _) rfl rfl rfl rfl rfl rfl rfl rfl rfl rfl ?_) | refine sops_go rfl (so_fieldAddr (v := .pe _ _ _ _ _) rfl rfl rfl rfl rfl rfl rfl rfl rfl rfl ?_)
            first | refine sops_go rfl (so_load (v := .d _) rfl rfl rfl rfl rfl rfl rfl rfl ?_) | refine sops_go rfl (so_load (v := .own _ _ _ _ _) rfl rfl rfl rfl rfl rfl rfl rfl ?_)
            refine sops_go rfl (st_move (v := .d _) rfl rfl rfl ?_)
            refine sops_go rfl (so_buildSlice (rows := [[_]]) rfl rfl rfl rfl rfl rfl rfl rfl rfl ?_)
            refine sops_go rfl (so_append rfl rfl rfl rfl rfl rfl rfl rfl rfl rfl (by simp) (by intro r hr; simp at hr; subst hr; exact ⟨rfl, rfl⟩) (by show (_ + _) * 16 ≤ _; simp [strRows]; omega) (by simp [strRows]; omega) ?_)
            first | refine sops_go rfl (so_fieldAddr (v := .p _ _ _) rfl rfl rfl rfl rfl rfl rfl rfl rfl rfl ?_) | refine sops_go rfl (so_fieldAddr (v := .dp _ _) rfl rfl rfl rfl rfl rfl rfl rfl rfl rfl ?_) | refine sops_go rfl (so_fieldAddr (v := .pe _ _ _ _ _) rfl rfl rfl rfl rfl rfl rfl rfl rfl rfl ?_)
            refine sops_go rfl (so_store rfl rfl rfl rfl rfl rfl rfl rfl rfl (zs := [_, _, _]) rfl ?_)
            refine sops_nil ?_
            refine swp_regionD 8 (by kernel_rfl) rfl rfl rfl ?_
            first | refine hd_go 0 rfl rfl rfl (so_fieldAddr (v := .p _ _ _) rfl rfl rfl rfl rfl rfl rfl rfl rfl rfl ⟨_, rfl, ?_⟩) | refine hd_go 0 rfl rfl rfl (so_fieldAddr (v := .dp _ _) rfl rfl rfl rfl rfl rfl rfl rfl rfl rfl ⟨_, rfl, ?_⟩) | refine hd_go 0 rfl rfl rfl (so_fieldAddr (v := .pe _ _ _ _ _) rfl rfl rfl rfl rfl rfl rfl rfl rfl rfl ⟨_, rfl, ?_⟩)
            first | refine hd_go 0 rfl rfl rfl (so_load (v := .d _) rfl rfl rfl rfl rfl rfl rfl rfl ⟨_, rfl, ?_⟩) | refine hd_go 0 rfl rfl rfl (so_load (v := .own _ _ _ _ _) rfl rfl rfl rfl rfl rfl rfl rfl ⟨_, rfl, ?_⟩)
            first | refine hd_go 0 rfl rfl rfl (so_fieldAddr (v := .p _ _ _) rfl rfl rfl rfl rfl rfl rfl rfl rfl rfl ⟨_, rfl, ?_⟩) | refine hd_go 0 rfl rfl rfl (so_fieldAddr (v := .dp _ _) rfl rfl rfl rfl rfl rfl rfl rfl rfl rfl ⟨_, rfl, ?_⟩) | refine hd_go 0 rfl rfl rfl (so_fieldAddr (v := .pe _ _ _ _ _) rfl rfl rfl rfl rfl rfl rfl rfl rfl rfl ⟨_, rfl, ?_⟩)
            first | refine hd_go 0 rfl rfl rfl (so_load (v := .d _) rfl rfl rfl rfl rfl rfl rfl rfl ⟨_, rfl, ?_⟩) | refine hd_go 0 rfl rfl rfl (so_load (v := .own _ _ _ _ _) rfl rfl rfl rfl rfl rfl rfl rfl ⟨_, rfl, ?_⟩)
            refine hd_go 0 rfl rfl rfl (st_move (v := .d _) rfl rfl rfl ⟨_, rfl, ?_⟩)
            refine hd_go 0 rfl rfl rfl (so_indexSl rfl rfl rfl rfl rfl rfl rfl (T.rows_all _) (by omega) (by rw [T.rows_len]; omega) (T.rows_get _ _ hk2) ⟨_, rfl, ?_⟩)
            generalize lb[i] = y at hS hyo hyf ⊢
            obtain ⟨y1, y2, y3⟩ := y
            first | refine hd_go 0 rfl rfl rfl (so_load (v := .d (.agg [_, _, _])) rfl rfl rfl rfl rfl rfl rfl rfl ⟨_, rfl, ?_⟩) | refine hd_go 0 rfl rfl rfl (so_load (v := .agg [_, _, _]) rfl rfl rfl rfl rfl rfl rfl rfl ⟨_, rfl, ?_⟩)
            refine hd_new rfl rfl rfl (so_buildSlice (rows := [[_, _, _]]) rfl rfl rfl rfl rfl rfl rfl rfl rfl ⟨_, _, rfl, ?_⟩)
            refine hd_nil ?_
            refine sops_go rfl (so_append rfl rfl rfl rfl rfl rfl rfl rfl rfl rfl (by simp) (by intro r hr; simp at hr; subst hr; exact ⟨rfl, rfl⟩) (by show (_ + _) * 56 ≤ _; simp [T.rows_eq]; omega) (by simp [T.rows_eq]; omega) ?_)
            first | refine sops_go rfl (so_fieldAddr (v := .p _ _ _) rfl rfl rfl rfl rfl rfl rfl rfl rfl rfl ?_) | refine sops_go rfl (so_fieldAddr (v := .dp _ _) rfl rfl rfl rfl rfl rfl rfl rfl rfl rfl ?_) | refine sops_go rfl (so_fieldAddr (v := .pe _ _ _ _ _) rfl rfl rfl rfl rfl rfl rfl rfl rfl rfl ?_)
            refine sops_go rfl (so_store rfl rfl rfl rfl rfl rfl rfl rfl rfl (zs := [_, _, _]) rfl ?_)
            refine sops_nil ?_
            refine swp_region ?_
            refine sops_go rfl (st_bin rfl rfl rfl rfl rfl ?_)
            refine sops_go rfl (st_move (v := .d _) rfl rfl rfl ?_)
            refine sops_nil ?_
            refine ⟨⟨i + 1, nm ++ [name], ls ++ [.mk y1 y2 y3], v1 + 1, v2 + 1⟩, ⟨hlt, hj.add hnf hyf hyo, hS⟩, by show nb.length - (i + 1) < nb.length - i; omega, ?_⟩
            refine wk_of rfl (Nat.le_of_ble_eq_true rfl) (by rw [hB]; exact Nat.zero_le _) (tle_upd (le_eq (next_i64 hlt (by omega)) rfl) (tle_upd (le_eq rfl rfl) (tle_upd (le_eq rfl rfl) (tle_upd (le_eq rfl rfl) (tle_upd (le_eq rfl rfl) (tle_upd (le_eq rfl rfl) (tle_upd (le_eq rfl rfl) (tle_upd (le_eq rfl rfl) (tle_any _))))))))) (hle_upd (.cells _ _ ⟨le_eq rfl rfl, le_eq (own_len (by simp [strRows])) rfl, le_eq (own_len (by simp [T.rows_eq])) rfl, trivial⟩) (hle_upd (.arr _ _ _ _ _ ((by simp [T.rows_eq, T.cells])) (rows_bnd _ _)) (hle_upd (.arr _ _ _ _ _ ((by simp [strRows])) (rows_bnd _ _)) (hle_upd (.cells _ _ ⟨le_eq rfl rfl, le_eq rfl rfl, le_eq rfl rfl, trivial⟩) (hle_upd (.cells _ _ ⟨le_any _, le_any _, le_any _, trivial⟩) (hle_upd (.cells _ _ ⟨le_any _, le_any _, le_eq rfl rfl, trivial⟩) (hle_dead _))))))) (dead_upd (Nat.le_of_ble_eq_true rfl) (dead_upd (Nat.le_of_ble_eq_true rfl) (dead_upd (Nat.le_of_ble_eq_true rfl) (dead_upd (Nat.le_of_ble_eq_true rfl) (dead_upd (Nat.le_of_ble_eq_true rfl) (dead_upd (Nat.le_of_ble_eq_true rfl) (dead_none)))))))
          · obtain ⟨k, hp⟩ : ∃ k, pget (placesOf na) name = some k := by
              cases h : pget (placesOf na) name with
              | none => rw [h] at hc58; simp at hc58
              | some k => exact ⟨k, rfl⟩
            have hk : k < ls.length := by have := pget_lt hp; omega
            simp only [hp] at hS
            have hpk : (pget (placesOf na) name).getD 0 = k := by rw [hp]; rfl
            rw [hpk]
            have hlk : ls[k]? = some ls[k] := List.getElem?_eq_getElem hk
            have hzf := hj.fo _ (List.getElem_mem hk)
            have hzi := hj.ff _ (List.getElem_mem hk)
            rw [show ls.getD k .every = ls[k] by simp [List.getD, hk]] at hS
            generalize ls[k] = z at hS hlk hzf hzi
            have hs1 := sub_pure _ _ hyo hzf true true
            have hs2 := sub_pure _ _ hzf hyo true true
            obtain ⟨z1, z2, z3⟩ := z
            have hat := T.rows_at hlk
            refine swp_seq ?_
            refine swp_regionQ 10 (by kernel_rfl) rfl rfl rfl ?_
            first | refine h0_go rfl (so_fieldAddr (v := .p _ _ _) rfl rfl rfl rfl rfl rfl rfl rfl rfl rfl ⟨_, rfl, ?_⟩) | refine h0_go rfl (so_fieldAddr (v := .dp _ _) rfl rfl rfl rfl rfl rfl rfl rfl rfl rfl ⟨_, rfl, ?_⟩) | refine h0_go rfl (so_fieldAddr (v := .pe _ _ _ _ _) rfl rfl rfl rfl rfl rfl rfl rfl rfl rfl ⟨_, rfl, ?_⟩)
            first | refine h0_go rfl (so_load (v := .d _) rfl rfl rfl rfl rfl rfl rfl rfl ⟨_, rfl, ?_⟩) | refine h0_go rfl (so_load (v := .own _ _ _ _ _) rfl rfl rfl rfl rfl rfl rfl rfl ⟨_, rfl, ?_⟩)
            refine h0_go rfl (st_move (v := .d _) rfl rfl rfl ⟨_, rfl, ?_⟩)
            refine h0_go rfl (so_indexSl rfl rfl rfl rfl rfl rfl rfl (T.rows_all _) (by omega) (by rw [T.rows_len]; omega) (T.rows_get _ _ hk2) ⟨_, rfl, ?_⟩)
            have hyr : (T.rows lb).getD i [] = (lb[i]).cells := T.rows_get _ _ hk2
            generalize lb[i] = y at hS hyo hyf hs1 hs2 hyr ⊢
            obtain ⟨y1, y2, y3⟩ := y
            first | refine h0_go rfl (so_load (v := .d (.agg [_, _, _])) rfl rfl rfl rfl rfl rfl rfl rfl ⟨_, rfl, ?_⟩) | refine h0_go rfl (so_load (v := .agg [_, _, _]) rfl rfl rfl rfl rfl rfl rfl rfl ⟨_, rfl, ?_⟩)
            first | refine h0_go rfl (so_fieldAddr (v := .p _ _ _) rfl rfl rfl rfl rfl rfl rfl rfl rfl rfl ⟨_, rfl, ?_⟩) | refine h0_go rfl (so_fieldAddr (v := .dp _ _) rfl rfl rfl rfl rfl rfl rfl rfl rfl rfl ⟨_, rfl, ?_⟩) | refine h0_go rfl (so_fieldAddr (v := .pe _ _ _ _ _) rfl rfl rfl rfl rfl rfl rfl rfl rfl rfl ⟨_, rfl, ?_⟩)
            first | refine h0_go rfl (so_load (v := .d _) rfl rfl rfl rfl rfl rfl rfl rfl ⟨_, rfl, ?_⟩) | refine h0_go rfl (so_load (v := .own _ _ _ _ _) rfl rfl rfl rfl rfl rfl rfl rfl ⟨_, rfl, ?_⟩)
            refine h0_go rfl (st_move (v := .d _) rfl rfl rfl ⟨_, rfl, ?_⟩)
            refine h0_go rfl (so_indexOwn rfl rfl rfl rfl rfl rfl rfl rfl rfl (by omega) (by simp [T.rows_eq]; omega) (by simp) ⟨_, rfl, ?_⟩)
            refine h0_go rfl (so_load (v := .d (.agg [_, _, _])) rfl rfl rfl (at_pe rfl (by simpa using hat)) rfl rfl rfl rfl ⟨_, rfl, ?_⟩)
            refine h0_nil ?_
            refine sops_go rfl (st_call rfl rfl (hs1) ⟨na_d _, na_d _, trivial⟩ rfl ?_)
            refine sops_go rfl (st_assign (v := .d _) rfl rfl rfl ?_)
            refine sops_nil ?_
            refine swp_cond _ rfl (fun hc77 => ?_) (fun hc77 => ?_)
            · rw [if_pos hc77] at hS
              refine swp_skip ?_
              refine swp_region ?_
              refine sops_go rfl (st_bin rfl rfl rfl rfl rfl ?_)
              refine sops_go rfl (st_move (v := .d _) rfl rfl rfl ?_)
              refine sops_nil ?_
              refine ⟨⟨i + 1, nm, ls, v1, v2⟩, ⟨hlt, hj.up, hS⟩, by show nb.length - (i + 1) < nb.length - i; omega, ?_⟩
              refine wk_of rfl (Nat.le_of_ble_eq_true rfl) (by rw [hB]; exact Nat.zero_le _) (tle_upd (le_eq (next_i64 hlt (by omega)) rfl) (tle_upd (le_eq rfl rfl) (tle_upd (le_eq rfl rfl) (tle_upd (le_eq rfl rfl) (tle_upd (le_eq rfl rfl) (tle_upd (le_eq rfl rfl) (tle_upd (le_eq rfl rfl) (tle_upd (le_eq rfl rfl) (tle_any _))))))))) (hle_upd (.cells _ _ ⟨le_eq rfl rfl, le_eq rfl rfl, le_eq rfl rfl, trivial⟩) (hle_upd (.arr _ _ _ _ _ (rfl) (rows_bnd _ _)) (hle_upd (.arr _ _ _ _ _ (rfl) (rows_bnd _ _)) (hle_upd (.cells _ _ ⟨le_eq rfl rfl, le_eq rfl rfl, le_eq rfl rfl, trivial⟩) (hle_upd (.cells _ _ ⟨le_any _, le_any _, le_any _, trivial⟩) (hle_upd (.cells _ _ ⟨le_any _, le_any _, le_eq rfl rfl, trivial⟩) (hle_dead _))))))) (dead_upd (Nat.le_of_ble_eq_true rfl) (dead_upd (Nat.le_of_ble_eq_true rfl) (dead_upd (Nat.le_of_ble_eq_true rfl) (dead_upd (Nat.le_of_ble_eq_true rfl) (dead_upd (Nat.le_of_ble_eq_true rfl) (dead_upd (Nat.le_of_ble_eq_true rfl) (dead_none)))))))
            · rw [if_neg (by rw [hc77]; simp)] at hS
              refine swp_seq ?_
              refine swp_regionQ 10 (by kernel_rfl) rfl rfl rfl ?_
              first | refine h0_go rfl (so_fieldAddr (v := .p _ _ _) rfl rfl rfl rfl rfl rfl rfl rfl rfl rfl ⟨_, rfl, ?_⟩) | refine h0_go rfl (so_fieldAddr (v := .dp _ _) rfl rfl rfl rfl rfl rfl rfl rfl rfl rfl ⟨_, rfl, ?_⟩) | refine h0_go rfl (so_fieldAddr (v := .pe _ _ _ _ _) rfl rfl rfl rfl rfl rfl rfl rfl rfl rfl ⟨_, rfl, ?_⟩)
              first | refine h0_go rfl (so_load (v := .d _) rfl rfl rfl rfl rfl rfl rfl rfl ⟨_, rfl, ?_⟩) | refine h0_go rfl (so_load (v := .own _ _ _ _ _) rfl rfl rfl rfl rfl rfl rfl rfl ⟨_, rfl, ?_⟩)
              refine h0_go rfl (st_move (v := .d _) rfl rfl rfl ⟨_, rfl, ?_⟩)
              refine h0_go rfl (so_indexOwn rfl rfl rfl rfl rfl rfl rfl rfl rfl (by omega) (by simp [T.rows_eq]; omega) (by simp) ⟨_, rfl, ?_⟩)
              refine h0_go rfl (so_load (v := .d (.agg [_, _, _])) rfl rfl rfl (at_pe rfl (by simpa using hat)) rfl rfl rfl rfl ⟨_, rfl, ?_⟩)
              first | refine h0_go rfl (so_fieldAddr (v := .p _ _ _) rfl rfl rfl rfl rfl rfl rfl rfl rfl rfl ⟨_, rfl, ?_⟩) | refine h0_go rfl (so_fieldAddr (v := .dp _ _) rfl rfl rfl rfl rfl rfl rfl rfl rfl rfl ⟨_, rfl, ?_⟩) | refine h0_go rfl (so_fieldAddr (v := .pe _ _ _ _ _) rfl rfl rfl rfl rfl rfl rfl rfl rfl rfl ⟨_, rfl, ?_⟩)
              first | refine h0_go rfl (so_load (v := .d _) rfl rfl rfl rfl rfl rfl rfl rfl ⟨_, rfl, ?_⟩) | refine h0_go rfl (so_load (v := .own _ _ _ _ _) rfl rfl rfl rfl rfl rfl rfl rfl ⟨_, rfl, ?_⟩)
              refine h0_go rfl (st_move (v := .d _) rfl rfl rfl ⟨_, rfl, ?_⟩)
              refine h0_go rfl (so_indexSl rfl rfl rfl rfl rfl rfl rfl (T.rows_all _) (by omega) (by rw [T.rows_len]; omega) hyr ⟨_, rfl, ?_⟩)
              first | refine h0_go rfl (so_load (v := .d (.agg [_, _, _])) rfl rfl rfl rfl rfl rfl rfl rfl ⟨_, rfl, ?_⟩) | refine h0_go rfl (so_load (v := .agg [_, _, _]) rfl rfl rfl rfl rfl rfl rfl rfl ⟨_, rfl, ?_⟩)
              refine h0_nil ?_
              refine sops_go rfl (st_call rfl rfl (hs2) ⟨na_d _, na_d _, trivial⟩ rfl ?_)
              refine sops_go rfl (st_assign (v := .d _) rfl rfl rfl ?_)
              refine sops_nil ?_
              refine swp_cond _ rfl (fun hc89 => ?_) (fun hc89 => ?_)
              · rw [if_pos hc89] at hS
                refine swp_regionQ 8 (by kernel_rfl) rfl rfl rfl ?_
                first | refine h0_go rfl (so_fieldAddr (v := .p _ _ _) rfl rfl rfl rfl rfl rfl rfl rfl rfl rfl ⟨_, rfl, ?_⟩) | refine h0_go rfl (so_fieldAddr (v := .dp _ _) rfl rfl rfl rfl rfl rfl rfl rfl rfl rfl ⟨_, rfl, ?_⟩) | refine h0_go rfl (so_fieldAddr (v := .pe _ _ _ _ _) rfl rfl rfl rfl rfl rfl rfl rfl rfl rfl ⟨_, rfl, ?_⟩)
                first | refine h0_go rfl (so_load (v := .d _) rfl rfl rfl rfl rfl rfl rfl rfl ⟨_, rfl, ?_⟩) | refine h0_go rfl (so_load (v := .own _ _ _ _ _) rfl rfl rfl rfl rfl rfl rfl rfl ⟨_, rfl, ?_⟩)
                refine h0_go rfl (st_move (v := .d _) rfl rfl rfl ⟨_, rfl, ?_⟩)
                first | refine h0_go rfl (so_fieldAddr (v := .p _ _ _) rfl rfl rfl rfl rfl rfl rfl rfl rfl rfl ⟨_, rfl, ?_⟩) | refine h0_go rfl (so_fieldAddr (v := .dp _ _) rfl rfl rfl rfl rfl rfl rfl rfl rfl rfl ⟨_, rfl, ?_⟩) | refine h0_go rfl (so_fieldAddr (v := .pe _ _ _ _ _) rfl rfl rfl rfl rfl rfl rfl rfl rfl rfl ⟨_, rfl, ?_⟩)
                first | refine h0_go rfl (so_load (v := .d _) rfl rfl rfl rfl rfl rfl rfl rfl ⟨_, rfl, ?_⟩) | refine h0_go rfl (so_load (v := .own _ _ _ _ _) rfl rfl rfl rfl rfl rfl rfl rfl ⟨_, rfl, ?_⟩)
                refine h0_go rfl (st_move (v := .d _) rfl rfl rfl ⟨_, rfl, ?_⟩)
                refine h0_go rfl (so_indexSl rfl rfl rfl rfl rfl rfl rfl (T.rows_all _) (by omega) (by rw [T.rows_len]; omega) hyr ⟨_, rfl, ?_⟩)
                first | refine h0_go rfl (so_load (v := .d (.agg [_, _, _])) rfl rfl rfl rfl rfl rfl rfl rfl ⟨_, rfl, ?_⟩) | refine h0_go rfl (so_load (v := .agg [_, _, _]) rfl rfl rfl rfl rfl rfl rfl rfl ⟨_, rfl, ?_⟩)
                refine h0_nil ?_
                refine sops_go rfl (so_indexOwn rfl rfl rfl rfl rfl rfl rfl rfl rfl (by omega) (by simp [T.rows_eq]; omega) (by simp) ?_)
                refine sops_go rfl (so_storeE rfl rfl rfl rfl rfl rfl rfl rfl (by simp [T.rows_eq]; omega) (by simp) ?_)
                refine sops_nil ?_
                refine swp_region ?_
                refine sops_go rfl (st_bin rfl rfl rfl rfl rfl ?_)
                refine sops_go rfl (st_move (v := .d _) rfl rfl rfl ?_)
                refine sops_nil ?_
                refine ⟨⟨i + 1, nm, ls.set k (.mk y1 y2 y3), v1, v2⟩, ⟨hlt, hj.set hyf hyo, hS⟩, by show nb.length - (i + 1) < nb.length - i; omega, ?_⟩
                refine wk_of rfl (Nat.le_of_ble_eq_true rfl) (by rw [hB]; exact Nat.zero_le _) (tle_upd (le_eq (next_i64 hlt (by omega)) rfl) (tle_upd (le_eq rfl rfl) (tle_upd (le_eq rfl rfl) (tle_upd (le_eq rfl rfl) (tle_upd (le_eq rfl rfl) (tle_upd (le_eq rfl rfl) (tle_upd (le_eq rfl rfl) (tle_upd (le_eq rfl rfl) (tle_any _))))))))) (hle_upd (.cells _ _ ⟨le_eq rfl rfl, le_eq rfl rfl, le_eq (own_len (by simp [T.rows_eq])) rfl, trivial⟩) (hle_upd (.arr _ _ _ _ _ ((by rw [← T.rows_set]; simp [splice, List.getD, hat, T.cells])) (rows_bnd _ _)) (hle_upd (.arr _ _ _ _ _ (rfl) (rows_bnd _ _)) (hle_upd (.cells _ _ ⟨le_eq rfl rfl, le_eq rfl rfl, le_eq rfl rfl, trivial⟩) (hle_upd (.cells _ _ ⟨le_any _, le_any _, le_any _, trivial⟩) (hle_upd (.cells _ _ ⟨le_any _, le_any _, le_eq rfl rfl, trivial⟩) (hle_dead _))))))) (dead_upd (Nat.le_of_ble_eq_true rfl) (dead_upd (Nat.le_of_ble_eq_true rfl) (dead_upd (Nat.le_of_ble_eq_true rfl) (dead_upd (Nat.le_of_ble_eq_true rfl) (dead_upd (Nat.le_of_ble_eq_true rfl) (dead_upd (Nat.le_of_ble_eq_true rfl) (dead_none)))))))
              · rw [if_neg (by rw [hc89]; simp)] at hS
                refine swp_seq ?_
                refine swp_region ?_
                first | refine sops_go rfl (so_load (v := .d (.agg [_, _, _])) rfl rfl rfl rfl rfl rfl rfl rfl ?_) | refine sops_go rfl (so_load (v := .agg [_, _, _]) rfl rfl rfl rfl rfl rfl rfl rfl ?_)
                refine sops_go rfl (so_store rfl rfl rfl rfl rfl rfl rfl rfl rfl (zs := [_, _, _]) rfl ?_)
                refine sops_nil ?_
                refine swp_ret ?_
                with_reducible refine inblk_ret ?_
                with_reducible refine inblk_ret ?_
                with_reducible refine after_ret ?_
                with_reducible refine after_ret ?_
                with_reducible refine inblk_ret ?_
                with_reducible refine after_ret ?_
                exact fin_c rfl (rc_of rfl rfl rfl rfl rfl (by rw [hS]; exact ra_dagg ⟨ra_d (keeps_v _), ra_nil, ra_nil, trivial⟩))
        · have he : i = nb.length := by have := of_decide_eq_false hc47; have h2 : ¬ (i : Int) < (nb.length : Int) := this; omega
          rw [he, List.drop_length, show T.joinL (placesOf na) [] (lb.drop nb.length) nm ls = some (nm, ls) by rw [T.joinL]; simp] at hS
          have hR : R = if ((T.mk 11 nm ls).check != 0) = true then .every else .mk 11 nm ls := hS
          have hck := checkT_pure (.mk 11 nm ls) ⟨hj.fn, (T.fitL_iff ls).2 hj.ff⟩ false
          refine swp_exit ?_
          with_reducible refine after_exit ?_
          with_reducible refine after_exit ?_
          refine inblk_hit ?_
          refine swp_seq ?_
          refine swp_seq ?_
          refine swp_region ?_
          first | refine sops_go rfl (so_load (v := .d (.agg [_, _, _])) rfl rfl rfl rfl rfl rfl rfl rfl ?_) | refine sops_go rfl (so_load (v := .agg [_, _, _]) rfl rfl rfl rfl rfl rfl rfl rfl ?_)
          refine sops_go rfl (st_call rfl rfl (hck) ⟨na_agg ⟨na_d _, na_row rfl rfl, na_row rfl rfl, trivial⟩, trivial⟩ rfl ?_)
          refine sops_go rfl (st_bin rfl rfl rfl rfl rfl ?_)
          refine sops_nil ?_
          refine swp_cond _ rfl (fun hc113 => ?_) (fun hc113 => ?_)
          · rw [if_pos hc113] at hR
            have hS := hR
            refine swp_seq ?_
            refine swp_region ?_
            first | refine sops_go rfl (so_load (v := .d (.agg [_, _, _])) rfl rfl rfl rfl rfl rfl rfl rfl ?_) | refine sops_go rfl (so_load (v := .agg [_, _, _]) rfl rfl rfl rfl rfl rfl rfl rfl ?_)
            refine sops_go rfl (so_store rfl rfl rfl rfl rfl rfl rfl rfl rfl (zs := [_, _, _]) rfl ?_)
            refine sops_nil ?_
            refine swp_ret ?_
            with_reducible refine after_ret ?_
            exact fin_c rfl (rc_of rfl rfl rfl rfl rfl (by rw [hS]; exact ra_dagg ⟨ra_d (keeps_v _), ra_nil, ra_nil, trivial⟩))
          · rw [if_neg (by rw [hc113]; simp)] at hR
            have hS := hR
            refine swp_skip ?_
            refine swp_seq ?_
            refine swp_region ?_
            first | refine sops_go rfl (so_load (v := .d (.agg [_, _, _])) rfl rfl rfl rfl rfl rfl rfl rfl ?_) | refine sops_go rfl (so_load (v := .agg [_, _, _]) rfl rfl rfl rfl rfl rfl rfl rfl ?_)
            refine sops_go rfl (so_store rfl rfl rfl rfl rfl rfl rfl rfl rfl (zs := [_, _, _]) rfl ?_)
            refine sops_nil ?_
            refine swp_ret ?_
            exact fin_c rfl (rc_of rfl rfl rfl rfl rfl (by rw [hS]; exact ra_agg ⟨ra_d (keeps_v _), ra_row rfl rfl (strRows_keeps _), ra_row rfl rfl (T.rows_keeps _), trivial⟩))
end Go.Proofs.YtdcpnpcmgfmenaaDoor
