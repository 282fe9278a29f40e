/-
  Walks: is a type part of another one? Conditions: none.
-/
import Derived.Test.YtdcpnpcmgfmenaaDoorHa
set_option linter.unusedVariables false
set_option maxRecDepth 100000
namespace Go.Proofs.YtdcpnpcmgfmenaaDoor
open Go Go.Proofs.YtdcpnpcmgfmenaaDoor.Lg

/-- Where a name stands. -/
def pget : List (ByteArray × Nat) → ByteArray → Option Nat
  | [], _ => none
  | p :: r, s => if p.1 = s then some p.2 else pget r s
theorem pget_none : ∀ (es : List (ByteArray × Nat)) (s : ByteArray), pget es s = none → ∀ p ∈ es, p.1 ≠ s
  | p :: r, s, h, q, hq => by
    unfold pget at h
    split at h
    · cases h
    · rename_i hp
      rcases List.mem_cons.1 hq with rfl | hq
      · exact hp
      · exact pget_none r s h q hq
theorem pget_some : ∀ (es : List (ByteArray × Nat)) (s : ByteArray) (n : Nat), pget es s = some n → ∃ j : Nat, es[j]? = some (s, n)
  | p :: r, s, n, h => by
    unfold pget at h
    split at h
    · rename_i hp
      injection h with h
      exact ⟨0, by simp [← hp, ← h]⟩
    · obtain ⟨j, hj⟩ := pget_some r s n h
      exact ⟨j + 1, by simpa using hj⟩
theorem encM_keys (es : List (ByteArray × Nat)) : ∀ p ∈ encM es, Go.MapKept.IsKey .string p.1 := by
  intro p hp
  obtain ⟨q, _, rfl⟩ := List.mem_map.1 hp
  trivial
theorem encM_get (es : List (ByteArray × Nat)) (s : ByteArray) : mget (encM es) (.string s) ((pget es s).map fun n : Nat => Value.int .i64 (n : Int)) := by
  cases h : pget es s with
  | none =>
    intro p hp
    obtain ⟨q, hq, rfl⟩ := List.mem_map.1 hp
    have := pget_none es s h q hq
    simpa using this
  | some n =>
    obtain ⟨j, hj⟩ := pget_some es s n h
    exact ⟨j, by simp [encM, hj]⟩
theorem encM_one {es : List (ByteArray × Nat)} (hn : (es.map (·.1)).Nodup) (s : ByteArray) : ∀ (i j : Nat) v v', (encM es)[i]? = some (.string s, v) → (encM es)[j]? = some (.string s, v') → v = v' := by
  intro i j v v' h1 h2
  simp only [encM, List.getElem?_map, Option.map_eq_some_iff] at h1 h2
  obtain ⟨p, hp, e1⟩ := h1
  obtain ⟨q, hq, e2⟩ := h2
  simp only [Prod.mk.injEq, Value.string.injEq] at e1 e2
  have hi : i = j := by
    have h1 : i < (es.map (·.1)).length := by simp; exact (List.getElem?_eq_some_iff.1 hp).1
    have h2 : j < (es.map (·.1)).length := by simp; exact (List.getElem?_eq_some_iff.1 hq).1
    obtain ⟨_, g1⟩ := List.getElem?_eq_some_iff.1 hp
    obtain ⟨_, g2⟩ := List.getElem?_eq_some_iff.1 hq
    rcases Nat.lt_trichotomy i j with h | h | h
    · exact absurd (by simp [g1, g2, e1.1, e2.1]) (List.pairwise_iff_getElem.1 hn i j h1 h2 h)
    · exact h
    · exact absurd (by simp [g1, g2, e1.1, e2.1]) (List.pairwise_iff_getElem.1 hn j i h2 h1 h)
  subst hi
  rw [hp] at hq
  injection hq with hq
  subst hq
  rw [← e1.2, ← e2.2]
theorem placesOf_nodup (l : List ByteArray) : ((placesOf l).map (·.1)).Nodup := placesFrom_nodup l 0 [] (by simp)

theorem so_placeGet {q : Md} [Qt q] {B : Base} {Q : Exit → St → Prop} {σ : St} {o : Oper} {K : St → Prop} {E : Env} {t : TypeId} {x ix : Operand} (ho : o.op = .lookup t x ix true) {i : TI} (hi : E.ti t = some i) {kt et : TypeId} (ht : i.desc = .map kt et) {jk je : TI} (hjk : E.ti kt = some jk) (hje : E.ti et = some je) (hz : je.zero = .int .i64 0) (hd' : jk.desc = .string)
    {es : List (ByteArray × Nat)} (hx : ev E σ x = .d (.map (encM es))) {s : ByteArray} (hk : ev E σ ix = .d (.v (.string s))) (hd : dlt o.dst σ.n = true) (hnd : (es.map (·.1)).Nodup)
    (hK : K (σ.put o.dst (.tup [.d (.v (.int .i64 ((pget es s).getD 0 : Nat))), .d (.v (.bool (pget es s).isSome))]))) : Step q E B o K Q σ := by
  have hg := encM_get es s
  cases h : pget es s with
  | none =>
    rw [h] at hK hg
    exact so_lookupD ho hi ht hjk hje hx hk hd (by rw [hd']; trivial) (by rw [hd']; exact encM_keys es) (encM_one hnd s) hg (by simpa [hz, constAV] using hK)
  | some n =>
    rw [h] at hK hg
    exact so_lookupD ho hi ht hjk hje hx hk hd (by rw [hd']; trivial) (by rw [hd']; exact encM_keys es) (encM_one hnd s) hg (by simpa using hK)

mutual
def T.sub : T → T → Bool
  | .mk ka na la, b =>
    if ((b.kind == 1) || ((ka == 5) && (b.kind == 4))) = true then true
    else if (ka != b.kind) = true then false
    else if (ka == 11) = true then T.subU la na (placesOf b.names) b.list
    else rowsEq strEq na b.names && T.subR la b.list
def T.subU : List T → List ByteArray → List (ByteArray × Nat) → List T → Bool
  | x :: r, n :: ns, pl, lb => (match pget pl n with | none => false | some k => (match lb[k]? with | none => false | some y => x.sub y)) && T.subU r ns pl lb
  | _, _, _, _ => true
def T.subR : List T → List T → Bool
  | [], [] => true
  | x :: a, y :: b => x.sub y && T.subR a b
  | _, _ => false
end
theorem T.subR_eq : ∀ a b : List T, T.subR a b = rowsEq T.sub a b
  | [], [] => by rw [T.subR, rowsEq]
  | [], _ :: _ => by rw [T.subR, rowsEq] <;> simp
  | _ :: _, [] => by rw [T.subR, rowsEq] <;> simp
  | x :: a, y :: b => by rw [T.subR, rowsEq, T.subR_eq a b]
theorem T.subU_nil (l : List T) (pl : List (ByteArray × Nat)) (lb : List T) : T.subU l [] pl lb = true := by cases l <;> rw [T.subU] <;> simp

theorem mput_vals : ∀ (es : List (ByteArray × Nat)) (s : ByteArray) (i : Nat) (p : ByteArray × Nat), p ∈ mput es s i → p = (s, i) ∨ p ∈ es
  | [], s, i, p, h => by simpa [mput] using h
  | q :: r, s, i, p, h => by
    unfold mput at h
    split at h
    · rcases List.mem_cons.1 h with h | h
      · exact .inl h
      · exact .inr (List.mem_cons.2 (.inr h))
    · rcases List.mem_cons.1 h with h | h
      · exact .inr (List.mem_cons.2 (.inl h))
      · rcases mput_vals r s i p h with h | h
        · exact .inl h
        · exact .inr (List.mem_cons.2 (.inr h))
theorem placesFrom_lt : ∀ (l : List ByteArray) (i : Nat) (es : List (ByteArray × Nat)), (∀ p ∈ es, p.2 < i) → ∀ p ∈ placesFrom l i es, p.2 < i + l.length
  | [], i, es, h, p, hp => by simpa using h p hp
  | s :: r, i, es, h, p, hp => by
    have := placesFrom_lt r (i + 1) (mput es s i) (fun q hq => by
      rcases mput_vals es s i q hq with rfl | hq
      · simp
      · have := h q hq; omega) p hp
    simp only [List.length_cons]; omega
theorem pget_lt {l : List ByteArray} {s : ByteArray} {k : Nat} (h : pget (placesOf l) s = some k) : k < l.length := by
  obtain ⟨j, hj⟩ := pget_some _ _ _ h
  have := placesFrom_lt l 0 [] (by simp) _ (List.mem_of_getElem? hj)
  simpa using this

theorem sub_pure (a : T) : ∀ b : T, a.formed = true → b.formed = true → ∀ s s', Pure env 20 [.d (a.df s), .d (b.df s')] (.d (.v (.bool (a.sub b)))) := by
  revert a
  apply T.ind
  intro ka na la ih b ha hb s s'
  obtain ⟨kb, nb, lb⟩ := b
  have ia := T.inv ha
  have ib := T.inv hb
  have hS : (T.mk ka na la).sub (T.mk kb nb lb) = if ((kb == 1) || ((ka == 5) && (kb == 4))) = true then true
    else if (ka != kb) = true then false
    else if (ka == 11) = true then T.subU la na (placesOf nb) lb
    else rowsEq strEq na nb && T.subR la lb := by rw [T.sub]; rfl
  refine pure_of_body Tryd.func20 rfl rfl rfl fun B hB => ?_
  refine swp_seq ?_
  refine swp_region ?_
  refine sops_go rfl (so_box (cs := [_, _, _]) rfl rfl rfl ?_)
  refine sops_go rfl (so_box (cs := [_, _, _]) rfl rfl rfl ?_)
  refine sops_go rfl (st_assign (v := .d _) rfl rfl rfl ?_)
  refine sops_nil ?_
  refine swp_seq ?_
  refine swp_block ?_
  refine swp_seq ?_
  refine swp_region ?_
  first | refine sops_go rfl (so_fieldAddr (v := .p _ _ _) rfl rfl rfl rfl rfl rfl rfl rfl rfl rfl ?_) | refine sops_go rfl (so_fieldAddr (v := .dp _ _) rfl rfl rfl rfl rfl rfl rfl rfl rfl rfl ?_) | refine sops_go rfl (so_fieldAddr (v := .pe _ _ _ _ _) rfl rfl rfl rfl rfl rfl rfl rfl rfl rfl ?_)
  refine sops_go rfl (so_load (v := .d _) rfl rfl rfl rfl rfl rfl rfl rfl ?_)
  refine sops_go rfl (st_bin rfl rfl rfl rfl rfl ?_)
  refine sops_go rfl (st_move (v := .d _) rfl rfl rfl ?_)
  refine' sops_or (d := 14) (p := 23) [15, 16, 17, 18, 19, 20, 21, 22] 9 rfl rfl rfl (fun hb14 => ?a14) (fun hb14 => ?b14) ?_
  case a14 =>
    first | refine sops_yes rfl rfl rfl rfl (so_fieldAddr (v := .p _ _ _) rfl rfl rfl rfl rfl rfl rfl rfl rfl rfl ?_) | refine sops_yes rfl rfl rfl rfl (so_fieldAddr (v := .dp _ _) rfl rfl rfl rfl rfl rfl rfl rfl rfl rfl ?_) | refine sops_yes rfl rfl rfl rfl (so_fieldAddr (v := .pe _ _ _ _ _) rfl rfl rfl rfl rfl rfl rfl rfl rfl rfl ?_)
    refine sops_yes rfl rfl rfl rfl (so_load (v := .d _) rfl rfl rfl rfl rfl rfl rfl rfl ?_)
    refine sops_yes rfl rfl rfl rfl (st_bin rfl rfl rfl rfl rfl ?_)
    refine sops_yes rfl rfl rfl rfl (st_move (v := .d _) rfl rfl rfl ?_)
    refine' sops_and (d := 18) (p := 22) [19, 20, 21] 4 rfl rfl rfl (fun hb18 => ?a18) (fun hb18 => ?b18) ?_
    case a18 =>
      first | refine sops_yes rfl rfl rfl rfl (so_fieldAddr (v := .p _ _ _) rfl rfl rfl rfl rfl rfl rfl rfl rfl rfl ?_) | refine sops_yes rfl rfl rfl rfl (so_fieldAddr (v := .dp _ _) rfl rfl rfl rfl rfl rfl rfl rfl rfl rfl ?_) | refine sops_yes rfl rfl rfl rfl (so_fieldAddr (v := .pe _ _ _ _ _) rfl rfl rfl rfl rfl rfl rfl rfl rfl rfl ?_)
      refine sops_yes rfl rfl rfl rfl (so_load (v := .d _) rfl rfl rfl rfl rfl rfl rfl rfl ?_)
      refine sops_yes rfl rfl rfl rfl (st_bin rfl rfl rfl rfl rfl ?_)
      refine sops_yes rfl rfl rfl rfl (st_pick (v := .d _) rfl rfl rfl rfl ?_)
      refine sops_nil ?_
      exact ⟨rfl, rfl, rfl, rfl, [_, _, _], rfl, rfl⟩
    case b18 =>
      refine sops_no rfl rfl rfl rfl rfl ?_
      refine sops_no rfl rfl rfl rfl rfl ?_
      refine sops_no rfl rfl rfl rfl rfl ?_
      refine sops_yes rfl rfl rfl rfl (st_pick (v := .d _) rfl rfl rfl rfl ?_)
      refine sops_nil ?_
      exact ⟨rfl, rfl, rfl, rfl, [_, _, _], rfl, rfl⟩
    refine sops_go rfl (st_pick (v := .d _) rfl rfl rfl rfl ?_)
    refine sops_nil ?_
    exact ⟨rfl, rfl, rfl, rfl, [_, _, _, _, _, _, _, _], rfl, rfl⟩
  case b14 =>
    refine sops_no rfl rfl rfl rfl rfl ?_
    refine sops_no rfl rfl rfl rfl rfl ?_
    refine sops_no rfl rfl rfl rfl rfl ?_
    refine sops_no rfl rfl rfl rfl rfl ?_
    refine sops_un rfl rfl rfl rfl rfl ?_
    refine sops_un rfl rfl rfl rfl rfl ?_
    refine sops_un rfl rfl rfl rfl rfl ?_
    refine sops_no rfl rfl rfl rfl rfl ?_
    refine sops_go rfl (st_pick (v := .d _) rfl rfl rfl rfl ?_)
    refine sops_nil ?_
    exact ⟨rfl, rfl, rfl, rfl, [_, _, _, _, _, _, _, _], rfl, rfl⟩
  refine sops_go rfl (st_assign (v := .d _) rfl rfl rfl ?_)
  refine sops_nil ?_
  refine swp_cond _ rfl (fun hc10 => ?_) (fun hc10 => ?_)
  · rw [if_pos hc10] at hS
    refine swp_seq ?_
    refine swp_region ?_
    refine sops_go rfl (st_assign (v := .d _) rfl rfl rfl ?_)
    refine sops_nil ?_
    refine swp_ret ?_
    with_reducible refine inblk_ret ?_
    with_reducible refine after_ret ?_
    exact fin_b rfl rfl hS
  · rw [if_neg (by rw [hc10]; simp)] at hS
    refine swp_seq ?_
    refine swp_region ?_
    first | refine sops_go rfl (so_fieldAddr (v := .p _ _ _) rfl rfl rfl rfl rfl rfl rfl rfl rfl rfl ?_) | refine sops_go rfl (so_fieldAddr (v := .dp _ _) rfl rfl rfl rfl rfl rfl rfl rfl rfl rfl ?_) | refine sops_go rfl (so_fieldAddr (v := .pe _ _ _ _ _) rfl rfl rfl rfl rfl rfl rfl rfl rfl rfl ?_)
    refine sops_go rfl (so_load (v := .d _) rfl rfl rfl rfl rfl rfl rfl rfl ?_)
    first | refine sops_go rfl (so_fieldAddr (v := .p _ _ _) rfl rfl rfl rfl rfl rfl rfl rfl rfl rfl ?_) | refine sops_go rfl (so_fieldAddr (v := .dp _ _) rfl rfl rfl rfl rfl rfl rfl rfl rfl rfl ?_) | refine sops_go rfl (so_fieldAddr (v := .pe _ _ _ _ _) rfl rfl rfl rfl rfl rfl rfl rfl rfl rfl ?_)
    refine sops_go rfl (so_load (v := .d _) rfl rfl rfl rfl rfl rfl rfl rfl ?_)
    refine sops_go rfl (st_bin rfl rfl rfl rfl rfl ?_)
    refine sops_go rfl (st_assign (v := .d _) rfl rfl rfl ?_)
    refine sops_nil ?_
    refine swp_cond _ rfl (fun hc24 => ?_) (fun hc24 => ?_)
    · rw [if_pos hc24] at hS
      refine swp_seq ?_
      refine swp_region ?_
      refine sops_go rfl (st_assign (v := .d _) rfl rfl rfl ?_)
      refine sops_nil ?_
      refine swp_ret ?_
      with_reducible refine inblk_ret ?_
      with_reducible refine after_ret ?_
      exact fin_b rfl rfl hS
    · rw [if_neg (by rw [hc24]; simp)] at hS
      refine swp_seq ?_
      refine swp_region ?_
      first | refine sops_go rfl (so_fieldAddr (v := .p _ _ _) rfl rfl rfl rfl rfl rfl rfl rfl rfl rfl ?_) | refine sops_go rfl (so_fieldAddr (v := .dp _ _) rfl rfl rfl rfl rfl rfl rfl rfl rfl rfl ?_) | refine sops_go rfl (so_fieldAddr (v := .pe _ _ _ _ _) rfl rfl rfl rfl rfl rfl rfl rfl rfl rfl ?_)
      refine sops_go rfl (so_load (v := .d _) rfl rfl rfl rfl rfl rfl rfl rfl ?_)
      refine sops_go rfl (st_bin rfl rfl rfl rfl rfl ?_)
      refine sops_go rfl (st_assign (v := .d _) rfl rfl rfl ?_)
      refine sops_nil ?_
      refine swp_cond _ rfl (fun hc30 => ?_) (fun hc30 => ?_)
      · rw [if_pos hc30] at hS
        have h11 : ka = 11 := by simpa using hc30
        have h11b : kb = 11 := by have : ka = kb := by simpa using hc24
                                  omega
        have hla := ia.same (.inr h11)
        have hlb := ib.same (.inr h11b)
        refine swp_seq ?_
        refine swp_region ?_
        first | refine sops_go rfl (so_fieldAddr (v := .p _ _ _) rfl rfl rfl rfl rfl rfl rfl rfl rfl rfl ?_) | refine sops_go rfl (so_fieldAddr (v := .dp _ _) rfl rfl rfl rfl rfl rfl rfl rfl rfl rfl ?_) | refine sops_go rfl (so_fieldAddr (v := .pe _ _ _ _ _) rfl rfl rfl rfl rfl rfl rfl rfl rfl rfl ?_)
        first | refine sops_go rfl (so_load (v := .d _) rfl rfl rfl rfl rfl rfl rfl rfl ?_) | refine sops_go rfl (so_load (v := .own _ _ _ _ _) rfl rfl rfl rfl rfl rfl rfl rfl ?_)
        refine sops_go rfl (st_call rfl rfl (places_pure s' nb) ⟨na_d _, trivial⟩ rfl ?_)
        first | refine sops_go rfl (st_assign (v := .map _) rfl rfl rfl ?_) | refine sops_go rfl (st_assign (v := .d _) rfl rfl rfl ?_)
        refine sops_nil ?_
        refine swp_seq ?_
        refine swp_seq ?_
        refine swp_region ?_
        first | refine sops_go rfl (so_fieldAddr (v := .p _ _ _) rfl rfl rfl rfl rfl rfl rfl rfl rfl rfl ?_) | refine sops_go rfl (so_fieldAddr (v := .dp _ _) rfl rfl rfl rfl rfl rfl rfl rfl rfl rfl ?_) | refine sops_go rfl (so_fieldAddr (v := .pe _ _ _ _ _) rfl rfl rfl rfl rfl rfl rfl rfl rfl rfl ?_)
        first | refine sops_go rfl (so_load (v := .d _) rfl rfl rfl rfl rfl rfl rfl rfl ?_) | refine sops_go rfl (so_load (v := .own _ _ _ _ _) rfl rfl rfl rfl rfl rfl rfl rfl ?_)
        refine sops_go rfl (so_lenSl rfl rfl rfl rfl rfl ?_)
        refine sops_go rfl (st_move (v := .d _) rfl rfl rfl ?_)
        refine sops_nil ?_
        refine swp_block ?_
        refine swp_lenT (i := 38) rfl fun hvl => ?_
        rw [strRows_len] at hvl
        refine swp_loopF (F := fun k : Nat => { t := upd (upd (upd (upd (upd (upd (fun _ => .any) 2 (.p 0 0 0)) 3 (.p 1 0 0)) 5 (.d (.map (encM (placesOf nb))))) 38 (.d (.sl s (strRows na)))) 39 (.d (.v (.int .i64 na.length)))) 40 (.d (.v (.int .i64 k))), n := 80, h := upd (upd (fun _ => .dead) 0 (.cells [.any, .any, .d (.sl s (T.rows la))])) 1 (.cells [.any, .any, .d (.sl s' (T.rows lb))]), nx := 2 })
          (fun k => k ≤ na.length ∧ (T.mk ka na la).sub (T.mk kb nb lb) = T.subU (la.drop k) (na.drop k) (placesOf nb) lb) (fun k => na.length - k) 0 ⟨Nat.zero_le _, hS⟩ ?_ ?_
        · refine wk_of rfl (Nat.le_of_ble_eq_true rfl) (by rw [hB]; exact Nat.zero_le _) (tle_upd (le_eq rfl rfl) (tle_upd (le_eq (int_eq (by rw [strRows_len])) rfl) (tle_upd (le_eq rfl rfl) (tle_upd (le_eq rfl rfl) (tle_upd (le_eq rfl rfl) (tle_upd (le_eq rfl rfl) (tle_any _))))))) (hle_upd (.cells _ _ ⟨le_any _, le_any _, le_eq rfl rfl, trivial⟩) (hle_upd (.cells _ _ ⟨le_any _, le_any _, le_eq rfl rfl, trivial⟩) (hle_dead _))) (dead_upd (Nat.le_of_ble_eq_true rfl) (dead_upd (Nat.le_of_ble_eq_true rfl) (dead_none)))
        rintro k ⟨hk, ha⟩
        refine swp_seq ?_
        refine swp_region ?_
        refine sops_go rfl (st_bin rfl rfl rfl rfl rfl ?_)
        refine sops_nil ?_
        refine swp_seq ?_
        refine swp_cond _ rfl (fun hc41 => ?_) (fun hc41 => ?_)
        · have hlt : k < na.length := by have := of_decide_eq_true hc41; omega
          have hk2 : k < la.length := by omega
          rw [List.drop_eq_getElem_cons hk2, List.drop_eq_getElem_cons hlt, T.subU] at ha
          have ihk := ih _ (List.getElem_mem hk2)
          have ifk := ia.all _ (List.getElem_mem hk2)
          refine swp_skip ?_
          refine swp_seq ?_
          refine swp_block ?_
          refine swp_seq ?_
          refine swp_region ?_
          refine sops_go rfl (st_move (v := .d _) rfl rfl rfl ?_)
          refine sops_go rfl (so_indexSl rfl rfl rfl rfl rfl rfl rfl (strRows_all _) (by omega) (by rw [strRows_len]; omega) (strRows_get _ _ hlt) ?_)
          generalize na[k] = name at ha ⊢
          refine sops_go rfl (so_load (v := .d _) rfl rfl rfl rfl rfl rfl rfl rfl ?_)
          refine sops_go rfl (st_assign (v := .d _) rfl rfl rfl ?_)
          refine sops_go rfl (st_assign (v := .d _) rfl rfl rfl ?_)
          refine sops_nil ?_
          refine swp_seq ?_
          refine swp_region ?_
          first | refine sops_go rfl (st_move (v := .map _) rfl rfl rfl ?_) | refine sops_go rfl (st_move (v := .d _) rfl rfl rfl ?_)
          refine sops_go rfl (st_move (v := .d _) rfl rfl rfl ?_)
          refine sops_go rfl (so_placeGet rfl rfl rfl rfl rfl rfl rfl rfl rfl rfl (placesOf_nodup nb) ?_)
          refine sops_go rfl (st_move (v := .tup _) rfl rfl rfl ?_)
          refine sops_go rfl (st_extract (c := .d _) rfl rfl rfl rfl ?_)
          refine sops_go rfl (st_extract (c := .d _) rfl rfl rfl rfl ?_)
          refine sops_go rfl (st_assign (v := .d _) rfl rfl rfl ?_)
          refine sops_go rfl (st_assign (v := .d _) rfl rfl rfl ?_)
          refine sops_nil ?_
          refine swp_seq ?_
          refine swp_regionQ 13 (by kernel_rfl) rfl rfl rfl ?_
          refine h0_go rfl (st_move (v := .d _) rfl rfl rfl ⟨_, rfl, ?_⟩)
          refine h0_go rfl (st_not rfl rfl rfl ⟨_, rfl, ?_⟩)
          refine h0_go rfl (st_move (v := .d _) rfl rfl rfl ⟨_, rfl, ?_⟩)
          refine h0_case 53 rfl (fun hb53 => ?_) (fun hb53 => ?_)
          · have hp : pget (placesOf nb) name = none := by simpa using hb53
            rw [hp, Bool.false_and] at ha
            have hS := ha
            refine h0_no rfl rfl rfl rfl rfl ?_
            refine h0_no rfl rfl rfl rfl rfl ?_
            refine h0_no rfl rfl rfl rfl rfl ?_
            refine h0_no rfl rfl rfl rfl rfl ?_
            refine h0_no rfl rfl rfl rfl rfl ?_
            refine h0_no rfl rfl rfl rfl rfl ?_
            refine h0_no rfl rfl rfl rfl rfl ?_
            refine h0_no rfl rfl rfl rfl rfl ?_
            refine h0_no rfl rfl rfl rfl rfl ?_
            refine h0_no rfl rfl rfl rfl rfl ?_
            refine h0_nil ?_
            refine sops_no rfl rfl rfl rfl rfl ?_
            refine sops_no rfl rfl rfl rfl rfl ?_
            refine sops_go rfl (st_pick (v := .d _) rfl rfl rfl rfl ?_)
            refine sops_nil ?_
            refine swp_condT rfl ?_
            refine swp_seq ?_
            refine swp_region ?_
            refine sops_go rfl (st_assign (v := .d _) rfl rfl rfl ?_)
            refine sops_nil ?_
            refine swp_ret ?_
            with_reducible refine inblk_ret ?_
            with_reducible refine after_ret ?_
            with_reducible refine after_ret ?_
            with_reducible refine inblk_ret ?_
            with_reducible refine after_ret ?_
            with_reducible refine inblk_ret ?_
            with_reducible refine after_ret ?_
            exact fin_b rfl rfl hS
          · obtain ⟨j, hp⟩ : ∃ j, pget (placesOf nb) name = some j := by
              cases h : pget (placesOf nb) name with
              | none => rw [h] at hb53; simp at hb53
              | some j => exact ⟨j, rfl⟩
            have hj : j < lb.length := by have := pget_lt hp; omega
            simp only [hp, List.getElem?_eq_getElem hj] at ha
            have ihk := ihk _ ifk (ib.all _ (List.getElem_mem hj)) true true
            have hpj : (pget (placesOf nb) name).getD 0 = j := by rw [hp]; rfl
            rw [hpj]
            first | refine h0_yes rfl rfl rfl rfl (so_fieldAddr (v := .p _ _ _) rfl rfl rfl rfl rfl rfl rfl rfl rfl rfl ⟨_, rfl, ?_⟩) | refine h0_yes rfl rfl rfl rfl (so_fieldAddr (v := .dp _ _) rfl rfl rfl rfl rfl rfl rfl rfl rfl rfl ⟨_, rfl, ?_⟩) | refine h0_yes rfl rfl rfl rfl (so_fieldAddr (v := .pe _ _ _ _ _) rfl rfl rfl rfl rfl rfl rfl rfl rfl rfl ⟨_, rfl, ?_⟩)
            first | refine h0_yes rfl rfl rfl rfl (so_load (v := .d _) rfl rfl rfl rfl rfl rfl rfl rfl ⟨_, rfl, ?_⟩) | refine h0_yes rfl rfl rfl rfl (so_load (v := .own _ _ _ _ _) rfl rfl rfl rfl rfl rfl rfl rfl ⟨_, rfl, ?_⟩)
            refine h0_yes rfl rfl rfl rfl (st_move (v := .d _) rfl rfl rfl ⟨_, rfl, ?_⟩)
            refine h0_yes rfl rfl rfl rfl (so_indexSl rfl rfl rfl rfl rfl rfl rfl (T.rows_all _) (by omega) (by rw [T.rows_len]; omega) (T.rows_get _ _ hk2) ⟨_, rfl, ?_⟩)
            generalize la[k] = x at ihk ha ⊢
            obtain ⟨x1, x2, x3⟩ := x
            first | refine h0_yes rfl rfl rfl rfl (so_load (v := .d (.agg [_, _, _])) rfl rfl rfl rfl rfl rfl rfl rfl ⟨_, rfl, ?_⟩) | refine h0_yes rfl rfl rfl rfl (so_load (v := .agg [_, _, _]) rfl rfl rfl rfl rfl rfl rfl rfl ⟨_, rfl, ?_⟩)
            first | refine h0_yes rfl rfl rfl rfl (so_fieldAddr (v := .p _ _ _) rfl rfl rfl rfl rfl rfl rfl rfl rfl rfl ⟨_, rfl, ?_⟩) | refine h0_yes rfl rfl rfl rfl (so_fieldAddr (v := .dp _ _) rfl rfl rfl rfl rfl rfl rfl rfl rfl rfl ⟨_, rfl, ?_⟩) | refine h0_yes rfl rfl rfl rfl (so_fieldAddr (v := .pe _ _ _ _ _) rfl rfl rfl rfl rfl rfl rfl rfl rfl rfl ⟨_, rfl, ?_⟩)
            first | refine h0_yes rfl rfl rfl rfl (so_load (v := .d _) rfl rfl rfl rfl rfl rfl rfl rfl ⟨_, rfl, ?_⟩) | refine h0_yes rfl rfl rfl rfl (so_load (v := .own _ _ _ _ _) rfl rfl rfl rfl rfl rfl rfl rfl ⟨_, rfl, ?_⟩)
            refine h0_yes rfl rfl rfl rfl (st_move (v := .d _) rfl rfl rfl ⟨_, rfl, ?_⟩)
            refine h0_yes rfl rfl rfl rfl (so_indexSl rfl rfl rfl rfl rfl rfl rfl (T.rows_all _) (by omega) (by rw [T.rows_len]; omega) (T.rows_get _ _ hj) ⟨_, rfl, ?_⟩)
            generalize lb[j] = y at ihk ha ⊢
            obtain ⟨y1, y2, y3⟩ := y
            first | refine h0_yes rfl rfl rfl rfl (so_load (v := .d (.agg [_, _, _])) rfl rfl rfl rfl rfl rfl rfl rfl ⟨_, rfl, ?_⟩) | refine h0_yes rfl rfl rfl rfl (so_load (v := .agg [_, _, _]) rfl rfl rfl rfl rfl rfl rfl rfl ⟨_, rfl, ?_⟩)
            refine h0_nil ?_
            refine sops_yes rfl rfl rfl rfl (st_call rfl rfl (ihk) ⟨na_d _, na_d _, trivial⟩ rfl ?_)
            refine sops_yes rfl rfl rfl rfl (st_not rfl rfl rfl ?_)
            refine sops_go rfl (st_pick (v := .d _) rfl rfl rfl rfl ?_)
            refine sops_nil ?_
            refine swp_cond _ rfl (fun hc66 => ?_) (fun hc66 => ?_)
            · rw [show (T.mk x1 x2 x3).sub (T.mk y1 y2 y3) = false by simpa using hc66, Bool.false_and] at ha
              have hS := ha
              refine swp_seq ?_
              refine swp_region ?_
              refine sops_go rfl (st_assign (v := .d _) rfl rfl rfl ?_)
              refine sops_nil ?_
              refine swp_ret ?_
              with_reducible refine inblk_ret ?_
              with_reducible refine after_ret ?_
              with_reducible refine after_ret ?_
              with_reducible refine inblk_ret ?_
              with_reducible refine after_ret ?_
              with_reducible refine inblk_ret ?_
              with_reducible refine after_ret ?_
              exact fin_b rfl rfl hS
            · rw [show (T.mk x1 x2 x3).sub (T.mk y1 y2 y3) = true by simpa using hc66, Bool.true_and] at ha
              refine swp_skip ?_
              refine swp_region ?_
              refine sops_go rfl (st_bin rfl rfl rfl rfl rfl ?_)
              refine sops_go rfl (st_move (v := .d _) rfl rfl rfl ?_)
              refine sops_nil ?_
              refine ⟨k + 1, ⟨hlt, ha⟩, by omega, ?_⟩
              refine wk_of rfl (Nat.le_of_ble_eq_true rfl) (by rw [hB]; exact Nat.zero_le _) (tle_upd (le_eq (next_i64 hlt hvl) rfl) (tle_upd (le_eq rfl rfl) (tle_upd (le_eq rfl rfl) (tle_upd (le_eq rfl rfl) (tle_upd (le_eq rfl rfl) (tle_upd (le_eq rfl rfl) (tle_any _))))))) (hle_upd (.cells _ _ ⟨le_any _, le_any _, le_eq rfl rfl, trivial⟩) (hle_upd (.cells _ _ ⟨le_any _, le_any _, le_eq rfl rfl, trivial⟩) (hle_dead _))) (dead_upd (Nat.le_of_ble_eq_true rfl) (dead_upd (Nat.le_of_ble_eq_true rfl) (dead_none)))
        · have he : k = na.length := by have := of_decide_eq_false hc41; omega
          rw [he, List.drop_length, T.subU_nil] at ha
          have hS := ha
          refine swp_exit ?_
          with_reducible refine after_exit ?_
          with_reducible refine after_exit ?_
          refine inblk_hit ?_
          refine swp_seq ?_
          refine swp_region ?_
          refine sops_go rfl (st_assign (v := .d _) rfl rfl rfl ?_)
          refine sops_nil ?_
          refine swp_ret ?_
          with_reducible refine inblk_ret ?_
          with_reducible refine after_ret ?_
          exact fin_b rfl rfl hS
      · rw [if_neg (by rw [hc30]; simp), T.subR_eq] at hS
        refine swp_skip ?_
        refine swp_seq ?_
        refine swp_region ?_
        first | refine sops_go rfl (so_fieldAddr (v := .p _ _ _) rfl rfl rfl rfl rfl rfl rfl rfl rfl rfl ?_) | refine sops_go rfl (so_fieldAddr (v := .dp _ _) rfl rfl rfl rfl rfl rfl rfl rfl rfl rfl ?_) | refine sops_go rfl (so_fieldAddr (v := .pe _ _ _ _ _) rfl rfl rfl rfl rfl rfl rfl rfl rfl rfl ?_)
        first | refine sops_go rfl (so_load (v := .d _) rfl rfl rfl rfl rfl rfl rfl rfl ?_) | refine sops_go rfl (so_load (v := .own _ _ _ _ _) rfl rfl rfl rfl rfl rfl rfl rfl ?_)
        first | refine sops_go rfl (so_fieldAddr (v := .p _ _ _) rfl rfl rfl rfl rfl rfl rfl rfl rfl rfl ?_) | refine sops_go rfl (so_fieldAddr (v := .dp _ _) rfl rfl rfl rfl rfl rfl rfl rfl rfl rfl ?_) | refine sops_go rfl (so_fieldAddr (v := .pe _ _ _ _ _) rfl rfl rfl rfl rfl rfl rfl rfl rfl rfl ?_)
        first | refine sops_go rfl (so_load (v := .d _) rfl rfl rfl rfl rfl rfl rfl rfl ?_) | refine sops_go rfl (so_load (v := .own _ _ _ _ _) rfl rfl rfl rfl rfl rfl rfl rfl ?_)
        refine sops_go rfl (st_call rfl rfl (equalS_pure s s' na nb) ⟨na_d _, na_d _, trivial⟩ rfl ?_)
        refine sops_go rfl (st_move (v := .d _) rfl rfl rfl ?_)
        refine' sops_and (d := 73) (p := 79) [74, 75, 76, 77, 78] 6 rfl rfl rfl (fun hb73 => ?a73) (fun hb73 => ?b73) ?_
        case a73 =>
          first | refine sops_yes rfl rfl rfl rfl (so_fieldAddr (v := .p _ _ _) rfl rfl rfl rfl rfl rfl rfl rfl rfl rfl ?_) | refine sops_yes rfl rfl rfl rfl (so_fieldAddr (v := .dp _ _) rfl rfl rfl rfl rfl rfl rfl rfl rfl rfl ?_) | refine sops_yes rfl rfl rfl rfl (so_fieldAddr (v := .pe _ _ _ _ _) rfl rfl rfl rfl rfl rfl rfl rfl rfl rfl ?_)
          first | refine sops_yes rfl rfl rfl rfl (so_load (v := .d _) rfl rfl rfl rfl rfl rfl rfl rfl ?_) | refine sops_yes rfl rfl rfl rfl (so_load (v := .own _ _ _ _ _) rfl rfl rfl rfl rfl rfl rfl rfl ?_)
          first | refine sops_yes rfl rfl rfl rfl (so_fieldAddr (v := .p _ _ _) rfl rfl rfl rfl rfl rfl rfl rfl rfl rfl ?_) | refine sops_yes rfl rfl rfl rfl (so_fieldAddr (v := .dp _ _) rfl rfl rfl rfl rfl rfl rfl rfl rfl rfl ?_) | refine sops_yes rfl rfl rfl rfl (so_fieldAddr (v := .pe _ _ _ _ _) rfl rfl rfl rfl rfl rfl rfl rfl rfl rfl ?_)
          first | refine sops_yes rfl rfl rfl rfl (so_load (v := .d _) rfl rfl rfl rfl rfl rfl rfl rfl ?_) | refine sops_yes rfl rfl rfl rfl (so_load (v := .own _ _ _ _ _) rfl rfl rfl rfl rfl rfl rfl rfl ?_)
          refine sops_yes rfl rfl rfl rfl (st_call rfl rfl (equalFuncT_pure s s' la lb 20 [] T.sub (fun x hx y hy => by have := ih x hx y (ia.all x hx) (ib.all y hy) true true; rwa [← T.df_d, ← T.df_d] at this) rfl) ⟨na_d _, na_d _, na_free rfl, trivial⟩ rfl ?_)
          refine sops_go rfl (st_pick (v := .d _) rfl rfl rfl rfl ?_)
          refine sops_nil ?_
          exact ⟨rfl, rfl, rfl, rfl, [_, _, _, _, _], rfl, rfl⟩
        case b73 =>
          refine sops_no rfl rfl rfl rfl rfl ?_
          refine sops_no rfl rfl rfl rfl rfl ?_
          refine sops_no rfl rfl rfl rfl rfl ?_
          refine sops_no rfl rfl rfl rfl rfl ?_
          refine sops_no rfl rfl rfl rfl rfl ?_
          refine sops_go rfl (st_pick (v := .d _) rfl rfl rfl rfl ?_)
          refine sops_nil ?_
          exact ⟨rfl, rfl, rfl, rfl, [_, _, _, _, _], rfl, rfl⟩
        refine sops_go rfl (st_assign (v := .d _) rfl rfl rfl ?_)
        refine sops_nil ?_
        refine swp_ret ?_
        exact fin_b rfl rfl hS
end Go.Proofs.YtdcpnpcmgfmenaaDoor
