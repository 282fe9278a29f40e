/-
  Walks: where names stand. Conditions: none.
-/
import Derived.Test.YtdcpnpcmgfmenaaDoorLw
set_option linter.unusedVariables false
set_option maxRecDepth 100000
namespace Go.Proofs.YtdcpnpcmgfmenaaDoor
open Go Go.Proofs.YtdcpnpcmgfmenaaDoor.Lg

/-- A map, written to. -/
def mput : List (ByteArray × Nat) → ByteArray → Nat → List (ByteArray × Nat)
  | [], s, i => [(s, i)]
  | p :: r, s, i => if p.1 = s then (s, i) :: r else p :: mput r s i
def encM (es : List (ByteArray × Nat)) : List (Value × Value) := es.map fun p => (.string p.1, .int .i64 p.2)
def placesFrom : List ByteArray → Nat → List (ByteArray × Nat) → List (ByteArray × Nat)
  | [], _, es => es
  | s :: r, i, es => placesFrom r (i + 1) (mput es s i)
def placesOf (l : List ByteArray) : List (ByteArray × Nat) := placesFrom l 0 []

theorem mput_new : ∀ (es : List (ByteArray × Nat)) (s : ByteArray) (i : Nat), (∀ p ∈ es, p.1 ≠ s) → mput es s i = es ++ [(s, i)]
  | [], _, _, _ => rfl
  | p :: r, s, i, h => by
    simp only [mput]
    rw [if_neg (h p (by simp)), mput_new r s i (fun q hq => h q (by simp [hq]))]; rfl
theorem mput_old : ∀ (es : List (ByteArray × Nat)) (s : ByteArray) (i j v : Nat), (es.map (·.1)).Nodup → es[j]? = some (s, v) → mput es s i = es.set j (s, i)
  | p :: r, s, i, 0, v, _, h => by
    simp at h; subst h
    simp [mput]
  | p :: r, s, i, j + 1, v, hn, h => by
    have h' : r[j]? = some (s, v) := by simpa using h
    have hne : p.1 ≠ s := fun e => by
      have := (List.nodup_cons.1 (show (p.1 :: r.map (·.1)).Nodup from hn)).1
      exact this (List.mem_map.2 ⟨(s, v), List.mem_of_getElem? h', e.symm⟩)
    simp only [mput, if_neg hne, List.set_cons_succ]
    rw [mput_old r s i j v (List.nodup_cons.1 (show (p.1 :: r.map (·.1)).Nodup from hn)).2 h']
theorem mput_keys : ∀ (es : List (ByteArray × Nat)) (s : ByteArray) (i : Nat), (es.map (·.1)).Nodup → ((mput es s i).map (·.1)).Nodup ∧ ∀ x, x ∈ (mput es s i).map (·.1) ↔ x = s ∨ x ∈ es.map (·.1)
  | [], s, i, _ => by simp [mput]
  | p :: r, s, i, h => by
    have h1 := List.nodup_cons.1 (show (p.1 :: r.map (·.1)).Nodup by simpa using h)
    simp only [mput]
    split
    · rename_i e
      subst e
      refine ⟨by simpa using h, fun x => by simp⟩
    · rename_i e
      obtain ⟨g1, g2⟩ := mput_keys r s i h1.2
      refine ⟨?_, fun x => ?_⟩
      · simp only [List.map_cons, List.nodup_cons]
        refine ⟨fun hm => ?_, g1⟩
        rcases (g2 p.1).1 hm with h | h
        · exact e h
        · exact h1.1 h
      · simp only [List.map_cons, List.mem_cons, g2]
        constructor
        · rintro (h | h | h)
          · exact .inr (.inl h)
          · exact .inl h
          · exact .inr (.inr h)
        · rintro (h | h | h)
          · exact .inr (.inl h)
          · exact .inl h
          · exact .inr (.inr h)
theorem placesFrom_take : ∀ (l : List ByteArray) (i : Nat) (es : List (ByteArray × Nat)) (k : Nat) (h : k < l.length), placesFrom (l.take (k + 1)) i es = mput (placesFrom (l.take k) i es) l[k] (i + k)
  | s :: r, i, es, 0, _ => by simp [placesFrom]
  | s :: r, i, es, k + 1, h => by
    simp only [List.take_succ_cons, placesFrom, List.getElem_cons_succ]
    rw [placesFrom_take r (i + 1) _ k (by simpa using h)]
    congr 1; omega
theorem placesFrom_nodup : ∀ (l : List ByteArray) (i : Nat) (es : List (ByteArray × Nat)), (es.map (·.1)).Nodup → ((placesFrom l i es).map (·.1)).Nodup
  | [], _, _, h => h
  | s :: r, i, es, h => placesFrom_nodup r (i + 1) _ (mput_keys es s i h).1

def encA (es : List (ByteArray × Nat)) : List (Value × AV) := (encM es).map fun p => (p.1, .d (.v p.2))
theorem encA_get (es : List (ByteArray × Nat)) (j : Nat) (s : ByteArray) (v : AV) (h : (encA es)[j]? = some (.string s, v)) : ∃ n, es[j]? = some (s, n) := by
  simp only [encA, encM, List.getElem?_map, Option.map_map, Option.map_eq_some_iff] at h
  obtain ⟨p, hp, he⟩ := h
  simp only [Function.comp, Prod.mk.injEq, Value.string.injEq] at he
  exact ⟨p.2, by rw [hp, ← he.1]⟩
theorem encA_new {es : List (ByteArray × Nat)} {s : ByteArray} (h : ∀ p ∈ encA es, p.1 ≠ Value.string s) : ∀ p ∈ es, p.1 ≠ s := fun p hp he =>
  h (.string p.1, .d (.v (.int .i64 p.2))) (by simp only [encA, encM, List.map_map]; exact List.mem_map.2 ⟨p, hp, rfl⟩) (by rw [he])
theorem encA_keys (es : List (ByteArray × Nat)) : ∀ p ∈ encA es, Go.MapKept.IsKey .string p.1 := by
  intro p hp
  simp only [encA, encM, List.map_map] at hp
  obtain ⟨q, _, rfl⟩ := List.mem_map.1 hp
  trivial

theorem so_mapPut {B : Base} {Q : Exit → St → Prop} {σ : St} {o : Oper} {K : St → Prop} {E : Env} {t : TypeId} {x ix y : Operand} (ho : o.op = .mapUpdate t x ix y) {i : TI} (hi : E.ti t = some i) {kt et : TypeId} (ht : i.desc = .map kt et) {jk : TI} (hjk : E.ti kt = some jk) (hd' : jk.desc = .string)
    {l : Nat} (hx : ev E σ x = .map l) {es : List (ByteArray × Nat)} (hl : σ.h l = .map (encA es)) {s : ByteArray} (hk : ev E σ ix = .d (.v (.string s))) {n : Nat} (hy : ev E σ y = .d (.v (.int .i64 n))) (hd : dlt o.dst σ.n = true) (hnd : (es.map (·.1)).Nodup)
    (hK : K (St.put { σ with h := upd σ.h l (.map (encA (mput es s n))) } o.dst .any)) : Step .all E B o K Q σ := by
  refine so_mapUpdate ho hi ht hjk hx hl hk (by rw [hd']; trivial) (by rw [hd']; exact encA_keys es) hd (fun h0 => ?_) (fun j v h1 => ?_)
  · have e : encA es ++ [(.string s, ev E σ y)] = encA (mput es s n) := by
      rw [mput_new es s n (encA_new h0), hy]; simp [encA, encM]
    rw [e]; exact hK
  · obtain ⟨m, hm⟩ := encA_get es j s v h1
    have e : (encA es).set j (.string s, ev E σ y) = encA (mput es s n) := by
      rw [mput_old es s n j m hnd hm, hy]; simp [encA, encM, List.map_set]
    rw [e]; exact hK

theorem places_pure (s : Bool) (l : List ByteArray) : Pure env 32 [.d (.sl s (strRows l))] (.d (.map (encM (placesOf l)))) := by
  refine pure_of_body Tryd.func32 rfl rfl rfl fun B hB => ?_
  refine swp_lenT (i := 0) rfl fun hlen => ?_
  rw [strRows_len] at hlen
  refine swp_seq ?_
  refine swp_region ?_
  first | refine sops_go rfl (st_assign (v := .map _) rfl rfl rfl ?_) | refine sops_go rfl (st_assign (v := .d _) rfl rfl rfl ?_)
  refine sops_nil ?_
  refine swp_seq ?_
  refine swp_region ?_
  -- hand: makeMap 56 none
  refine sops_go rfl (so_makeMap rfl rfl ?_)
  first | refine sops_go rfl (st_assign (v := .map _) rfl rfl rfl ?_) | refine sops_go rfl (st_assign (v := .d _) rfl rfl rfl ?_)
  refine sops_nil ?_
  refine swp_seq ?_
  refine swp_seq ?_
  refine swp_region ?_
  first | refine sops_go rfl (st_move (v := .d _) rfl rfl rfl ?_) | refine sops_go rfl (st_move (v := .own _ _ _ _ _) rfl rfl rfl ?_)
  refine sops_go rfl (so_lenSl rfl rfl rfl rfl rfl ?_)
  refine sops_go rfl (st_move (v := .d _) rfl rfl rfl ?_)
  refine sops_nil ?_
  refine swp_block ?_
  -- loop
  refine swp_loopF (F := fun k : Nat => { t := upd (upd (upd (upd (fun _ => .any) 3 (.map 0)) 7 (.d (.sl s (strRows l)))) 8 (.d (.v (.int .i64 l.length)))) 9 (.d (.v (.int .i64 k))), n := 19, h := upd (fun _ => .dead) 0 (.map (encA (placesFrom (l.take k) 0 []))), nx := 1 })
    (fun k => k ≤ l.length) (fun k => l.length - k) 0 (Nat.zero_le _) ?_ ?_
  · refine wk_of rfl (Nat.le_of_ble_eq_true rfl) (by rw [hB]; exact Nat.zero_le _) (tle_upd (le_eq rfl rfl) (tle_upd (le_eq (int_eq (by rw [strRows_len])) rfl) (tle_upd (le_eq rfl rfl) (tle_upd (le_eq rfl rfl) (tle_any _))))) (hle_upd (.map _ _ rfl (by intro p hp; cases hp)) (hle_dead _)) (dead_upd (Nat.le_of_ble_eq_true rfl) (dead_none))
  intro k hk
  refine swp_seq ?_
  refine swp_region ?_
  refine sops_go rfl (st_bin rfl rfl rfl rfl rfl ?_)
  refine sops_nil ?_
  refine swp_seq ?_
  -- cond
  refine swp_cond _ rfl (fun hc => ?_) (fun hc => ?_)
  · have hlt : k < l.length := by have := of_decide_eq_true hc; omega
    refine swp_skip ?_
    refine swp_seq ?_
    refine swp_block ?_
    refine swp_seq ?_
    refine swp_region ?_
    refine sops_go rfl (st_move (v := .d _) rfl rfl rfl ?_)
    -- hand: indexAddr 23 t7 t9
    refine sops_go rfl (so_indexSl rfl rfl rfl rfl rfl rfl rfl (strRows_all _) (by omega) (by rw [strRows_len]; omega) (strRows_get _ _ hlt) ?_)
    refine sops_go rfl (so_load (v := .d _) rfl rfl rfl rfl rfl rfl rfl rfl ?_)
    refine sops_go rfl (st_assign (v := .d _) rfl rfl rfl ?_)
    refine sops_go rfl (st_assign (v := .d _) rfl rfl rfl ?_)
    refine sops_nil ?_
    refine swp_region ?_
    first | refine sops_go rfl (st_move (v := .map _) rfl rfl rfl ?_) | refine sops_go rfl (st_move (v := .d _) rfl rfl rfl ?_)
    refine sops_go rfl (st_move (v := .d _) rfl rfl rfl ?_)
    refine sops_go rfl (st_move (v := .d _) rfl rfl rfl ?_)
    -- hand: mapUpdate 56 t14 t15 t16
    have hnd := placesFrom_nodup (l.take k) 0 [] (by simp)
    have hput := placesFrom_take l 0 [] k hlt
    refine sops_go rfl (so_mapPut rfl rfl rfl rfl rfl rfl rfl rfl rfl rfl hnd ?_)
    refine sops_nil ?_
    refine swp_region ?_
    refine sops_go rfl (st_bin rfl rfl rfl rfl rfl ?_)
    refine sops_go rfl (st_move (v := .d _) rfl rfl rfl ?_)
    refine sops_nil ?_
    -- loopend
    refine ⟨k + 1, hlt, by omega, ?_⟩
    refine wk_of rfl (Nat.le_of_ble_eq_true rfl) (by rw [hB]; exact Nat.zero_le _) (tle_upd (le_eq (next_i64 hlt hlen) rfl) (tle_upd (le_eq rfl rfl) (tle_upd (le_eq rfl rfl) (tle_upd (le_eq rfl rfl) (tle_any _))))) (hle_upd (.map _ _ (by rw [hput, Nat.zero_add]) (by intro p hp; simp only [encA, encM, List.map_map] at hp; obtain ⟨q, _, rfl⟩ := List.mem_map.1 hp; rfl)) (hle_dead _)) (dead_upd (Nat.le_of_ble_eq_true rfl) (dead_none))
  · refine swp_exit ?_
    with_reducible refine after_exit ?_
    with_reducible refine after_exit ?_
    refine inblk_hit ?_
    refine swp_seq ?_
    refine swp_region ?_
    first | refine sops_go rfl (st_move (v := .map _) rfl rfl rfl ?_) | refine sops_go rfl (st_move (v := .d _) rfl rfl rfl ?_)
    first | refine sops_go rfl (st_assign (v := .map _) rfl rfl rfl ?_) | refine sops_go rfl (st_assign (v := .d _) rfl rfl rfl ?_)
    refine sops_nil ?_
    refine swp_ret ?_
    -- ret
    have : k = l.length := by have := of_decide_eq_false hc; omega
    refine ⟨.inl rfl, .inl ⟨2, rfl, ?_⟩⟩
    refine ra_map ?_
    show AO.map (encA (placesFrom (l.take k) 0 [])) = _
    rw [this, List.take_length]; rfl
end Go.Proofs.YtdcpnpcmgfmenaaDoor
