/-
  Regions that draw: the rule. Conditions: none.
-/
import Derived.Test.YtdcpnpcmgfmenaaDoorSk
set_option linter.unusedSimpArgs false
set_option linter.unusedVariables false
namespace Go.Proofs.YtdcpnpcmgfmenaaDoor.Lg
open Go Go.RowKit

def unl (listed : Array Bool) : Nat → Nat
  | 0 => 0
  | n + 1 => unl listed n + if listed.getD n false = true then 0 else 1
theorem unl_out {listed : Array Bool} {i : Nat} : ∀ {n : Nat}, n ≤ i → unl (listed.setIfInBounds i true) n = unl listed n
  | 0, _ => rfl
  | n + 1, h => by simp only [unl]; rw [unl_out (by omega), getD_set_ne false (by omega)]
theorem unl_set {listed : Array Bool} {i : Nat} (hs : i < listed.size) (hu : listed.getD i false = false) : ∀ {n : Nat}, i < n → unl (listed.setIfInBounds i true) n + 1 = unl listed n
  | n + 1, h => by
    simp only [unl]
    by_cases e : i = n
    · subst e
      have h1 : (listed.setIfInBounds i true).getD i false = true := by simp [hs]
      rw [unl_out (Nat.le_refl _), h1, hu]; simp
    · rw [getD_set_ne false e]
      have := unl_set hs hu (n := n) (by omega)
      omega
theorem unl_zero {listed : Array Bool} : ∀ {n : Nat}, unl listed n = 0 → ∀ i, i < n → listed.getD i false = true
  | n + 1, h, i, hi => by
    simp only [unl] at h
    by_cases e : i = n
    · subst e
      cases hl : listed.getD i false with
      | true => rfl
      | false => rw [hl] at h; simp at h
    · exact unl_zero (n := n) (by omega) i (by omega)
theorem unl_least {listed : Array Bool} : ∀ {n : Nat}, unl listed n ≠ 0 → ∃ i, i < n ∧ listed.getD i false = false ∧ ∀ j, j < i → listed.getD j false = true
  | 0, h => absurd rfl h
  | n + 1, h => by
    by_cases e : unl listed n = 0
    · refine ⟨n, by omega, ?_, unl_zero e⟩
      cases hl : listed.getD n false with
      | false => rfl
      | true => simp only [unl, e, hl] at h; simp at h
    · obtain ⟨i, h1, h2, h3⟩ := unl_least e
      exact ⟨i, by omega, h2, h3⟩

section
variable {dS : Option Nat} {E : Env} {B : Base} {Q : Exit → St → Prop} {σ : St} {ops : Array Oper}

/-- What the head's run is checked for, once. -/
structure Head (ops : Array Oper) (n : Nat) : Prop where
  hw : ∀ (i : Nat) (o : Oper), ops[i]? = some o → ∀ j ∈ waits o, j < i
  hdis : ∀ (i j : Nat) (o o' : Oper) (d : Nat), i < j → ops[i]? = some o → ops[j]? = some o' → o.dst = some d → o'.dst = some d → False
  hn : n ≤ ops.size
  tail : ∀ listed i, HeadInv .any ops n listed → i ∈ Region.ready .any ops listed → unl listed n ≠ 0 → i < n

theorem mem_waits {o : Oper} {j : Nat} : j ∈ waits o ↔ ∃ e ∈ o.after, Region.binds .any e = true ∧ e.on = j := by
  simp only [waits, List.mem_map, List.mem_filter, Array.mem_toList_iff]
  constructor
  · rintro ⟨e, ⟨h1, h2⟩, h3⟩; exact ⟨e, h1, h2, h3⟩
  · rintro ⟨e, h1, h2, h3⟩; exact ⟨e, ⟨h1, h2⟩, h3⟩

/-- The heap grows by what nobody looks at. -/
theorem rel_grow {g : G} {w : World} {a : Act} (hr : Rel E B g σ w a) (obj : Obj) : Rel E B g σ (w.alloc obj) a := by
  have hg := GLe.refl g σ.nx
  have hw : ∀ b, g.J b → (w.alloc obj).heap[b]? = w.heap[b]? := fun b hb => heap_alloc_lt w obj (hr.hr.Jlt b hb)
  refine ⟨hr.size, tm_mono (σ := σ) hr hg (Nat.le_refl _) hw, ⟨fun l hl => (hr.hr.hp l hl).mono hg (Nat.le_refl _) hw hl rfl (fun hd hv => heap_alloc_lt w obj (Owned.lt hr.hr ⟨l, hl, hd, hv, rfl⟩)), hr.hr.hd, hr.hr.inj, fun b hb => by have := hr.hr.Jlt b hb; simp; omega, hr.hr.IJ, hr.hr.dis, gl_mono hr.hr (fun _ h => h) (fun _ h => h) hw⟩, ?_, hr.df⟩
  have hx := hr.ext
  exact ⟨hx.os, hx.tape, hx.output, by simp; have := hx.size; omega, fun b h1 h2 => by rw [heap_alloc_lt w obj (by have := hx.size; omega)]; exact hx.block b h1 h2, hx.gle, hx.nle, hx.inew, hx.own⟩
theorem ext_J {g : G} {w w' : World} (hIJ : ∀ b, g.I b → g.J b) : ∀ b, (g.ext w w').J b → g.J b ∨ w.heap.size ≤ b := by
  rintro b (h | h | h)
  · exact .inl h
  · exact .inl (hIJ b h)
  · exact .inr h.1
theorem mk_J {g : G} {w w' : World} {l b0 c : Nat} {v : Bool} : ∀ b, (g.mk' l b0 c v w w').J b → g.J b ∨ w.heap.size ≤ b := by
  rintro b (h | h)
  · exact .inl h
  · exact .inr h.1
theorem owned_k {g : G} {n1 n2 : Nat} {h : Nat → AO} (hn : n1 = n2) {b : Nat} (ho : Owned g n1 h b) : Owned g n2 h b := by subst hn; exact ho

theorem head_run {n m : Nat} (hh : Head ops n) {tdF : Nat → AV} {hcF : Nat → AO} {lvF : List Nat} {mF : Nat} {Q' : Exit → Act → World → Prop} (hB : B.nx ≤ σ.nx)
    (hf : ∀ i o, i < n → ops[i]? = some o → Fact dS E ops (headDst ops n) σ tdF hcF lvF mF i o)
    (done : ∀ listed a w g k, HeadInv .any ops n listed → (∀ i, i < n → listed.getD i false = true) → MInv dS E B ops n σ tdF hcF lvF mF listed a w g k → wpAny E.P .any ops Q' m listed a w) :
    ∀ f listed a w g k, unl listed n = f → HeadInv .any ops n listed → MInv dS E B ops n σ tdF hcF lvF mF listed a w g k → wpAny E.P .any ops Q' (f + m) listed a w := by
  intro f
  induction f with
  | zero => intro listed a w g k h0 hi inv; rw [Nat.zero_add]; exact done listed a w g k hi (unl_zero h0) inv
  | succ f ih =>
    intro listed a w g k h0 hi inv
    rw [show f + 1 + m = (f + m) + 1 by omega]
    refine ⟨fun hr => ?_, fun i hir => ?_⟩
    · obtain ⟨i, h1, h2, h3⟩ := unl_least (listed := listed) (n := n) (by omega)
      have hlt : i < ops.size := by have := hh.hn; omega
      have : i ∈ Region.ready .any ops listed := by
        refine mem_ready.2 ⟨getD_in (by rw [hi.size]; exact hlt) h2, ops[i], Array.getElem?_eq_getElem hlt, fun e he hb => h3 _ (hh.hw i _ (Array.getElem?_eq_getElem hlt) _ (mem_waits.2 ⟨e, he, hb, rfl⟩))⟩
      rw [hr] at this; cases this
    · have hin := hh.tail listed i hi hir (by omega)
      obtain ⟨hun, o, ho, hall⟩ := mem_ready.1 hir
      have hs : i < listed.size := by rw [hi.size]; exact (Array.getElem?_eq_some_iff.1 ho).1
      have hall' : ∀ j ∈ waits o, listed.getD j false = true := fun j hj => by
        obtain ⟨e, h1, h2, h3⟩ := mem_waits.1 hj
        rw [← h3]; exact hall e h1 h2
      obtain ⟨hlk, hsr⟩ := rel_sight inv hB hin (hh.hw i o ho) hall'
      have hF := hf i o hin ho
      have hdis' : ∀ (i j : Nat) (o o' : Oper) (d : Nat), i ≠ j → ops[i]? = some o → ops[j]? = some o' → i < n → j < n → o.dst = some d → o'.dst = some d → False := by
        intro i j o o' d hij hi hj hin hjn hd hd'
        rcases Nat.lt_or_ge i j with h | h
        · exact hh.hdis i j o o' d h hi hj hd hd'
        · exact hh.hdis j i o' o d (by omega) hj hi hd' hd
      have next : ∀ a' w' g' k', MInv dS E B ops n σ tdF hcF lvF mF (listed.setIfInBounds i true) a' w' g' k' → wpAny E.P .any ops Q' (f + m) (listed.setIfInBounds i true) a' w' := fun a' w' g' k' inv' =>
        ih _ a' w' g' k' (by have := unl_set hs (getD_both hun) hin; omega) (hi.set hir hin) inv'
      have hJ0 : ∀ b, g.J b → b < w.heap.size := inv.rel.hr.Jlt
      have hOw : ∀ l, l < σ.nx + k → cut (σ.nx + k) hcF l ≠ .dead → g.vt l = false → g.ρ l < w.heap.size := fun l h1 h2 h3 => Owned.lt inv.rel.hr ⟨l, h1, h2, h3, rfl⟩
      unfold wpOp
      simp only [ho]
      rcases hF.way with ⟨hns, hr, hl, hv⟩ | ⟨hns, hr, hl, v, hq, hv⟩ | ⟨hns, hr, hl, hbe, v, ha, hne, hv⟩ | ⟨hsd, hl, hv⟩
      · rw [runs_ok hr hsr]
        simp only [Bool.false_eq_true, if_false]
        refine next _ w g k (minv_step inv ho hin hun hs hdis' (GLe.refl g _) (fun _ _ => rfl) (fun _ _ _ _ => rfl) (fun _ _ => rfl) (Nat.le_refl _) inv.kle (fun i' o' hi' ho' hl' => ?_) (by omega) (fun α _ _ => by omega) inv.rel hF.d (fun d hd => ?_) (fun _ _ => rfl) (fun _ h => .inl h) (fun _ h => .inl h) (fun h => (notS_side hns h).elim))
        · constructor
          · rintro (e | e)
            · subst e
              have : o' = o := Option.some.inj (ho'.symm.trans ho)
              subst this; omega
            · exact (inv.made i' o' hi' ho' hl').1 e
          · exact fun h => .inr ((inv.made i' o' hi' ho' hl').2 h)
        · rw [hv d hd]; exact .d _ _ (.v _)
      · rw [runs_ok hr hsr]
        simp only [if_true]
        refine .inl (hq B g w a hsr _ _ fun w' x hb hvx => ?_)
        refine next _ w' (g.ext w w') k (minv_step inv ho hin hun hs hdis' (gle_ext g _ w w') (fun b hb' => hb.block b (hJ0 b hb')) (fun l h1 h2 h3 => hb.block _ (hOw l h1 h2 h3)) (fun _ _ => rfl) (Nat.le_refl _) inv.kle (fun i' o' hi' ho' hl' => ?_) (by omega) (fun α _ _ => by omega) (rel_below inv.rel hb) hF.d (fun d hd => ?_) hb.block (ext_J inv.rel.hr.IJ) (fun b h => .inl h) (fun h => (notS_side hns h).elim))
        · constructor
          · rintro (e | e)
            · subst e
              have : o' = o := Option.some.inj (ho'.symm.trans ho)
              subst this; omega
            · exact (inv.made i' o' hi' ho' hl').1 e
          · exact fun h => .inr ((inv.made i' o' hi' ho' hl').2 h)
        · rw [hv d hd, hl]; exact hvx
      · rw [runs_ok hr hsr]
        simp only [if_true]
        have hk : k = lev lvF o := by
          have h1 := inv.made i o hin ho hl
          rw [getD_both hun] at h1
          have : ¬ lev lvF o < k := fun h => by have := h1.2 h; cases this
          omega
        left
        refine ha B g w a hsr _ _ fun w' x b c0 vt hb hbv hor hvr => ?_
        simp only [sight, ← hk] at hor hvr
        have hrel := rel_new (σ := mid ops n σ tdF hcF listed k) inv.rel hb b c0 vt hbv (hcF (σ.nx + k)) hor
        have hcut : upd (cut (σ.nx + k) hcF) (σ.nx + k) (hcF (σ.nx + k)) = cut (σ.nx + (k + 1)) hcF := by
          funext l
          simp only [upd, cut_if]
          split
          · rename_i e; subst e; rw [if_pos (by omega)]
          · rename_i e
            by_cases h : l < σ.nx + k
            · rw [if_pos h, if_pos (by omega)]
            · rw [if_neg h, if_neg (by omega)]
        have hmid : { mid ops n σ tdF hcF listed (k + 1) with t := (mid ops n σ tdF hcF listed k).t } = { mid ops n σ tdF hcF listed k with h := upd (mid ops n σ tdF hcF listed k).h (mid ops n σ tdF hcF listed k).nx (hcF (σ.nx + k)), nx := (mid ops n σ tdF hcF listed k).nx + 1 } := by
          simp only [mid, hcut, Nat.add_assoc]
        have hkm := hF.lm
        refine next _ _ (g.mk' (σ.nx + k) b c0 vt w w') (k + 1) (minv_step inv ho hin hun hs hdis' (gle_mk g (σ.nx + k) _ _ _ _ _) (fun b hb' => hb.block b (hJ0 b hb')) (fun l h1 h2 h3 => hb.block _ (hOw l h1 h2 h3)) (fun l hl => by simp [G.mk', G.at, upd, Nat.ne_of_lt hl]) (by omega) (by omega)
          (fun i' o' hi' ho' hl' => ?_) (by omega) (fun α h1 h2 => ?_) (by rw [hmid]; exact hrel) hF.d (fun d hd => ?_) hb.block mk_J (fun y h => ?_) (fun h => (notS_side hns h).elim))
        · by_cases e : i' = i
          · subst e
            have : o' = o := Option.some.inj (ho'.symm.trans ho)
            subst this
            simp; omega
          · have h1 := inv.made i' o' hi' ho' hl'
            have hne' : lev lvF o' ≠ k := fun he => by
              rcases Nat.lt_or_ge i' i with h | h
              · have := hbe i' h; omega
              · rcases (hf i' o' hi' ho').way with ⟨_, _, h2, _⟩ | ⟨_, _, h2, _⟩ | ⟨_, _, _, h2, _⟩ | ⟨_, h2, _⟩
                · omega
                · omega
                · have := h2 i (by omega); omega
                · omega
            constructor
            · rintro (h | h)
              · exact absurd h e
              · have := h1.1 h; omega
            · exact fun h => .inr (h1.2 (by omega))
        · obtain rfl : α = k := by omega
          exact hor
        · rw [hv d hd, hl, ← hk]; exact hvr
        · obtain ⟨l, hl1, hl2, hl3, hl4⟩ := h
          by_cases e : l = σ.nx + k
          · subst e
            right
            simp [G.mk', G.at, upd] at hl3 hl4
            rcases hbv with h | h
            · rw [h] at hl3; cases hl3
            · omega
          · left
            refine ⟨l, by omega, ?_, by simpa [G.mk', G.at, upd, e] using hl3, by simpa [G.mk', G.at, upd, e] using hl4⟩
            rw [cut_if, if_pos (by omega)] at hl2 ⊢
            exact hl2
      · obtain ⟨hg, t, z, d, hop, hz, hdst, hdS⟩ := hsd
        have hrun : Region.wanted o (yielded ops a.tmps) = true := by unfold Region.wanted; rw [hg]
        rw [hrun]
        simp only [if_true]
        obtain ⟨ti, hi1, hi2⟩ := Option.bind_eq_some_iff.1 hz
        have hexec : (execOp a.eval o).run E.P w = .ok (.value (.pointer (some ⟨w.heap.size, 0, none⟩))) (w.alloc (.cells z.cells t)) := by
          simp only [execOp, hop]
          exact run_v (by simp [Instr.alloc, zeroValue, typeInfo, program, hi1, hi2, newVar, newRow, newObj, Sem.run, Sem.bind, pure, bind])
        left
        unfold Oper.wp
        rw [hexec, Oper.upon_value]
        have hsz : d < a.tmps.size := by
          have h1 := inv.rel.size
          have h2 := hF.d
          rw [hdst] at h2
          rw [h1]; simpa [dlt, mid] using h2
        refine next _ _ g k (minv_step inv ho hin hun hs hdis' (GLe.refl g _) (fun b hb => heap_alloc_lt w _ (hJ0 b hb)) (fun l h1 h2 h3 => heap_alloc_lt w _ (hOw l h1 h2 h3)) (fun _ _ => rfl) (Nat.le_refl _) inv.kle (fun i' o' hi' ho' hl' => ?_) (by omega) (fun α _ _ => by omega) (rel_grow inv.rel _) hF.d (fun d hd => ?_) (fun b hb => heap_alloc_lt w _ hb) (fun _ h => .inl h) (fun _ h => .inl h) (fun _ => ?_))
        · constructor
          · rintro (e | e)
            · subst e
              have : o' = o := Option.some.inj (ho'.symm.trans ho)
              subst this; omega
            · exact (inv.made i' o' hi' ho' hl').1 e
          · exact fun h => .inr ((inv.made i' o' hi' ho' hl').2 h)
        · rw [hv d hd]; exact .any _
        · refine ⟨d, w.heap.size, t, z, hop, hz, hdst, ?_, heap_alloc_new w _, fun h => ?_, fun h => ?_, inv.rel.ext.size⟩
          · rw [hdst]; simp [Act.put, Array.getD_eq_getD_getElem?, hsz]
          · have := hJ0 _ h; omega
          · obtain ⟨l, h1, h2, h3, h4⟩ := h
            have := hOw l h1 h2 h3; omega

def otherDst : Option Nat → Option Nat → Bool
  | some d, some d' => !(Nat.beq d d')
  | _, _ => true

/-- What is looked at, once, in a region that draws: the head's places are distinct, everyone waits for earlier ones, and the tail for all. -/
def regD (ops : Array Oper) (n : Nat) : Bool :=
  ((List.range ops.size).all fun i => match ops[i]? with | some o => (waits o).all (Nat.blt · i) | none => true) &&
  ((List.range ops.size).all fun j => (List.range j).all fun i => otherDst ((ops[j]?).bind (·.dst)) ((ops[i]?).bind (·.dst))) &&
  Nat.ble n ops.size && (Nat.beq n ops.size || (Region.sinkB .any ops n && Region.chainB .any ops n)) &&
  Region.seqB .any ops (ops.size - n) n (((List.range ops.size).map fun i => Nat.blt i n).toArray)

theorem regD_head {n : Nat} (h : regD ops n = true) : Head ops n ∧ Region.seqB .any ops (ops.size - n) n (((List.range ops.size).map fun i => Nat.blt i n).toArray) = true := by
  simp only [regD, Bool.and_eq_true] at h
  obtain ⟨⟨⟨⟨h1, h2⟩, h3⟩, h4⟩, h5⟩ := h
  have hn : n ≤ ops.size := Nat.le_of_ble_eq_true h3
  refine ⟨⟨fun i o ho j hj => ?_, fun i j o o' d hij ho ho' hd hd' => ?_, hn, fun listed i hi hir hu => ?_⟩, h5⟩
  · have hlt := (Array.getElem?_eq_some_iff.1 ho).1
    have := List.all_eq_true.1 h1 i (List.mem_range.2 hlt)
    rw [ho] at this
    exact Nat.le_of_ble_eq_true (List.all_eq_true.1 this j hj)
  · have := List.all_eq_true.1 h2 j (List.mem_range.2 (Array.getElem?_eq_some_iff.1 ho').1)
    have := List.all_eq_true.1 this i (List.mem_range.2 hij)
    rw [ho', ho, Option.bind_some, Option.bind_some, hd', hd] at this
    simp [otherDst] at this
  · rcases Bool.or_eq_true_iff.1 h4 with h4 | h4
    · have : n = ops.size := Nat.eq_of_beq_eq_true h4
      obtain ⟨_, o, ho, _⟩ := mem_ready.1 hir
      rw [this]; exact (Array.getElem?_eq_some_iff.1 ho).1
    · simp only [Bool.and_eq_true] at h4
      obtain ⟨_, o, ho, _⟩ := mem_ready.1 hir
      have hlt := (Array.getElem?_eq_some_iff.1 ho).1
      rcases Nat.lt_or_ge i n with h | h
      · exact h
      · obtain ⟨j, g1, g2, _⟩ := unl_least hu
        exact absurd hir (tail_waits h4.1 h4.2 (by omega) hi _ j rfl g1 (getD_in (by rw [hi.size]; omega) g2) i h)

theorem doneDst_all {n : Nat} {listed : Array Bool} (h : ∀ i, i < n → listed.getD i false = true) : doneDst ops n listed = headDst ops n := by
  have key : ∀ (l : List Nat) (f g : Nat → Option Nat), (∀ i ∈ l, f i = g i) → l.filterMap f = l.filterMap g := by
    intro l f g
    induction l with
    | nil => intro _; rfl
    | cons x l ih => intro h; simp only [List.filterMap_cons, h x (by simp), ih (fun i hi => h i (by simp [hi]))]
  exact key _ _ _ fun i hi => by rw [h i (List.mem_range.1 hi), cond_true]

theorem rel_drawn {g : G} {w : World} {a : Act} (h : Rel E B g σ w a) : Rel E B g σ { w with drawn := w.drawn + 1 } a := by
  have hg := GLe.refl g σ.nx
  refine ⟨h.size, tm_mono (σ := σ) h hg (Nat.le_refl _) (fun _ _ => rfl), ⟨fun l hl => OR.mono (w := w) (w' := { w with drawn := w.drawn + 1 }) hg (Nat.le_refl _) (fun _ _ => rfl) hl rfl (fun _ _ => rfl) (h.hr.hp l hl), h.hr.hd, h.hr.inj, h.hr.Jlt, h.hr.IJ, h.hr.dis, gl_mono h.hr (fun _ h => h) (fun _ h => h) (fun _ _ => rfl)⟩, ?_, h.df⟩
  have hx := h.ext
  exact ⟨hx.os, hx.tape, hx.output, hx.size, hx.block, hx.gle, hx.nle, hx.inew, hx.own⟩

theorem region_core {id : Nat} {l : List Oper} (n : Nat) {wr : List Nat} {hd tl : List Oper} (hchk : regD l.toArray n = true) (hwr : headDst l.toArray n = wr) (hhd : l.take n = hd) (htl : l.drop n = tl) {K : (Nat → AV) → (Nat → AO) → Nat → Prop}
    (hK : ∀ td hc m g w a, K td hc m → Rel E B g { t := td, n := σ.n, h := hc, nx := σ.nx + m } w a → (∀ i o, i < n → l.toArray[i]? = some o → SideOp E dS o → SideAt E B o a w g (σ.nx + m) hc) → wpList E.P l.toArray (QC E B Q) tl a w)
    (h : HOps dS E B Q l.toArray wr σ K hd [] σ.t σ.h 0) : SWP E B (.region id l.toArray true) Q σ := by
  subst hwr; subst hhd; subst htl
  obtain ⟨hh, hseq⟩ := regD_head hchk
  intro g w a hr
  have hr := rel_drawn hr
  have hnl : n ≤ l.length := by have := hh.hn; simpa using this
  have htl : (l.take n).length = n := by simp; omega
  obtain ⟨tdF, hcF, mF, lvF, e1, e2, e7, e8, e3, e4, e5, e6⟩ := hops_facts hh.hw hh.hdis (l.take n) 0 [] σ.t σ.h 0 (fun k hk => by rw [htl] at hk; simp [hk]) rfl (fun j => by simp) (fun x hx => hr.hr.hd x (by omega)) h
  have hB : B.nx ≤ σ.nx := hr.ext.nle
  have hf : ∀ i o, i < n → l.toArray[i]? = some o → Fact dS E l.toArray (headDst l.toArray n) σ tdF hcF lvF mF i o := fun i o hi ho => by
    have := e6 i o (by rw [htl]; exact hi) (by rw [Nat.zero_add]; exact ho)
    rwa [Nat.zero_add] at this
  have hlist0 : ∀ i, (Array.replicate l.toArray.size false).getD i false = false := fun i => getD_replicate_false _ _
  have hcell : ∀ x, x < σ.nx → hcF x = σ.h x := fun x hx => e5 x (by omega)
  have hcut0 : cut (σ.nx + 0) hcF = σ.h := by
    funext x
    rw [cut_if]
    split
    · exact hcell x (by omega)
    · exact (hr.hr.hd x (by omega)).symm
  have hcut1 : cut σ.nx hcF = σ.h := hcut0
  have hnone : doneDst l.toArray n (Array.replicate l.toArray.size false) = [] := by
    unfold doneDst
    rw [List.filterMap_eq_nil_iff]
    intro i _
    rw [hlist0 i]; rfl
  have inv0 : MInv dS E B l.toArray n σ tdF hcF lvF mF (Array.replicate l.toArray.size false) a { w with drawn := w.drawn + 1 } g 0 := by
    refine ⟨Nat.zero_le _, fun i o hi ho hl => ?_, fun i hi hl => (by rw [hlist0] at hl; cases hl), ⟨hr.size, fun d => ?_, by have := hr.hr; simpa [mid, hcut1] using this, by have := hr.ext; simpa [mid, hcut1] using this, hr.df⟩, fun d _ => hr.tm d, fun i o d hi hl => (by rw [hlist0] at hl; cases hl), fun x hx => (by rw [hcell x hx]; exact hr.hr.hp x hx), fun α hα => by omega, fun i o _ hl => (by rw [hlist0] at hl; cases hl)⟩
    · rw [hlist0]; constructor
      · intro h; cases h
      · intro h; omega
    · simp only [mid, hnone]
      cases has (headDst l.toArray n) d with
      | false => exact hr.tm d
      | true => exact .any _
  have hi0 : HeadInv .any l.toArray n (Array.replicate l.toArray.size false) :=
    ⟨by simp, fun j oj _ hl => (by rw [getD_replicate_false] at hl; cases hl), fun t _ ht => getD_in (by simpa using ht) (getD_replicate_false _ _)⟩
  have hu0 : ∀ m, unl (Array.replicate l.toArray.size false) m = m := by
    intro m
    induction m with
    | zero => rfl
    | succ m ih => simp only [unl, ih, hlist0]; simp
  refine wp_region_any E.mixed ?_
  have key := head_run (m := l.toArray.size - n) (Q' := QC E B Q) hh hB hf (fun listed a' w' g' k hi hall inv => ?_) n _ a _ g 0 (hu0 n) hi0 inv0
  · rwa [show n + (l.toArray.size - n) = l.toArray.size by have := hh.hn; omega] at key
  · have hk : k = mF := by
      have h1 := inv.kle
      rcases Nat.lt_or_ge k mF with h | h
      · exfalso
        obtain ⟨i, o, g1, g2, g3, g4⟩ := e8 k (Nat.zero_le _) h
        rw [Nat.zero_add] at g2 g3
        have hin : i < n := by rw [htl] at g1; exact g1
        have := (inv.made i o hin g2 g3).1 (hall i hin)
        omega
      · omega
    subst hk
    have hlisted : listed = ((List.range l.toArray.size).map fun i => Nat.blt i n).toArray := by
      apply Array.ext
      · simp [hi.size]
      · intro i h1 h2
        simp only [List.getElem_toArray, List.getElem_map, List.getElem_range]
        have his : i < l.toArray.size := by simpa using h2
        rcases Nat.lt_or_ge i n with h | h
        · have := hall i h
          have e : Nat.blt i n = true := Nat.ble_eq_true_of_le h
          rw [e]; simpa [h1] using this
        · have := hi.tail i h his
          have e : Nat.blt i n = false := by
            cases hb : Nat.blt i n with
            | false => rfl
            | true => have : i < n := Nat.le_of_ble_eq_true hb; omega
          rw [e]; simpa [h1] using this
    have hfin : mid l.toArray n σ tdF hcF listed k = { t := tdF, n := σ.n, h := hcF, nx := σ.nx + k } := by
      unfold mid
      congr 1
      · funext d
        rw [doneDst_all hall]
        cases hd : has (headDst l.toArray n) d with
        | true => rfl
        | false =>
          simp only [cond_false]
          refine (e4 d fun i o hi ho hd' => ?_).symm
          have : has (headDst l.toArray n) d = true := has_iff.2 (List.mem_filterMap.2 ⟨i, List.mem_range.2 (by rw [htl] at hi; exact hi), by rw [Nat.zero_add] at ho; rw [ho]; exact hd'⟩)
          rw [this] at hd; cases hd
      · funext x
        rw [cut_if]
        split
        · rfl
        · exact (e7 x (by omega)).symm
    have hrel := inv.rel
    rw [hfin] at hrel
    have hcutF : cut (σ.nx + k) hcF = hcF := by
      funext x
      rw [cut_if]
      split
      · rfl
      · exact (e7 x (by omega)).symm
    have htail := hK _ _ _ g' w' a' e1 hrel (fun i o hi ho hs => by have := inv.side i o hi (hall i hi) ho hs; rwa [hcutF] at this)
    have hdl : (l.drop n).length = l.toArray.size - n := by simp
    have := wpAny_of_seq (md := .any) (Q' := QC E B Q) (l.drop n) n listed a' w' (fun j => by simp [List.getElem?_drop]) (by rw [hdl, hlisted]; exact hseq) htail
    rwa [hdl] at this

theorem swp_regionD {id : Nat} {l : List Oper} (n : Nat) {wr : List Nat} {hd tl : List Oper} (hchk : regD l.toArray n = true) (hwr : headDst l.toArray n = wr) (hhd : l.take n = hd) (htl : l.drop n = tl)
    (h : HOps none E B Q l.toArray wr σ (fun td hc m => SOps E B l.toArray tl Q { t := td, n := σ.n, h := hc, nx := σ.nx + m }) hd [] σ.t σ.h 0) : SWP E B (.region id l.toArray true) Q σ :=
  region_core n hchk hwr hhd htl (fun td hc m g w a hk hr _ => hk g w a hr) h

/-- A block that nobody told of becomes an object. -/
theorem rel_adopt {g : G} {w : World} {a : Act} (hr : Rel E B g σ w a) {b : Nat} {t : TypeId} {z : Value} (hb : w.heap[b]? = some (.cells z.cells t (0, 0))) (hJ : ¬ g.J b) (hO : ¬ Owned g σ.nx σ.h b) (hB : B.w.heap.size ≤ b) :
    Rel E B (g.at σ.nx b 0 false) { σ with h := upd σ.h σ.nx (.cells (zcells z)), nx := σ.nx + 1 } w a := by
  have hg := gle_at g σ.nx b 0 false
  have hold : ∀ y, Owned (g.at σ.nx b 0 false) (σ.nx + 1) (upd σ.h σ.nx (.cells (zcells z))) y → Owned g σ.nx σ.h y ∨ y = b := by
    rintro y ⟨l, hl, hd, hv, hy⟩
    by_cases e : l = σ.nx
    · subst e; right; simpa [G.at, upd] using hy.symm
    · left
      have hl' : l < σ.nx := by omega
      exact ⟨l, hl', by simpa [upd, e] using hd, by simpa [G.at, upd, e] using hv, by simpa [G.at, upd, e] using hy⟩
  have hlt : b < w.heap.size := (Array.getElem?_eq_some_iff.1 hb).1
  refine ⟨hr.size, tm_mono (σ := σ) hr hg (Nat.le_succ _) (fun _ _ => rfl), ⟨?_, ?_, ?_, hr.hr.Jlt, hr.hr.IJ, ?_, gl_mono hr.hr hg.I hg.J (fun _ _ => rfl)⟩, ?_, hr.df⟩
  · intro l hl
    by_cases e : l = σ.nx
    · subst e; simp only [upd, if_true]
      obtain ⟨h1, h2⟩ := zcells_ok z w (g.at σ.nx b 0 false) (σ.nx + 1)
      exact ⟨by simp [G.at, upd], by simp [G.at, upd], z.cells, t, by simpa [G.at, upd] using hb, h1, h2⟩
    · have hl' : l < σ.nx := by simp at hl; omega
      simp only [upd, e, if_false]
      exact (hr.hr.hp l hl').mono hg (Nat.le_succ _) (fun _ _ => rfl) hl' (by simp [G.at, upd, e]) (fun _ _ => rfl)
  · intro l hl
    simp at hl
    simp only [upd]; rw [if_neg (by omega)]; exact hr.hr.hd l (by omega)
  · intro l l' hl hl' hd hd' hv hv' he
    simp only at hl hl'
    by_cases e : l = σ.nx
    · by_cases e' : l' = σ.nx
      · rw [e, e']
      · exfalso
        refine hO ⟨l', by omega, by simpa [upd, e'] using hd', by simpa [G.at, upd, e'] using hv', ?_⟩
        simpa [G.at, upd, e, e'] using he.symm
    · by_cases e' : l' = σ.nx
      · exfalso
        refine hO ⟨l, by omega, by simpa [upd, e] using hd, by simpa [G.at, upd, e] using hv, ?_⟩
        simpa [G.at, upd, e, e'] using he
      · exact hr.hr.inj l l' (by omega) (by omega) (by simpa [upd, e] using hd) (by simpa [upd, e'] using hd') (by simpa [G.at, upd, e] using hv) (by simpa [G.at, upd, e'] using hv') (by simpa [G.at, upd, e, e'] using he)
  · intro y hy ho
    rcases hold y ho with h | h
    · exact hr.hr.dis y hy h
    · exact hJ (h ▸ hy)
  · have hx := hr.ext
    refine ⟨hx.os, hx.tape, hx.output, hx.size, hx.block, hx.gle.trans hx.nle hg, by have := hx.nle; simp; omega, hx.inew, fun y hy => ?_⟩
    rcases hold y hy with h | h
    · exact hx.own y h
    · right; rw [h]; exact hB

/-- The same, where one object is made that nobody in the head looks at. -/
theorem swp_regionS {id : Nat} {l : List Oper} (n i dS : Nat) {wr : List Nat} {hd tl : List Oper} (hchk : regD l.toArray n = true) (hwr : headDst l.toArray n = wr) (hhd : l.take n = hd) (htl : l.drop n = tl)
    {o : Oper} {t : TypeId} {z : Value} (hi : Nat.blt i n = true) (ho : l[i]? = some o) (hop : o.op = .alloc t) (hg : o.guard = none) (hdst : o.dst = some dS) (hz : (E.P.info? t).bind (·.zero) = some z) (hdl : Nat.blt dS σ.n = true)
    (h : HOps (some dS) E B Q l.toArray wr σ (fun td hc m => SOps E B l.toArray tl Q { t := upd td dS (.p (σ.nx + m) 0 0), n := σ.n, h := upd hc (σ.nx + m) (.cells (zcells z)), nx := σ.nx + m + 1 }) hd [] σ.t σ.h 0) : SWP E B (.region id l.toArray true) Q σ :=
  region_core n hchk hwr hhd htl (fun td hc m g w a hk hr hs => by
    obtain ⟨d, b, t', z', h1, h2, h3, h4, h5, h6, h7, h8⟩ := hs i o (Nat.le_of_ble_eq_true hi) (by simpa using ho) ⟨hg, t, z, dS, hop, hz, hdst, rfl⟩
    rw [hop] at h1
    injection h1 with h1
    subst h1
    rw [hz] at h2
    injection h2 with h2
    subst h2
    rw [hdst] at h3
    injection h3 with h3
    subst h3
    have hr' := rel_adopt hr h5 h6 h7 h8
    have h9 : VR w (g.at (σ.nx + m) b 0 false) (σ.nx + m + 1) (.p (σ.nx + m) 0 0) (.pointer (some ⟨b, 0, none⟩)) := .p _ _ _ _ rfl (by omega) (by simp [G.at, upd]) (fun _ => by simp [G.at, upd])
    refine hk _ w a ⟨hr'.size, fun x => ?_, hr'.hr, hr'.ext, hr'.df⟩
    by_cases e : x = dS
    · subst e; simp only [upd_same]; rw [h4]; exact h9
    · simp only [upd_ne _ _ _ e]; exact hr'.tm x) h
end
end Go.Proofs.YtdcpnpcmgfmenaaDoor.Lg
