/-
  Elements, lengths, cuts, reckoning, maps. Conditions: none.
-/
import Derived.Test.YtdcpnpcmgfmenaaDoorSf
set_option linter.unusedSimpArgs false
set_option linter.unusedVariables false
namespace Go.Proofs.YtdcpnpcmgfmenaaDoor.Lg
open Go Go.RowKit

section
variable {E : Env} {B : Base} {Q : Exit → St → Prop} {σ : St} {o : Oper} {K : St → Prop}

theorem vr_int {w : World} {g : G} {nx : Nat} {k : IntKind} {n : Int} {x : Value} (h : VR w g nx (.d (.v (.int k n))) x) : x = .int k n := vr_val h
theorem vr_str {w : World} {g : G} {nx : Nat} {s : ByteArray} {x : Value} (h : VR w g nx (.d (.v (.string s))) x) : x = .string s := vr_val h

/-! ### Elements -/
theorem st_indexSl {q : Md} [Qt q] {t : TypeId} {x ix : Operand} (ho : o.op = .indexAddr t x ix) {e : TypeId} (ht : E.P.underlying t = some (.slice e)) {s : Bool} {es : List (List D)} (hx : ev E σ x = .d (.sl s es))
    {k : IntKind} {i : Int} (hi : ev E σ ix = .d (.v (.int k i))) {sz : Nat} (hsz : (E.P.info? e).map (·.size) = some sz) (hall : ∀ r ∈ es, r.length = sz) (h0 : 0 ≤ i) (h1 : i < es.length)
    (hd : dlt o.dst σ.n = true) (hK : K (σ.put o.dst (.dp (es.getD i.toNat []) 0))) : Step q E B o K Q σ := by
  refine step_val _ (fun B g w a hr => ?_) hd hK
  have hx' := ev_ok hr x
  have hi' := ev_ok hr ix
  rw [hx] at hx'
  rw [hi] at hi'
  have hd' := vr_data hx'
  have hlt : i.toNat < es.length := by omega
  generalize hax : a.eval x = ax at hd'
  cases hd' with
  | nil => simp at h1; omega
  | sl _ _ b off c f g1 g2 g3 g4 g5 =>
    refine ⟨.pointer (some ⟨b, off + i.toNat * sz, none⟩), ?_, ?_⟩
    · simp only [execOp, ho]
      refine run_v ?_
      simp only [Instr.indexAt, vr_int hi', asIntOf, Sem.run_bind, Sem.run_pure, Result.andThen_ok, run_underlying ht, hax, h0, h1, and_self, if_true, run_sizeOf hsz, add_mk]
    · have hrow : es[i.toNat]? = some (es.getD i.toNat []) := by simp [List.getD, hlt]
      have hl : (es.getD i.toNat []).length = sz := hall _ (List.mem_of_getElem? hrow)
      have hfl : ∀ (j : Nat) c, (es.getD i.toNat [])[j]? = some c → es.flatten[i.toNat * sz + j]? = some c := fun j c hc => by
        rw [flat_at hall hrow (by rw [← hl]; exact (List.getElem?_eq_some_iff.1 hc).1)]; exact hc
      exact .dp _ 0 b (off + i.toNat * sz) (fun j => f (i.toNat * sz + j)) g2 (fun j c hc => by rw [Nat.add_assoc]; exact g4 _ c (hfl j c hc)) (fun j c hc => g5 _ c (hfl j c hc))

theorem st_indexOwn {q : Md} [Qt q] {t : TypeId} {x ix : Operand} (ho : o.op = .indexAddr t x ix) {e : TypeId} (ht : E.P.underlying t = some (.slice e)) {l kv sz off n : Nat} (hx : ev E σ x = .own l kv sz off n)
    {k : IntKind} {i : Int} (hi : ev E σ ix = .d (.v (.int k i))) (hsz : (E.P.info? e).map (·.size) = some sz) {e' : TypeId} {es : List (List AV)} (hl : σ.h l = .arr kv e' sz es) (h0 : 0 ≤ i) (h1 : i < n) (h2 : off + n ≤ es.length)
    (hd : dlt o.dst σ.n = true) (hK : K (σ.put o.dst (.pe l kv sz (off + i.toNat) 0))) : Step q E B o K Q σ := by
  refine step_val _ (fun B g w a hr => ?_) hd hK
  have hx' := ev_ok hr x
  have hi' := ev_ok hr ix
  rw [hx] at hx'
  rw [hi] at hi'
  generalize hax : a.eval x = ax at hx'
  cases hx' with
  | own _ _ _ _ _ _ g0 g1 g2 g3 =>
    have hor := hr.hr.hp l g1
    rw [hl] at hor
    obtain ⟨f1, f2, f3, f4, xs, f5, f6⟩ := hor
    have hvt : g.vt l = false := by
      cases hv : g.vt l with
      | false => rfl
      | true => obtain ⟨rfl, _⟩ := f4 hv; simp at h2; omega
    have hown := g3 f1
    have : ∃ c, ax = .slice (some ⟨g.ρ l, off * sz, none⟩) n c := by
      unfold OwnV at hown
      split at hown
      · rename_i h; subst h
        exact ⟨g.cap l, by simp [hown, handle, hvt]⟩
      · obtain ⟨a', c, h1', _, h2'⟩ := hown
        exact ⟨c, by rw [h1', h2' (by omega)]⟩
    obtain ⟨c, rfl⟩ := this
    refine ⟨.pointer (some ⟨g.ρ l, (off + i.toNat) * sz + 0, none⟩), ?_, .pe _ _ _ _ _ _ rfl g1 g2 (fun _ => rfl)⟩
    simp only [execOp, ho]
    refine run_v ?_
    simp only [Instr.indexAt, vr_int hi', asIntOf, Sem.run_bind, Sem.run_pure, Result.andThen_ok, run_underlying ht, hax, h0, h1, and_self, if_true, run_sizeOf hsz, add_mk]
    simp [Nat.add_mul]

theorem st_indexArr {q : Md} [Qt q] {t : TypeId} {x ix : Operand} (ho : o.op = .indexAddr t x ix) {len : Nat} {e : TypeId} (ht : E.P.underlying t = some (.array len e)) (hlv : (ev E σ x).live σ.h = true)
    {k : IntKind} {i : Int} (hi : ev E σ ix = .d (.v (.int k i))) {sz : Nat} (hsz : (E.P.info? e).map (·.size) = some sz) (h0 : 0 ≤ i) (h1 : i < len) {v : AV} (hs : (ev E σ x).shift (i.toNat * sz) = some v)
    (hd : dlt o.dst σ.n = true) (hK : K (σ.put o.dst v)) : Step q E B o K Q σ := by
  refine step_val _ (fun B g w a hr => ?_) hd hK
  have hx := ev_ok hr x
  have hi' := ev_ok hr ix
  rw [hi] at hi'
  obtain ⟨b, p, hx'⟩ := live_addr hr hlv hx
  rw [hx'] at hx
  refine ⟨.pointer (some ⟨b, p + i.toNat * sz, none⟩), ?_, shift_ok hr hlv hs hx⟩
  simp only [execOp, ho]
  refine run_v ?_
  simp only [Instr.indexAt, vr_int hi', asIntOf, Sem.run_bind, Sem.run_pure, Result.andThen_ok, run_underlying ht, hx', Instr.sureAddr, h0, h1, and_self, if_true, run_sizeOf hsz, add_mk]

/-- A byte of a text. -/
def byteAt (s : ByteArray) (i : Nat) : Int := ((s.data[i]?).getD 0).toNat

theorem st_indexStr {q : Md} [Qt q] {t : TypeId} {x ix : Operand} (ho : o.op = .index t x ix) (ht : E.P.underlying t = some .string) {s : ByteArray} (hx : ev E σ x = .d (.v (.string s)))
    {k : IntKind} {i : Int} (hi : ev E σ ix = .d (.v (.int k i))) (h0 : 0 ≤ i) (h1 : i < s.size) (hd : dlt o.dst σ.n = true) (hK : K (σ.put o.dst (.d (.v (.int .u8 (byteAt s i.toNat)))))) : Step q E B o K Q σ := by
  refine step_val _ (fun B g w a hr => ?_) hd hK
  have hx' := ev_ok hr x
  have hi' := ev_ok hr ix
  rw [hx] at hx'
  rw [hi] at hi'
  have hlt : i.toNat < s.size := by omega
  refine ⟨_, ?_, .d _ _ (.v _)⟩
  simp only [execOp, ho]
  refine run_v ?_
  have hb : s[i.toNat]? = some (s[i.toNat]'hlt) := by simp [hlt]
  have hb2 : byteAt s i.toNat = ((s[i.toNat]'hlt).toNat : Int) := by
    unfold byteAt
    have : s.data[i.toNat]? = some (s.data[i.toNat]'hlt) := Array.getElem?_eq_getElem hlt
    rw [this]; rfl
  simp only [Instr.index, vr_int hi', vr_str hx', asIntOf, Sem.run_bind, Sem.run_pure, Result.andThen_ok, run_underlying ht, h0, if_true, hb, hb2]

/-! ### Lengths -/
theorem exec_builtin {b : Builtin} {args : Array Operand} {ts : Array TypeId} (ho : o.op = .call { callee := .builtin b, args := args, argTypes := ts }) (ρ : Operand → Value) :
    execOp ρ o = (builtin b ts o.type (args.map fun | .const _ => true | _ => false) (args.map ρ)) := by
  simp only [execOp, ho, resolve, invoke]; rfl

/-- How long a slice is. -/
def lenA (h : Nat → AO) : AV → Option Nat
  | .d (.v (.slice none 0 0)) => some 0
  | .d (.sl _ es) => some es.length
  | .own l k _ _ n => if ver (h l) = some k then some n else none
  | _ => none

theorem lenA_v {h : Nat → AO} {x : Value} {n : Nat} (hn : lenA h (.d (.v x)) = some n) : x = .slice none 0 0 ∧ n = 0 := by
  unfold lenA at hn
  split at hn <;> simp_all

theorem st_lenStr {q : Md} [Qt q] {x : Operand} {t : TypeId} (ho : o.op = .call { callee := .builtin .len, args := #[x], argTypes := #[t] }) (ht : E.P.underlying t = some .string) {s : ByteArray} (hx : ev E σ x = .d (.v (.string s)))
    (hd : dlt o.dst σ.n = true) (hK : K (σ.put o.dst (.d (.v (.int .i64 s.size))))) : Step q E B o K Q σ := by
  refine step_val _ (fun B g w a hr => ?_) hd hK
  have hx' := ev_ok hr x
  rw [hx] at hx'
  refine ⟨.int .i64 s.size, ?_, .d _ _ (.v _)⟩
  rw [exec_builtin ho]
  simp only [builtin]
  refine run_v ?_
  have hm : (#[x].map a.eval) = #[.string s] := by simp [vr_str hx']
  rw [hm]
  exact run_len_string w t _ s ht

theorem st_lenSl {q : Md} [Qt q] {x : Operand} {t : TypeId} (ho : o.op = .call { callee := .builtin .len, args := #[x], argTypes := #[t] }) {e : TypeId} (ht : E.P.underlying t = some (.slice e)) {n : Nat} (hn : lenA σ.h (ev E σ x) = some n)
    (hd : dlt o.dst σ.n = true) (hK : K (σ.put o.dst (.d (.v (.int .i64 n))))) : Step q E B o K Q σ := by
  refine step_val _ (fun B g w a hr => ?_) hd hK
  have hx := ev_ok hr x
  refine ⟨.int .i64 n, ?_, .d _ _ (.v _)⟩
  rw [exec_builtin ho]
  simp only [builtin]
  refine run_v ?_
  have key : ∃ b c, a.eval x = .slice b n c := by
    generalize ev E σ x = v at hn hx
    generalize a.eval x = ax at hx
    cases hx with
    | d c ax h =>
      cases h with
      | v => obtain ⟨rfl, rfl⟩ := lenA_v hn; exact ⟨_, _, rfl⟩
      | nil s b c => simp [lenA] at hn; subst hn; exact ⟨_, _, rfl⟩
      | sl s es b off c f _ _ _ _ _ => simp [lenA] at hn; subst hn; exact ⟨_, _, rfl⟩
      | agg _ _ _ _ => simp [lenA] at hn
      | map _ _ _ _ _ _ _ _ _ => simp [lenA] at hn
    | own l k sz off m ax g0 g1 g2 g3 =>
      simp only [lenA] at hn
      split at hn
      · rename_i hvv
        injection hn with hn; subst hn
        have hown := g3 (ver_ok (hr.hr.hp l g1) hvv)
        unfold OwnV at hown
        split at hown
        · exact ⟨_, _, hown⟩
        · obtain ⟨a', c, h1', _⟩ := hown; exact ⟨_, _, h1'⟩
      · cases hn
    | _ => simp [lenA] at hn
  obtain ⟨b, c, hbc⟩ := key
  have hm : (#[x].map a.eval) = #[.slice b n c] := by simp [hbc]
  rw [hm]
  exact run_len_slice w t _ b n c (by simp [Program.elem, ht])

theorem st_lenMap {q : Md} [Qt q] {x : Operand} {t : TypeId} (ho : o.op = .call { callee := .builtin .len, args := #[x], argTypes := #[t] }) {kt et : TypeId} (ht : E.P.underlying t = some (.map kt et)) {l : Nat} (hx : ev E σ x = .map l)
    {es : List (Value × AV)} (hl : σ.h l = .map es) (hd : dlt o.dst σ.n = true) (hK : K (σ.put o.dst (.d (.v (.int .i64 es.length))))) : Step q E B o K Q σ := by
  refine step_val _ (fun B g w a hr => ?_) hd hK
  have hx' := ev_ok hr x
  rw [hx] at hx'
  refine ⟨.int .i64 es.length, ?_, .d _ _ (.v _)⟩
  rw [exec_builtin ho]
  simp only [builtin]
  refine run_v ?_
  cases hx' with
  | map _ _ g0 g1 g2 =>
    have hor := hr.hr.hp l g1
    rw [hl] at hor
    obtain ⟨f1, f2, ms, clock, f3, f4, f5⟩ := hor
    have hm : (#[x].map a.eval) = #[.map (some (g.ρ l))] := by simp [g2 f1]
    rw [hm, run_len_map (P := E.P) w t o.type (g.ρ l) ms clock (by simp [Program.mapKeyOf, Program.mapElemOf, ht]) f3]
    simp [goInt, f4]

theorem st_lenMapD {q : Md} [Qt q] {x : Operand} {t : TypeId} (ho : o.op = .call { callee := .builtin .len, args := #[x], argTypes := #[t] }) {kt et : TypeId} (ht : E.P.underlying t = some (.map kt et)) {es : List (Value × Value)} (hx : ev E σ x = .d (.map es))
    (hd : dlt o.dst σ.n = true) (hK : K (σ.put o.dst (.d (.v (.int .i64 es.length))))) : Step q E B o K Q σ := by
  refine step_val _ (fun B g w a hr => ?_) hd hK
  have hx' := ev_ok hr x
  rw [hx] at hx'
  have hd' := vr_data hx'
  refine ⟨.int .i64 es.length, ?_, .d _ _ (.v _)⟩
  rw [exec_builtin ho]
  simp only [builtin]
  refine run_v ?_
  generalize hax : a.eval x = ax at hd'
  cases hd' with
  | map _ b ms clock h1 h2 h3 h4 h5 =>
    have hm : (#[x].map a.eval) = #[.map (some b)] := by simp [hax]
    rw [hm, run_len_map (P := E.P) w t o.type b ms clock (by simp [Program.mapKeyOf, Program.mapElemOf, ht]) h3]
    simp [goInt, h4]

theorem st_extract {q : Md} [Qt q] {x : Operand} {i : Nat} (ho : o.op = .extract x i) {cs : List AV} (hx : ev E σ x = .tup cs) {c : AV} (hc : cs[i]? = some c) (hd : dlt o.dst σ.n = true) (hK : K (σ.put o.dst c)) : Step q E B o K Q σ := by
  refine step_val _ (fun B g w a hr => ?_) hd hK
  have hx' := ev_ok hr x
  rw [hx] at hx'
  generalize hax : a.eval x = ax at hx'
  cases hx' with
  | tup _ xs h1 h2 =>
    have hi : i < xs.size := by rw [h1]; exact (List.getElem?_eq_some_iff.1 hc).1
    refine ⟨xs[i], ?_, h2 i c _ hc (Array.getElem?_eq_getElem hi)⟩
    simp only [execOp, ho, hax]
    refine run_v ?_
    simp only [Instr.extract, Array.getElem?_eq_getElem hi, Sem.run_pure]

theorem st_makeFunc {q : Md} [Qt q] {f : FuncId} {caps : Array Operand} (ho : o.op = .makeFunc (.func f) #[] caps) (hd : dlt o.dst σ.n = true) (hK : K (σ.put o.dst (.fn f (caps.toList.map (ev E σ))))) : Step q E B o K Q σ := by
  refine step_val _ (fun B g w a hr => ?_) hd hK
  refine ⟨.func (.func f) #[] (caps.map a.eval), ?_, .fn f _ _ (by simp) fun i c x hc hx => ?_⟩
  · simp only [execOp, ho]
    refine run_v ?_
    simp [Instr.makeFunc]
  · simp only [List.getElem?_map, Option.map_eq_some_iff, Array.getElem?_toList] at hc
    obtain ⟨y, hy, rfl⟩ := hc
    simp only [Array.getElem?_map, hy, Option.map_some, Option.some.injEq] at hx
    subst hx
    exact ev_ok hr y

/-! ### Reckoning -/
/-- An operator on two plain values. -/
def bin (op : BinOp) (x y : Value) : Option Value :=
  match x, y with
  | .int k a, .int k' b =>
    match op with
    | .shl => if 0 ≤ b then some (.int k (k.wrap (a * 2 ^ (min b.toNat k.bits)))) else none
    | .shr => if 0 ≤ b then some (.int k (a.fdiv (2 ^ (min b.toNat k.bits)))) else none
    | op => if k = k' then
        match op with
        | .add => some (.int k (k.wrap (a + b)))
        | .sub => some (.int k (k.wrap (a - b)))
        | .mul => some (.int k (k.wrap (a * b)))
        | .quo => if b = 0 then none else some (.int k (k.wrap (a.tdiv b)))
        | .rem => if b = 0 then none else some (.int k (a.tmod b))
        | .and => some (.int k (k.wrap (BitVec.ofInt k.bits a &&& BitVec.ofInt k.bits b).toNat))
        | .or => some (.int k (k.wrap (BitVec.ofInt k.bits a ||| BitVec.ofInt k.bits b).toNat))
        | .xor => some (.int k (k.wrap (BitVec.ofInt k.bits a ^^^ BitVec.ofInt k.bits b).toNat))
        | .andNot => some (.int k (k.wrap (BitVec.ofInt k.bits a &&& ~~~ BitVec.ofInt k.bits b).toNat))
        | .eql => some (.bool (a == b))
        | .neq => some (.bool (a != b))
        | .lss => some (.bool (decide (a < b)))
        | .leq => some (.bool (decide (a ≤ b)))
        | .gtr => some (.bool (decide (a > b)))
        | .geq => some (.bool (decide (a ≥ b)))
        | _ => none
      else none
  | .string a, .string b =>
    match op with
    | .add => if ((a.size + b.size : Nat) : Int) ≤ 9223372036854775807 then some (.string (a ++ b)) else none
    | .eql => some (.bool (a.toList == b.toList))
    | .neq => some (.bool !(a.toList == b.toList))
    | .lss => some (.bool (Op.bytesLess a.toList b.toList))
    | .leq => some (.bool (Op.bytesLess a.toList b.toList || a.toList == b.toList))
    | .gtr => some (.bool !(Op.bytesLess a.toList b.toList || a.toList == b.toList))
    | .geq => some (.bool !(Op.bytesLess a.toList b.toList))
    | _ => none
  | _, _ => none

theorem run_bin {P : Program} {op : BinOp} {x y r : Value} (h : bin op x y = some r) (t : TypeId) (w : World) : (binOp op t x y).run P w = .ok r w := by
  cases x with
  | int k a =>
    cases y with
    | int k' b =>
      cases op <;> simp only [bin] at h <;> simp only [binOp]
      case shl | shr =>
        split at h
        · rename_i hb
          cases h
          simp [Op.shift, Int.not_lt.2 hb]
        · cases h
      all_goals
        (split at h
         · rename_i hk
           subst hk
           first
             | (cases h; simp [Op.intArith, Op.intBits, Op.intCmp])
             | (split at h
                · cases h
                · rename_i hb; cases h; simp [Op.intDiv, hb])
         · cases h)
    | _ => cases h
  | string a =>
    cases y with
    | string b =>
      cases op <;> simp only [bin] at h <;> simp only [binOp]
      case add =>
        split at h
        · rename_i hb
          cases h
          have : ¬ (((a.size + b.size : Nat) : Int) > IntKind.i64.max) := by
            have : IntKind.i64.max = 9223372036854775807 := by decide
            omega
          simp only [Op.stringOp, this, if_false, Sem.run_pure]
        · cases h
      all_goals first | (cases h; simp [Op.stringOp]) | cases h
    | _ => cases h
  | _ => cases h

theorem eqGuard_plain {P : Program} (op : BinOp) (t : TypeId) (x y : Operand) {a b r : Value} (h : bin op a b = some r) (w : World) : (eqGuard op t x y a b).run P w = .ok () w := by
  unfold eqGuard
  cases a <;> cases b <;> first | (cases h; done) | skip
  all_goals (cases op <;> rfl)

theorem st_bin {q : Md} [Qt q] {op : BinOp} {t u : TypeId} {x y : Operand} (ho : o.op = .binOp op t x y u) {a b r : Value} (hx : ev E σ x = .d (.v a)) (hy : ev E σ y = .d (.v b)) (hr' : bin op a b = some r)
    (hd : dlt o.dst σ.n = true) (hK : K (σ.put o.dst (.d (.v r)))) : Step q E B o K Q σ := by
  refine step_val _ (fun B g w ac hr => ?_) hd hK
  have hx' := ev_ok hr x
  have hy' := ev_ok hr y
  rw [hx] at hx'
  rw [hy] at hy'
  refine ⟨r, ?_, .d _ _ (.v _)⟩
  simp only [execOp, ho, vr_val hx', vr_val hy']
  refine run_v ?_
  simp only [Sem.run_bind, eqGuard_plain op t x y hr', Result.andThen_ok, run_bin hr']

theorem st_not {q : Md} [Qt q] {t : TypeId} {x : Operand} (ho : o.op = .unOp .not t x) {b : Bool} (hx : ev E σ x = .d (.v (.bool b))) (hd : dlt o.dst σ.n = true) (hK : K (σ.put o.dst (.d (.v (.bool (!b)))))) : Step q E B o K Q σ := by
  refine step_val _ (fun B g w ac hr => ?_) hd hK
  have hx' := ev_ok hr x
  rw [hx] at hx'
  refine ⟨_, ?_, .d _ _ (.v _)⟩
  simp only [execOp, ho, vr_bool hx']
  exact run_v (by simp [Op.unary])
theorem st_neg {q : Md} [Qt q] {t : TypeId} {x : Operand} (ho : o.op = .unOp .neg t x) {k : IntKind} {n : Int} (hx : ev E σ x = .d (.v (.int k n))) (hd : dlt o.dst σ.n = true) (hK : K (σ.put o.dst (.d (.v (.int k (k.wrap (0 - n))))))) : Step q E B o K Q σ := by
  refine step_val _ (fun B g w ac hr => ?_) hd hK
  have hx' := ev_ok hr x
  rw [hx] at hx'
  refine ⟨_, ?_, .d _ _ (.v _)⟩
  simp only [execOp, ho, vr_int hx']
  exact run_v (by simp [Op.unary, Op.intArith])
theorem st_convInt {q : Md} [Qt q] {s t : TypeId} {x : Operand} (ho : o.op = .convert s t x) {k : IntKind} (hs : (E.P.underlying s).isSome = true) (ht : E.P.underlying t = some (.int k)) {k' : IntKind} {n : Int} (hx : ev E σ x = .d (.v (.int k' n)))
    (hd : dlt o.dst σ.n = true) (hK : K (σ.put o.dst (.d (.v (.int k (k.wrap n)))))) : Step q E B o K Q σ := by
  refine step_val _ (fun B g w ac hr => ?_) hd hK
  have hx' := ev_ok hr x
  rw [hx] at hx'
  obtain ⟨ds, hs'⟩ := Option.isSome_iff_exists.1 hs
  refine ⟨_, ?_, .d _ _ (.v _)⟩
  simp only [execOp, ho, vr_int hx']
  refine run_v ?_
  simp only [convert, Sem.run_bind, run_underlying hs', run_underlying ht, Result.andThen_ok, Conv.intToInt, Sem.run_pure]
theorem st_convStr {q : Md} [Qt q] {s t : TypeId} {x : Operand} (ho : o.op = .convert s t x) (hs : E.P.underlying s = some .string) (ht : E.P.underlying t = some .string) {b : ByteArray} (hx : ev E σ x = .d (.v (.string b)))
    (hd : dlt o.dst σ.n = true) (hK : K (σ.put o.dst (.d (.v (.string b))))) : Step q E B o K Q σ := by
  refine step_val _ (fun B g w ac hr => ?_) hd hK
  have hx' := ev_ok hr x
  rw [hx] at hx'
  refine ⟨_, ?_, .d _ _ (.v _)⟩
  simp only [execOp, ho, vr_str hx']
  refine run_v ?_
  simp only [convert, Sem.run_bind, run_underlying hs, run_underlying ht, Result.andThen_ok, Sem.run_pure]
end
end Go.Proofs.YtdcpnpcmgfmenaaDoor.Lg
