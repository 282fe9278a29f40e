/-
  The library's functions that the shelf holds, as contracts of the logic. Conditions: none.
-/
import Derived.Test.YtdcpnpcmgfmenaaDoorSq
import Derived.Test.YtdcpnpcmgfmenaaDoorDb
import Derived.Test.YtdcpnpcmgfmenaaDoorEnv
import Derived.Ground.NamesProg
import Derived.Shelf.Lay
import Derived.Shelf.Unicode.ValidAny
import Derived.Shelf.Strings.SlTrimAscii
import Derived.Shelf.Strings.Prefix
set_option linter.unusedVariables false
set_option maxRecDepth 100000
namespace Go.Proofs
open Go.RowKit Go.Shelf Go.Lib

shelf_lay Lays.n196 Nm 196 at Tryd as Tryd.laysValid
shelf_lay Lays.n160 Nm 160 at Tryd as Tryd.laysTrim
shelf_lay Lays.n100 Nm 100 at Tryd as Tryd.laysSuffix

namespace YtdcpnpcmgfmenaaDoor
open Go Go.Proofs.YtdcpnpcmgfmenaaDoor.Lg

theorem hasSuffix_calls (s p : ByteArray) (w : World) (hs : s.size ≤ 9223372036854775807) :
    Calls Tryd.prog 69 #[.string s, .string p] w fun e w' => e = .returned (.bool (Lib.hasSuffix s.data.toList p.data.toList)) ∧ w' = w :=
  Any.strings_HasSuffix Tryd.laysSuffix s p w hs
theorem valid_calls (s : ByteArray) (w : World) (hs : s.size ≤ 9223372036854775807) (hT : Lib.Utf8Tabs (Tryd.laysValid_ren.g 3) (Tryd.laysValid_ren.g 4) w) :
    Calls Tryd.prog 66 #[.string s] w fun e w' => e = .returned (.bool (Lib.validD s.data.toList)) ∧ Below w.heap.size w w' :=
  Any.utf8_ValidString Tryd.laysValid s w hs hT
theorem trim_calls (s cutset : ByteArray) (w : World) (hs : s.size ≤ 9223372036854775807) (hcs : cutset.size < 4294967281) (hascii : ∀ (j : Nat) b, cutset.data.toList[j]? = some b → b.toNat < 128) :
    Calls Tryd.prog 72 #[.string s, .string cutset] w fun e w' => e = .returned (.string ⟨(Lib.trimS s.data.toList cutset.data.toList).toArray⟩) ∧ Below w.heap.size w w' :=
  Any.strings_Trim_laid Tryd.laysTrim (by kernel_rfl) s cutset w hs hcs hascii

theorem tabs_of {w : World} {g : G} {nx : Nat} {h : Nat → AO} (hr : HRel env w g nx h) : Lib.Utf8Tabs gFirst gAccept w := by
  obtain ⟨_, f, h1, h2⟩ := hr.gl gFirst _ rfl
  obtain ⟨_, f', h1', h2'⟩ := hr.gl gAccept _ rfl
  have e1 : ∀ (j : Nat) v, (env.GL gFirst).bind (·[j]?) = some (.v v) → w.cell? ⟨gFirst, j, none⟩ = some v := fun j v hj => by
    obtain ⟨cs, hcs, hj⟩ := Option.bind_eq_some_iff.1 hj
    obtain ⟨_, f, h1, h2⟩ := hr.gl gFirst cs hcs
    rw [h1 j _ hj]
    have := h2 j _ hj
    congr 1
    generalize f j = y at this
    cases this; rfl
  have e2 : ∀ (j : Nat) v, (env.GL gAccept).bind (·[j]?) = some (.v v) → w.cell? ⟨gAccept, j, none⟩ = some v := fun j v hj => by
    obtain ⟨cs, hcs, hj⟩ := Option.bind_eq_some_iff.1 hj
    obtain ⟨_, f, h1, h2⟩ := hr.gl gAccept cs hcs
    rw [h1 j _ hj]
    have := h2 j _ hj
    congr 1
    generalize f j = y at this
    cases this; rfl
  refine ⟨fun c hc => e1 c _ ?_, fun i hi => ?_⟩
  · show ((List.range 256).map fun c => D.v (.int .u8 (Lib.firstT c)))[c]? = _
    simp [hc]
  · have key : ∀ i, i < 16 → (env.GL gAccept).bind (·[2 * i]?) = some (.v (.int .u8 (Lib.accLo i))) ∧ (env.GL gAccept).bind (·[2 * i + 1]?) = some (.v (.int .u8 (Lib.accHi i))) := by
      intro i hi
      match i, hi with
      | 0, _ | 1, _ | 2, _ | 3, _ | 4, _ | 5, _ | 6, _ | 7, _ | 8, _ | 9, _ | 10, _ | 11, _ | 12, _ | 13, _ | 14, _ | 15, _ => exact ⟨rfl, rfl⟩
      | i + 16, h => omega
    exact ⟨e2 _ _ (key i hi).1, e2 _ _ (key i hi).2⟩

theorem pure1 {E : Env} {f : FuncId} {fn : Func} {c : Code} {a r : Value} (hf : E.P.funcs[f]? = some fn) (hname : (fn.name == "runtime.NumGoroutine") = false) (hb : fn.body = some c)
    (h : ∀ w g, HRel E w g 0 (fun _ => .dead) → Calls E.P f #[a] w fun e w' => e = .returned r ∧ Below w.heap.size w w') : Pure E f [.d (.v a)] (.d (.v r)) := by
  refine ⟨enters_of hf hname hb, fun w g vs hr hs hv => ?_⟩
  have : vs = #[a] := by
    apply Array.ext
    · simpa using hs
    · intro i h1 h2
      have hi : i = 0 := by simp at h2; exact h2
      subst hi
      simpa using vr_val (hv 0 _ _ rfl (Array.getElem?_eq_getElem h1))
  subst this
  exact (h w g hr).mono fun e w' ⟨h1, h2⟩ => ⟨r, h1, .d _ _ (.v _), h2⟩
theorem pure2 {E : Env} {f : FuncId} {fn : Func} {c : Code} {a b r : Value} (hf : E.P.funcs[f]? = some fn) (hname : (fn.name == "runtime.NumGoroutine") = false) (hb : fn.body = some c)
    (h : ∀ w g, HRel E w g 0 (fun _ => .dead) → Calls E.P f #[a, b] w fun e w' => e = .returned r ∧ Below w.heap.size w w') : Pure E f [.d (.v a), .d (.v b)] (.d (.v r)) := by
  refine ⟨enters_of hf hname hb, fun w g vs hr hs hv => ?_⟩
  have : vs = #[a, b] := by
    apply Array.ext
    · simpa using hs
    · intro i h1 h2
      match i, h1 with
      | 0, h1 => simpa using vr_val (hv 0 _ _ rfl (Array.getElem?_eq_getElem h1))
      | 1, h1 => simpa using vr_val (hv 1 _ _ rfl (Array.getElem?_eq_getElem h1))
      | i + 2, h1 => simp at h2; omega
  subst this
  exact (h w g hr).mono fun e w' ⟨h1, h2⟩ => ⟨r, h1, .d _ _ (.v _), h2⟩

/-- No text is longer. -/
def fits (s : ByteArray) : Prop := s.size ≤ 9223372036854775807
def utfOk (s : ByteArray) : Bool := Lib.validD s.data.toList

theorem validString_pure (s : ByteArray) (hs : fits s) : Pure env 66 [.d (.v (.string s))] (.d (.v (.bool (utfOk s)))) :=
  pure1 Tryd.func66 rfl rfl fun w g hr => valid_calls s w hs (tabs_of hr)
theorem hasSuffix_pure (s p : ByteArray) (hs : fits s) : Pure env 69 [.d (.v (.string s)), .d (.v (.string p))] (.d (.v (.bool (Lib.hasSuffix s.data.toList p.data.toList)))) :=
  pure2 Tryd.func69 rfl rfl fun w g hr => (hasSuffix_calls s p w hs).mono fun e w' ⟨h1, h2⟩ => ⟨h1, h2 ▸ Below.refl _ _⟩
theorem trim_pure (s p : ByteArray) (hs : fits s) (hp : p.size < 4294967281) (ha : (p.data.toList.all fun b => decide (b.toNat < 128)) = true) : Pure env 72 [.d (.v (.string s)), .d (.v (.string p))] (.d (.v (.string ⟨(Lib.trimS s.data.toList p.data.toList).toArray⟩))) :=
  pure2 Tryd.func72 rfl rfl fun w g hr => trim_calls s p w hs hp (ascii_of_all ha)
end YtdcpnpcmgfmenaaDoor
end Go.Proofs
