/-
  THE SEAT, AS THE LOGIC SEES IT: its program, a table of its types, each row by the kernel. Printed by wip/tools/env.py. Conditions: none.
-/
import Derived.Test.YtdcpnpcmgfmenaaDoorSi
import Derived.Test.YtdcpnpcmgfmenaaDoorProg
import Derived.KernelRfl
import Derived.Lib.LaidU8T
namespace Go.Proofs.YtdcpnpcmgfmenaaDoor
open Go Lg
set_option maxRecDepth 100000
def TFacts (t : Nat) (i : TI) : Prop := Tryd.prog.underlying t = some i.desc ∧ ∃ f, Tryd.prog.info? t = some f ∧ f.size = i.size ∧ f.bytes = i.bytes ∧ f.zero = some i.zero
theorem info_of {t s b : Nat} {z : Value} (h : (Tryd.prog.info? t).map (fun i => (i.size, i.bytes, i.zero)) = some (s, b, some z)) : ∃ f, Tryd.prog.info? t = some f ∧ f.size = s ∧ f.bytes = b ∧ f.zero = some z := by
  obtain ⟨f, h1, h2⟩ := Option.map_eq_some_iff.1 h
  simp only [Prod.mk.injEq] at h2
  exact ⟨f, h1, h2.1, h2.2.1, h2.2.2⟩
def ti2 : TI := { desc := .int .i64, size := 1, bytes := 8, zero := (.int .i64 0) }
theorem tf2 : TFacts 2 ti2 := ⟨Tryd.underlying2, info_of (by kernel_rfl)⟩
def ti3 : TI := { desc := .int .i64, size := 1, bytes := 8, zero := (.int .i64 0) }
theorem tf3 : TFacts 3 ti3 := ⟨Tryd.underlying3, info_of (by kernel_rfl)⟩
def ti4 : TI := { desc := .bool, size := 1, bytes := 1, zero := (.bool false) }
theorem tf4 : TFacts 4 ti4 := ⟨Tryd.underlying4, info_of (by kernel_rfl)⟩
def ti5 : TI := { desc := .int .u8, size := 1, bytes := 1, zero := (.int .u8 0) }
theorem tf5 : TFacts 5 ti5 := ⟨Tryd.underlying5, info_of (by kernel_rfl)⟩
def ti7 : TI := { desc := .struct #[{ name := "x", type := 2, offset := 0, embedded := false, tag := "", pkgPath := "runtime", byteOffset := 0 }, { name := "y", type := 3, offset := 1, embedded := false, tag := "", pkgPath := "runtime", byteOffset := 8 }, { name := "signed", type := 4, offset := 2, embedded := false, tag := "", pkgPath := "runtime", byteOffset := 16 }, { name := "code", type := 6, offset := 3, embedded := false, tag := "", pkgPath := "runtime", byteOffset := 17 }], size := 4, bytes := 24, zero := (.agg #[(.int .i64 0), (.int .i64 0), (.bool false), (.int .u8 0)]) }
theorem tf7 : TFacts 7 ti7 := ⟨Tryd.underlying7, info_of (by kernel_rfl)⟩
def ti9 : TI := { desc := .string, size := 1, bytes := 16, zero := (.string ⟨#[]⟩) }
theorem tf9 : TFacts 9 ti9 := ⟨Tryd.underlying9, info_of (by kernel_rfl)⟩
def ti12 : TI := { desc := .int .u64, size := 1, bytes := 8, zero := (.int .u64 0) }
theorem tf12 : TFacts 12 ti12 := ⟨Tryd.underlying12, info_of (by kernel_rfl)⟩
def ti13 : TI := { desc := .struct #[{ name := "msg", type := 9, offset := 0, embedded := false, tag := "", pkgPath := "runtime", byteOffset := 0 }, { name := "addr", type := 12, offset := 1, embedded := false, tag := "", pkgPath := "runtime", byteOffset := 16 }], size := 2, bytes := 24, zero := (.agg #[(.string ⟨#[]⟩), (.int .u64 0)]) }
theorem tf13 : TFacts 13 ti13 := ⟨Tryd.underlying13, info_of (by kernel_rfl)⟩
def ti15 : TI := { desc := .pointer 115, size := 1, bytes := 8, zero := (.pointer none) }
theorem tf15 : TFacts 15 ti15 := ⟨Tryd.underlying15, info_of (by kernel_rfl)⟩
def ti16 : TI := { desc := .pointer 118, size := 1, bytes := 8, zero := (.pointer none) }
theorem tf16 : TFacts 16 ti16 := ⟨Tryd.underlying16, info_of (by kernel_rfl)⟩
def ti17 : TI := { desc := .pointer 128, size := 1, bytes := 8, zero := (.pointer none) }
theorem tf17 : TFacts 17 ti17 := ⟨Tryd.underlying17, info_of (by kernel_rfl)⟩
def ti18 : TI := { desc := .struct #[{ name := "typ", type := 17, offset := 0, embedded := false, tag := "", pkgPath := "internal/runtime/maps", byteOffset := 0 }], size := 1, bytes := 8, zero := (.agg #[(.pointer none)]) }
theorem tf18 : TFacts 18 ti18 := ⟨Tryd.underlying18, info_of (by kernel_rfl)⟩
def ti21 : TI := { desc := .int .i32, size := 1, bytes := 4, zero := (.int .i32 0) }
theorem tf21 : TFacts 21 ti21 := ⟨Tryd.underlying21, info_of (by kernel_rfl)⟩
def ti22 : TI := { desc := .int .i64, size := 1, bytes := 8, zero := (.int .i64 0) }
theorem tf22 : TFacts 22 ti22 := ⟨Tryd.underlying22, info_of (by kernel_rfl)⟩
def ti23 : TI := { desc := .slice 9, size := 1, bytes := 24, zero := (.slice none 0 0) }
theorem tf23 : TFacts 23 ti23 := ⟨Tryd.underlying23, info_of (by kernel_rfl)⟩
def ti24 : TI := { desc := .slice 26, size := 1, bytes := 24, zero := (.slice none 0 0) }
theorem tf24 : TFacts 24 ti24 := ⟨Tryd.underlying24, info_of (by kernel_rfl)⟩
def ti25 : TI := { desc := .struct #[{ name := "Kind", type := 22, offset := 0, embedded := false, tag := "", pkgPath := "", byteOffset := 0 }, { name := "Names", type := 23, offset := 1, embedded := false, tag := "", pkgPath := "", byteOffset := 8 }, { name := "List", type := 24, offset := 2, embedded := false, tag := "", pkgPath := "", byteOffset := 32 }], size := 3, bytes := 56, zero := (.agg #[(.int .i64 0), (.slice none 0 0), (.slice none 0 0)]) }
theorem tf25 : TFacts 25 ti25 := ⟨Tryd.underlying25, info_of (by kernel_rfl)⟩
def ti26 : TI := { desc := .struct #[{ name := "Kind", type := 22, offset := 0, embedded := false, tag := "", pkgPath := "", byteOffset := 0 }, { name := "Names", type := 23, offset := 1, embedded := false, tag := "", pkgPath := "", byteOffset := 8 }, { name := "List", type := 24, offset := 2, embedded := false, tag := "", pkgPath := "", byteOffset := 32 }], size := 3, bytes := 56, zero := (.agg #[(.int .i64 0), (.slice none 0 0), (.slice none 0 0)]) }
theorem tf26 : TFacts 26 ti26 := ⟨Tryd.underlying26, info_of (by kernel_rfl)⟩
def ti28 : TI := { desc := .int .i64, size := 1, bytes := 8, zero := (.int .i64 0) }
theorem tf28 : TFacts 28 ti28 := ⟨Tryd.underlying28, info_of (by kernel_rfl)⟩
def ti35 : TI := { desc := .int .i64, size := 1, bytes := 8, zero := (.int .i64 0) }
theorem tf35 : TFacts 35 ti35 := ⟨Tryd.underlying35, info_of (by kernel_rfl)⟩
def ti36 : TI := { desc := .struct #[{ name := "Neg", type := 4, offset := 0, embedded := false, tag := "", pkgPath := "", byteOffset := 0 }, { name := "Digits", type := 9, offset := 1, embedded := false, tag := "", pkgPath := "", byteOffset := 8 }, { name := "Exp", type := 3, offset := 2, embedded := false, tag := "", pkgPath := "", byteOffset := 24 }], size := 3, bytes := 32, zero := (.agg #[(.bool false), (.string ⟨#[]⟩), (.int .i64 0)]) }
theorem tf36 : TFacts 36 ti36 := ⟨Tryd.underlying36, info_of (by kernel_rfl)⟩
def ti37 : TI := { desc := .struct #[{ name := "Neg", type := 4, offset := 0, embedded := false, tag := "", pkgPath := "", byteOffset := 0 }, { name := "Digits", type := 9, offset := 1, embedded := false, tag := "", pkgPath := "", byteOffset := 8 }, { name := "Exp", type := 3, offset := 2, embedded := false, tag := "", pkgPath := "", byteOffset := 24 }], size := 3, bytes := 32, zero := (.agg #[(.bool false), (.string ⟨#[]⟩), (.int .i64 0)]) }
theorem tf37 : TFacts 37 ti37 := ⟨Tryd.underlying37, info_of (by kernel_rfl)⟩
def ti38 : TI := { desc := .int .u64, size := 1, bytes := 8, zero := (.int .u64 0) }
theorem tf38 : TFacts 38 ti38 := ⟨Tryd.underlying38, info_of (by kernel_rfl)⟩
def ti39 : TI := { desc := .slice 41, size := 1, bytes := 24, zero := (.slice none 0 0) }
theorem tf39 : TFacts 39 ti39 := ⟨Tryd.underlying39, info_of (by kernel_rfl)⟩
def ti40 : TI := { desc := .struct #[{ name := "Kind", type := 35, offset := 0, embedded := false, tag := "", pkgPath := "", byteOffset := 0 }, { name := "Flag", type := 4, offset := 1, embedded := false, tag := "", pkgPath := "", byteOffset := 8 }, { name := "Num", type := 37, offset := 2, embedded := false, tag := "", pkgPath := "", byteOffset := 16 }, { name := "Bits", type := 38, offset := 5, embedded := false, tag := "", pkgPath := "", byteOffset := 48 }, { name := "Text", type := 9, offset := 6, embedded := false, tag := "", pkgPath := "", byteOffset := 56 }, { name := "Names", type := 23, offset := 7, embedded := false, tag := "", pkgPath := "", byteOffset := 72 }, { name := "List", type := 39, offset := 8, embedded := false, tag := "", pkgPath := "", byteOffset := 96 }], size := 9, bytes := 120, zero := (.agg #[(.int .i64 0), (.bool false), (.bool false), (.string ⟨#[]⟩), (.int .i64 0), (.int .u64 0), (.string ⟨#[]⟩), (.slice none 0 0), (.slice none 0 0)]) }
theorem tf40 : TFacts 40 ti40 := ⟨Tryd.underlying40, info_of (by kernel_rfl)⟩
def ti41 : TI := { desc := .struct #[{ name := "Kind", type := 35, offset := 0, embedded := false, tag := "", pkgPath := "", byteOffset := 0 }, { name := "Flag", type := 4, offset := 1, embedded := false, tag := "", pkgPath := "", byteOffset := 8 }, { name := "Num", type := 37, offset := 2, embedded := false, tag := "", pkgPath := "", byteOffset := 16 }, { name := "Bits", type := 38, offset := 5, embedded := false, tag := "", pkgPath := "", byteOffset := 48 }, { name := "Text", type := 9, offset := 6, embedded := false, tag := "", pkgPath := "", byteOffset := 56 }, { name := "Names", type := 23, offset := 7, embedded := false, tag := "", pkgPath := "", byteOffset := 72 }, { name := "List", type := 39, offset := 8, embedded := false, tag := "", pkgPath := "", byteOffset := 96 }], size := 9, bytes := 120, zero := (.agg #[(.int .i64 0), (.bool false), (.bool false), (.string ⟨#[]⟩), (.int .i64 0), (.int .u64 0), (.string ⟨#[]⟩), (.slice none 0 0), (.slice none 0 0)]) }
theorem tf41 : TFacts 41 ti41 := ⟨Tryd.underlying41, info_of (by kernel_rfl)⟩
def ti56 : TI := { desc := .map 9 3, size := 1, bytes := 8, zero := (.map none) }
theorem tf56 : TFacts 56 ti56 := ⟨Tryd.underlying56, info_of (by kernel_rfl)⟩
def ti69 : TI := { desc := .array 9 35, size := 9, bytes := 72, zero := (.agg #[(.int .i64 0), (.int .i64 0), (.int .i64 0), (.int .i64 0), (.int .i64 0), (.int .i64 0), (.int .i64 0), (.int .i64 0), (.int .i64 0)]) }
theorem tf69 : TFacts 69 ti69 := ⟨Tryd.underlying69, info_of (by kernel_rfl)⟩
def ti79 : TI := { desc := .map 9 4, size := 1, bytes := 8, zero := (.map none) }
theorem tf79 : TFacts 79 ti79 := ⟨Tryd.underlying79, info_of (by kernel_rfl)⟩
def ti83 : TI := { desc := .array 256 5, size := 256, bytes := 256, zero := (.agg #[(.int .u8 0), (.int .u8 0), (.int .u8 0), (.int .u8 0), (.int .u8 0), (.int .u8 0), (.int .u8 0), (.int .u8 0), (.int .u8 0), (.int .u8 0), (.int .u8 0), (.int .u8 0), (.int .u8 0), (.int .u8 0), (.int .u8 0), (.int .u8 0), (.int .u8 0), (.int .u8 0), (.int .u8 0), (.int .u8 0), (.int .u8 0), (.int .u8 0), (.int .u8 0), (.int .u8 0), (.int .u8 0), (.int .u8 0), (.int .u8 0), (.int .u8 0), (.int .u8 0), (.int .u8 0), (.int .u8 0), (.int .u8 0), (.int .u8 0), (.int .u8 0), (.int .u8 0), (.int .u8 0), (.int .u8 0), (.int .u8 0), (.int .u8 0), (.int .u8 0), (.int .u8 0), (.int .u8 0), (.int .u8 0), (.int .u8 0), (.int .u8 0), (.int .u8 0), (.int .u8 0), (.int .u8 0), (.int .u8 0), (.int .u8 0), (.int .u8 0), (.int .u8 0), (.int .u8 0), (.int .u8 0), (.int .u8 0), (.int .u8 0), (.int .u8 0), (.int .u8 0), (.int .u8 0), (.int .u8 0), (.int .u8 0), (.int .u8 0), (.int .u8 0), (.int .u8 0), (.int .u8 0), (.int .u8 0), (.int .u8 0), (.int .u8 0), (.int .u8 0), (.int .u8 0), (.int .u8 0), (.int .u8 0), (.int .u8 0), (.int .u8 0), (.int .u8 0), (.int .u8 0), (.int .u8 0), (.int .u8 0), (.int .u8 0), (.int .u8 0), (.int .u8 0), (.int .u8 0), (.int .u8 0), (.int .u8 0), (.int .u8 0), (.int .u8 0), (.int .u8 0), (.int .u8 0), (.int .u8 0), (.int .u8 0), (.int .u8 0), (.int .u8 0), (.int .u8 0), (.int .u8 0), (.int .u8 0), (.int .u8 0), (.int .u8 0), (.int .u8 0), (.int .u8 0), (.int .u8 0), (.int .u8 0), (.int .u8 0), (.int .u8 0), (.int .u8 0), (.int .u8 0), (.int .u8 0), (.int .u8 0), (.int .u8 0), (.int .u8 0), (.int .u8 0), (.int .u8 0), (.int .u8 0), (.int .u8 0), (.int .u8 0), (.int .u8 0), (.int .u8 0), (.int .u8 0), (.int .u8 0), (.int .u8 0), (.int .u8 0), (.int .u8 0), (.int .u8 0), (.int .u8 0), (.int .u8 0), (.int .u8 0), (.int .u8 0), (.int .u8 0), (.int .u8 0), (.int .u8 0), (.int .u8 0), (.int .u8 0), (.int .u8 0), (.int .u8 0), (.int .u8 0), (.int .u8 0), (.int .u8 0), (.int .u8 0), (.int .u8 0), (.int .u8 0), (.int .u8 0), (.int .u8 0), (.int .u8 0), (.int .u8 0), (.int .u8 0), (.int .u8 0), (.int .u8 0), (.int .u8 0), (.int .u8 0), (.int .u8 0), (.int .u8 0), (.int .u8 0), (.int .u8 0), (.int .u8 0), (.int .u8 0), (.int .u8 0), (.int .u8 0), (.int .u8 0), (.int .u8 0), (.int .u8 0), (.int .u8 0), (.int .u8 0), (.int .u8 0), (.int .u8 0), (.int .u8 0), (.int .u8 0), (.int .u8 0), (.int .u8 0), (.int .u8 0), (.int .u8 0), (.int .u8 0), (.int .u8 0), (.int .u8 0), (.int .u8 0), (.int .u8 0), (.int .u8 0), (.int .u8 0), (.int .u8 0), (.int .u8 0), (.int .u8 0), (.int .u8 0), (.int .u8 0), (.int .u8 0), (.int .u8 0), (.int .u8 0), (.int .u8 0), (.int .u8 0), (.int .u8 0), (.int .u8 0), (.int .u8 0), (.int .u8 0), (.int .u8 0), (.int .u8 0), (.int .u8 0), (.int .u8 0), (.int .u8 0), (.int .u8 0), (.int .u8 0), (.int .u8 0), (.int .u8 0), (.int .u8 0), (.int .u8 0), (.int .u8 0), (.int .u8 0), (.int .u8 0), (.int .u8 0), (.int .u8 0), (.int .u8 0), (.int .u8 0), (.int .u8 0), (.int .u8 0), (.int .u8 0), (.int .u8 0), (.int .u8 0), (.int .u8 0), (.int .u8 0), (.int .u8 0), (.int .u8 0), (.int .u8 0), (.int .u8 0), (.int .u8 0), (.int .u8 0), (.int .u8 0), (.int .u8 0), (.int .u8 0), (.int .u8 0), (.int .u8 0), (.int .u8 0), (.int .u8 0), (.int .u8 0), (.int .u8 0), (.int .u8 0), (.int .u8 0), (.int .u8 0), (.int .u8 0), (.int .u8 0), (.int .u8 0), (.int .u8 0), (.int .u8 0), (.int .u8 0), (.int .u8 0), (.int .u8 0), (.int .u8 0), (.int .u8 0), (.int .u8 0), (.int .u8 0), (.int .u8 0), (.int .u8 0), (.int .u8 0), (.int .u8 0), (.int .u8 0), (.int .u8 0), (.int .u8 0), (.int .u8 0), (.int .u8 0), (.int .u8 0), (.int .u8 0)]) }
theorem tf83 : TFacts 83 ti83 := ⟨Tryd.underlying83, info_of (by kernel_rfl)⟩
def ti84 : TI := { desc := .struct #[{ name := "lo", type := 5, offset := 0, embedded := false, tag := "", pkgPath := "unicode/utf8", byteOffset := 0 }, { name := "hi", type := 5, offset := 1, embedded := false, tag := "", pkgPath := "unicode/utf8", byteOffset := 1 }], size := 2, bytes := 2, zero := (.agg #[(.int .u8 0), (.int .u8 0)]) }
theorem tf84 : TFacts 84 ti84 := ⟨Tryd.underlying84, info_of (by kernel_rfl)⟩
def ti85 : TI := { desc := .struct #[{ name := "lo", type := 5, offset := 0, embedded := false, tag := "", pkgPath := "unicode/utf8", byteOffset := 0 }, { name := "hi", type := 5, offset := 1, embedded := false, tag := "", pkgPath := "unicode/utf8", byteOffset := 1 }], size := 2, bytes := 2, zero := (.agg #[(.int .u8 0), (.int .u8 0)]) }
theorem tf85 : TFacts 85 ti85 := ⟨Tryd.underlying85, info_of (by kernel_rfl)⟩
def ti86 : TI := { desc := .array 16 85, size := 32, bytes := 32, zero := (.agg #[(.int .u8 0), (.int .u8 0), (.int .u8 0), (.int .u8 0), (.int .u8 0), (.int .u8 0), (.int .u8 0), (.int .u8 0), (.int .u8 0), (.int .u8 0), (.int .u8 0), (.int .u8 0), (.int .u8 0), (.int .u8 0), (.int .u8 0), (.int .u8 0), (.int .u8 0), (.int .u8 0), (.int .u8 0), (.int .u8 0), (.int .u8 0), (.int .u8 0), (.int .u8 0), (.int .u8 0), (.int .u8 0), (.int .u8 0), (.int .u8 0), (.int .u8 0), (.int .u8 0), (.int .u8 0), (.int .u8 0), (.int .u8 0)]) }
theorem tf86 : TFacts 86 ti86 := ⟨Tryd.underlying86, info_of (by kernel_rfl)⟩
def ti87 : TI := { desc := .int .u64, size := 1, bytes := 8, zero := (.int .u64 0) }
theorem tf87 : TFacts 87 ti87 := ⟨Tryd.underlying87, info_of (by kernel_rfl)⟩
def ti92 : TI := { desc := .array 256 4, size := 256, bytes := 256, zero := (.agg #[(.bool false), (.bool false), (.bool false), (.bool false), (.bool false), (.bool false), (.bool false), (.bool false), (.bool false), (.bool false), (.bool false), (.bool false), (.bool false), (.bool false), (.bool false), (.bool false), (.bool false), (.bool false), (.bool false), (.bool false), (.bool false), (.bool false), (.bool false), (.bool false), (.bool false), (.bool false), (.bool false), (.bool false), (.bool false), (.bool false), (.bool false), (.bool false), (.bool false), (.bool false), (.bool false), (.bool false), (.bool false), (.bool false), (.bool false), (.bool false), (.bool false), (.bool false), (.bool false), (.bool false), (.bool false), (.bool false), (.bool false), (.bool false), (.bool false), (.bool false), (.bool false), (.bool false), (.bool false), (.bool false), (.bool false), (.bool false), (.bool false), (.bool false), (.bool false), (.bool false), (.bool false), (.bool false), (.bool false), (.bool false), (.bool false), (.bool false), (.bool false), (.bool false), (.bool false), (.bool false), (.bool false), (.bool false), (.bool false), (.bool false), (.bool false), (.bool false), (.bool false), (.bool false), (.bool false), (.bool false), (.bool false), (.bool false), (.bool false), (.bool false), (.bool false), (.bool false), (.bool false), (.bool false), (.bool false), (.bool false), (.bool false), (.bool false), (.bool false), (.bool false), (.bool false), (.bool false), (.bool false), (.bool false), (.bool false), (.bool false), (.bool false), (.bool false), (.bool false), (.bool false), (.bool false), (.bool false), (.bool false), (.bool false), (.bool false), (.bool false), (.bool false), (.bool false), (.bool false), (.bool false), (.bool false), (.bool false), (.bool false), (.bool false), (.bool false), (.bool false), (.bool false), (.bool false), (.bool false), (.bool false), (.bool false), (.bool false), (.bool false), (.bool false), (.bool false), (.bool false), (.bool false), (.bool false), (.bool false), (.bool false), (.bool false), (.bool false), (.bool false), (.bool false), (.bool false), (.bool false), (.bool false), (.bool false), (.bool false), (.bool false), (.bool false), (.bool false), (.bool false), (.bool false), (.bool false), (.bool false), (.bool false), (.bool false), (.bool false), (.bool false), (.bool false), (.bool false), (.bool false), (.bool false), (.bool false), (.bool false), (.bool false), (.bool false), (.bool false), (.bool false), (.bool false), (.bool false), (.bool false), (.bool false), (.bool false), (.bool false), (.bool false), (.bool false), (.bool false), (.bool false), (.bool false), (.bool false), (.bool false), (.bool false), (.bool false), (.bool false), (.bool false), (.bool false), (.bool false), (.bool false), (.bool false), (.bool false), (.bool false), (.bool false), (.bool false), (.bool false), (.bool false), (.bool false), (.bool false), (.bool false), (.bool false), (.bool false), (.bool false), (.bool false), (.bool false), (.bool false), (.bool false), (.bool false), (.bool false), (.bool false), (.bool false), (.bool false), (.bool false), (.bool false), (.bool false), (.bool false), (.bool false), (.bool false), (.bool false), (.bool false), (.bool false), (.bool false), (.bool false), (.bool false), (.bool false), (.bool false), (.bool false), (.bool false), (.bool false), (.bool false), (.bool false), (.bool false), (.bool false), (.bool false), (.bool false), (.bool false), (.bool false), (.bool false), (.bool false), (.bool false), (.bool false), (.bool false), (.bool false), (.bool false), (.bool false), (.bool false), (.bool false), (.bool false), (.bool false), (.bool false), (.bool false), (.bool false), (.bool false), (.bool false), (.bool false), (.bool false), (.bool false), (.bool false), (.bool false), (.bool false), (.bool false), (.bool false)]) }
theorem tf92 : TFacts 92 ti92 := ⟨Tryd.underlying92, info_of (by kernel_rfl)⟩
def ti93 : TI := { desc := .array 256 4, size := 256, bytes := 256, zero := (.agg #[(.bool false), (.bool false), (.bool false), (.bool false), (.bool false), (.bool false), (.bool false), (.bool false), (.bool false), (.bool false), (.bool false), (.bool false), (.bool false), (.bool false), (.bool false), (.bool false), (.bool false), (.bool false), (.bool false), (.bool false), (.bool false), (.bool false), (.bool false), (.bool false), (.bool false), (.bool false), (.bool false), (.bool false), (.bool false), (.bool false), (.bool false), (.bool false), (.bool false), (.bool false), (.bool false), (.bool false), (.bool false), (.bool false), (.bool false), (.bool false), (.bool false), (.bool false), (.bool false), (.bool false), (.bool false), (.bool false), (.bool false), (.bool false), (.bool false), (.bool false), (.bool false), (.bool false), (.bool false), (.bool false), (.bool false), (.bool false), (.bool false), (.bool false), (.bool false), (.bool false), (.bool false), (.bool false), (.bool false), (.bool false), (.bool false), (.bool false), (.bool false), (.bool false), (.bool false), (.bool false), (.bool false), (.bool false), (.bool false), (.bool false), (.bool false), (.bool false), (.bool false), (.bool false), (.bool false), (.bool false), (.bool false), (.bool false), (.bool false), (.bool false), (.bool false), (.bool false), (.bool false), (.bool false), (.bool false), (.bool false), (.bool false), (.bool false), (.bool false), (.bool false), (.bool false), (.bool false), (.bool false), (.bool false), (.bool false), (.bool false), (.bool false), (.bool false), (.bool false), (.bool false), (.bool false), (.bool false), (.bool false), (.bool false), (.bool false), (.bool false), (.bool false), (.bool false), (.bool false), (.bool false), (.bool false), (.bool false), (.bool false), (.bool false), (.bool false), (.bool false), (.bool false), (.bool false), (.bool false), (.bool false), (.bool false), (.bool false), (.bool false), (.bool false), (.bool false), (.bool false), (.bool false), (.bool false), (.bool false), (.bool false), (.bool false), (.bool false), (.bool false), (.bool false), (.bool false), (.bool false), (.bool false), (.bool false), (.bool false), (.bool false), (.bool false), (.bool false), (.bool false), (.bool false), (.bool false), (.bool false), (.bool false), (.bool false), (.bool false), (.bool false), (.bool false), (.bool false), (.bool false), (.bool false), (.bool false), (.bool false), (.bool false), (.bool false), (.bool false), (.bool false), (.bool false), (.bool false), (.bool false), (.bool false), (.bool false), (.bool false), (.bool false), (.bool false), (.bool false), (.bool false), (.bool false), (.bool false), (.bool false), (.bool false), (.bool false), (.bool false), (.bool false), (.bool false), (.bool false), (.bool false), (.bool false), (.bool false), (.bool false), (.bool false), (.bool false), (.bool false), (.bool false), (.bool false), (.bool false), (.bool false), (.bool false), (.bool false), (.bool false), (.bool false), (.bool false), (.bool false), (.bool false), (.bool false), (.bool false), (.bool false), (.bool false), (.bool false), (.bool false), (.bool false), (.bool false), (.bool false), (.bool false), (.bool false), (.bool false), (.bool false), (.bool false), (.bool false), (.bool false), (.bool false), (.bool false), (.bool false), (.bool false), (.bool false), (.bool false), (.bool false), (.bool false), (.bool false), (.bool false), (.bool false), (.bool false), (.bool false), (.bool false), (.bool false), (.bool false), (.bool false), (.bool false), (.bool false), (.bool false), (.bool false), (.bool false), (.bool false), (.bool false), (.bool false), (.bool false), (.bool false), (.bool false), (.bool false), (.bool false), (.bool false), (.bool false), (.bool false), (.bool false), (.bool false), (.bool false), (.bool false), (.bool false), (.bool false)]) }
theorem tf93 : TFacts 93 ti93 := ⟨Tryd.underlying93, info_of (by kernel_rfl)⟩
def ti97 : TI := { desc := .pointer 93, size := 1, bytes := 8, zero := (.pointer none) }
theorem tf97 : TFacts 97 ti97 := ⟨Tryd.underlying97, info_of (by kernel_rfl)⟩
def ti106 : TI := { desc := .slice 5, size := 1, bytes := 24, zero := (.slice none 0 0) }
theorem tf106 : TFacts 106 ti106 := ⟨Tryd.underlying106, info_of (by kernel_rfl)⟩
def ti107 : TI := { desc := .slice 3, size := 1, bytes := 24, zero := (.slice none 0 0) }
theorem tf107 : TFacts 107 ti107 := ⟨Tryd.underlying107, info_of (by kernel_rfl)⟩
def ti114 : TI := { desc := .struct #[{ name := "_interface", type := 17, offset := 0, embedded := false, tag := "", pkgPath := "runtime", byteOffset := 0 }, { name := "concrete", type := 17, offset := 1, embedded := false, tag := "", pkgPath := "runtime", byteOffset := 8 }, { name := "asserted", type := 17, offset := 2, embedded := false, tag := "", pkgPath := "runtime", byteOffset := 16 }, { name := "missingMethod", type := 9, offset := 3, embedded := false, tag := "", pkgPath := "runtime", byteOffset := 24 }], size := 4, bytes := 40, zero := (.agg #[(.pointer none), (.pointer none), (.pointer none), (.string ⟨#[]⟩)]) }
theorem tf114 : TFacts 114 ti114 := ⟨Tryd.underlying114, info_of (by kernel_rfl)⟩
def ti116 : TI := { desc := .array 0 16, size := 0, bytes := 0, zero := (.agg #[]) }
theorem tf116 : TFacts 116 ti116 := ⟨Tryd.underlying116, info_of (by kernel_rfl)⟩
def ti117 : TI := { desc := .struct #[{ name := "_", type := 116, offset := 0, embedded := false, tag := "", pkgPath := "runtime", byteOffset := 0 }], size := 0, bytes := 0, zero := (.agg #[]) }
theorem tf117 : TFacts 117 ti117 := ⟨Tryd.underlying117, info_of (by kernel_rfl)⟩
def ti120 : TI := { desc := .int .u32, size := 1, bytes := 4, zero := (.int .u32 0) }
theorem tf120 : TFacts 120 ti120 := ⟨Tryd.underlying120, info_of (by kernel_rfl)⟩
def ti124 : TI := { desc := .pointer 5, size := 1, bytes := 8, zero := (.pointer none) }
theorem tf124 : TFacts 124 ti124 := ⟨Tryd.underlying124, info_of (by kernel_rfl)⟩
def ti127 : TI := { desc := .struct #[{ name := "Size_", type := 12, offset := 0, embedded := false, tag := "", pkgPath := "", byteOffset := 0 }, { name := "PtrBytes", type := 12, offset := 1, embedded := false, tag := "", pkgPath := "", byteOffset := 8 }, { name := "Hash", type := 120, offset := 2, embedded := false, tag := "", pkgPath := "", byteOffset := 16 }, { name := "TFlag", type := 121, offset := 3, embedded := false, tag := "", pkgPath := "", byteOffset := 20 }, { name := "Align_", type := 5, offset := 4, embedded := false, tag := "", pkgPath := "", byteOffset := 21 }, { name := "FieldAlign_", type := 5, offset := 5, embedded := false, tag := "", pkgPath := "", byteOffset := 22 }, { name := "Kind_", type := 122, offset := 6, embedded := false, tag := "", pkgPath := "", byteOffset := 23 }, { name := "Equal", type := 123, offset := 7, embedded := false, tag := "", pkgPath := "", byteOffset := 24 }, { name := "GCData", type := 124, offset := 8, embedded := false, tag := "", pkgPath := "", byteOffset := 32 }, { name := "Str", type := 125, offset := 9, embedded := false, tag := "", pkgPath := "", byteOffset := 40 }, { name := "PtrToThis", type := 126, offset := 10, embedded := false, tag := "", pkgPath := "", byteOffset := 44 }], size := 11, bytes := 48, zero := (.agg #[(.int .u64 0), (.int .u64 0), (.int .u32 0), (.int .u8 0), (.int .u8 0), (.int .u8 0), (.int .u8 0), .nilFunc, (.pointer none), (.int .i32 0), (.int .i32 0)]) }
theorem tf127 : TFacts 127 ti127 := ⟨Tryd.underlying127, info_of (by kernel_rfl)⟩
def tiT : Nat → Option TI
  | 2 => some ti2
  | 3 => some ti3
  | 4 => some ti4
  | 5 => some ti5
  | 7 => some ti7
  | 9 => some ti9
  | 12 => some ti12
  | 13 => some ti13
  | 15 => some ti15
  | 16 => some ti16
  | 17 => some ti17
  | 18 => some ti18
  | 21 => some ti21
  | 22 => some ti22
  | 23 => some ti23
  | 24 => some ti24
  | 25 => some ti25
  | 26 => some ti26
  | 28 => some ti28
  | 35 => some ti35
  | 36 => some ti36
  | 37 => some ti37
  | 38 => some ti38
  | 39 => some ti39
  | 40 => some ti40
  | 41 => some ti41
  | 56 => some ti56
  | 69 => some ti69
  | 79 => some ti79
  | 83 => some ti83
  | 84 => some ti84
  | 85 => some ti85
  | 86 => some ti86
  | 87 => some ti87
  | 92 => some ti92
  | 93 => some ti93
  | 97 => some ti97
  | 106 => some ti106
  | 107 => some ti107
  | 114 => some ti114
  | 116 => some ti116
  | 117 => some ti117
  | 120 => some ti120
  | 124 => some ti124
  | 127 => some ti127
  | _ => none
theorem tiOk (t : Nat) (i : TI) (h : tiT t = some i) : TFacts t i := by
  unfold tiT at h
  split at h
  · injection h with h; subst h; exact tf2
  · injection h with h; subst h; exact tf3
  · injection h with h; subst h; exact tf4
  · injection h with h; subst h; exact tf5
  · injection h with h; subst h; exact tf7
  · injection h with h; subst h; exact tf9
  · injection h with h; subst h; exact tf12
  · injection h with h; subst h; exact tf13
  · injection h with h; subst h; exact tf15
  · injection h with h; subst h; exact tf16
  · injection h with h; subst h; exact tf17
  · injection h with h; subst h; exact tf18
  · injection h with h; subst h; exact tf21
  · injection h with h; subst h; exact tf22
  · injection h with h; subst h; exact tf23
  · injection h with h; subst h; exact tf24
  · injection h with h; subst h; exact tf25
  · injection h with h; subst h; exact tf26
  · injection h with h; subst h; exact tf28
  · injection h with h; subst h; exact tf35
  · injection h with h; subst h; exact tf36
  · injection h with h; subst h; exact tf37
  · injection h with h; subst h; exact tf38
  · injection h with h; subst h; exact tf39
  · injection h with h; subst h; exact tf40
  · injection h with h; subst h; exact tf41
  · injection h with h; subst h; exact tf56
  · injection h with h; subst h; exact tf69
  · injection h with h; subst h; exact tf79
  · injection h with h; subst h; exact tf83
  · injection h with h; subst h; exact tf84
  · injection h with h; subst h; exact tf85
  · injection h with h; subst h; exact tf86
  · injection h with h; subst h; exact tf87
  · injection h with h; subst h; exact tf92
  · injection h with h; subst h; exact tf93
  · injection h with h; subst h; exact tf97
  · injection h with h; subst h; exact tf106
  · injection h with h; subst h; exact tf107
  · injection h with h; subst h; exact tf114
  · injection h with h; subst h; exact tf116
  · injection h with h; subst h; exact tf117
  · injection h with h; subst h; exact tf120
  · injection h with h; subst h; exact tf124
  · injection h with h; subst h; exact tf127
  · cases h
def gFirst : Nat := 1
def gAccept : Nat := 2
/-- calamus/types.kinds -/
def gl0 : List D := [.v (.int .i64 0), .v (.int .i64 0), .v (.int .i64 1), .v (.int .i64 2), .v (.int .i64 3), .v (.int .i64 3), .v (.int .i64 4), .v (.int .i64 5), .v (.int .i64 6)]
/-- unicode/utf8.first -/
def gl1 : List D := (List.range 256).map fun c => .v (.int .u8 (Lib.firstT c))
/-- unicode/utf8.acceptRanges -/
def gl2 : List D := [.v (.int .u8 128), .v (.int .u8 191), .v (.int .u8 160), .v (.int .u8 191), .v (.int .u8 128), .v (.int .u8 159), .v (.int .u8 144), .v (.int .u8 191), .v (.int .u8 128), .v (.int .u8 143), .v (.int .u8 0), .v (.int .u8 0), .v (.int .u8 0), .v (.int .u8 0), .v (.int .u8 0), .v (.int .u8 0), .v (.int .u8 0), .v (.int .u8 0), .v (.int .u8 0), .v (.int .u8 0), .v (.int .u8 0), .v (.int .u8 0), .v (.int .u8 0), .v (.int .u8 0), .v (.int .u8 0), .v (.int .u8 0), .v (.int .u8 0), .v (.int .u8 0), .v (.int .u8 0), .v (.int .u8 0), .v (.int .u8 0), .v (.int .u8 0)]
def glT : Nat → Option (List D)
  | 0 => some gl0
  | 1 => some gl1
  | 2 => some gl2
  | _ => none
noncomputable def env : Env := { P := Tryd.prog, GL := glT, ti := tiT, ok := tiOk, mixed := by kernel_rfl }
end Go.Proofs.YtdcpnpcmgfmenaaDoor
