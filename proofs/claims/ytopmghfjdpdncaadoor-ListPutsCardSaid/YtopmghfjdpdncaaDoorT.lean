/- The types of the program: facts, printed by types.py. -/
import Derived.Test.YtopmghfjdpdncaaDoorB5
import Derived.Test.YtopmghfjdpdncaaDoorProg
set_option linter.unusedSimpArgs false
namespace Go.Lw
open Go Go.Proofs
@[simp] theorem ty0 : Tryd.prog.underlying 0 = Option.some (Go.TypeDesc.tuple #[]) := by kernel_rfl
@[simp] theorem ag0 : tagg Tryd.prog 0 = some false := by kernel_rfl
@[simp] theorem sz0 : tsz Tryd.prog 0 = some 1 := by kernel_rfl
@[simp] theorem ze0 : tzero Tryd.prog 0 = Option.some (Go.Value.tuple #[]) := by kernel_rfl
theorem nf0 : tinf Tryd.prog 0 = some (Option.some (Go.Value.tuple #[]), 1, 0) := by kernel_rfl
@[simp] theorem ty1 : Tryd.prog.underlying 1 = Option.some (Go.TypeDesc.func #[] #[] Bool.false) := by kernel_rfl
@[simp] theorem ag1 : tagg Tryd.prog 1 = some false := by kernel_rfl
@[simp] theorem sz1 : tsz Tryd.prog 1 = some 1 := by kernel_rfl
@[simp] theorem ze1 : tzero Tryd.prog 1 = Option.some Go.Value.nilFunc := by kernel_rfl
theorem nf1 : tinf Tryd.prog 1 = some (Option.some Go.Value.nilFunc, 1, 8) := by kernel_rfl
@[simp] theorem ty2 : Tryd.prog.underlying 2 = Option.some (Go.TypeDesc.int Go.IntKind.i64) := by kernel_rfl
@[simp] theorem ag2 : tagg Tryd.prog 2 = some false := by kernel_rfl
@[simp] theorem sz2 : tsz Tryd.prog 2 = some 1 := by kernel_rfl
@[simp] theorem ze2 : tzero Tryd.prog 2 = Option.some (Go.Value.int Go.IntKind.i64 0) := by kernel_rfl
theorem nf2 : tinf Tryd.prog 2 = some (Option.some (Go.Value.int Go.IntKind.i64 0), 1, 8) := by kernel_rfl
@[simp] theorem ty3 : Tryd.prog.underlying 3 = Option.some (Go.TypeDesc.int Go.IntKind.i64) := by kernel_rfl
@[simp] theorem ag3 : tagg Tryd.prog 3 = some false := by kernel_rfl
@[simp] theorem sz3 : tsz Tryd.prog 3 = some 1 := by kernel_rfl
@[simp] theorem ze3 : tzero Tryd.prog 3 = Option.some (Go.Value.int Go.IntKind.i64 0) := by kernel_rfl
theorem nf3 : tinf Tryd.prog 3 = some (Option.some (Go.Value.int Go.IntKind.i64 0), 1, 8) := by kernel_rfl
@[simp] theorem ty4 : Tryd.prog.underlying 4 = Option.some Go.TypeDesc.bool := by kernel_rfl
@[simp] theorem ag4 : tagg Tryd.prog 4 = some false := by kernel_rfl
@[simp] theorem sz4 : tsz Tryd.prog 4 = some 1 := by kernel_rfl
@[simp] theorem ze4 : tzero Tryd.prog 4 = Option.some (Go.Value.bool Bool.false) := by kernel_rfl
theorem nf4 : tinf Tryd.prog 4 = some (Option.some (Go.Value.bool Bool.false), 1, 1) := by kernel_rfl
@[simp] theorem ty5 : Tryd.prog.underlying 5 = Option.some (Go.TypeDesc.int Go.IntKind.u8) := by kernel_rfl
@[simp] theorem ag5 : tagg Tryd.prog 5 = some false := by kernel_rfl
@[simp] theorem sz5 : tsz Tryd.prog 5 = some 1 := by kernel_rfl
@[simp] theorem ze5 : tzero Tryd.prog 5 = Option.some (Go.Value.int Go.IntKind.u8 0) := by kernel_rfl
theorem nf5 : tinf Tryd.prog 5 = some (Option.some (Go.Value.int Go.IntKind.u8 0), 1, 1) := by kernel_rfl
@[simp] theorem ty6 : Tryd.prog.underlying 6 = Option.some (Go.TypeDesc.int Go.IntKind.u8) := by kernel_rfl
@[simp] theorem ag6 : tagg Tryd.prog 6 = some false := by kernel_rfl
@[simp] theorem sz6 : tsz Tryd.prog 6 = some 1 := by kernel_rfl
@[simp] theorem ze6 : tzero Tryd.prog 6 = Option.some (Go.Value.int Go.IntKind.u8 0) := by kernel_rfl
theorem nf6 : tinf Tryd.prog 6 = some (Option.some (Go.Value.int Go.IntKind.u8 0), 1, 1) := by kernel_rfl
@[simp] theorem ty7 : Tryd.prog.underlying 7 = Option.some (Go.TypeDesc.struct #[{ name := "x", type := 2, offset := 0, embedded := Bool.false, tag := "", pkgPath := "runtime", byteOffset := 0 }, { name := "y", type := 3, offset := 1, embedded := Bool.false, tag := "", pkgPath := "runtime", byteOffset := 8 }, { name := "signed", type := 4, offset := 2, embedded := Bool.false, tag := "", pkgPath := "runtime", byteOffset := 16 }, { name := "code", type := 6, offset := 3, embedded := Bool.false, tag := "", pkgPath := "runtime", byteOffset := 17 }]) := by kernel_rfl
@[simp] theorem ag7 : tagg Tryd.prog 7 = some true := by kernel_rfl
@[simp] theorem sz7 : tsz Tryd.prog 7 = some 4 := by kernel_rfl
@[simp] theorem ze7 : tzero Tryd.prog 7 = Option.some (Go.Value.agg #[Go.Value.int Go.IntKind.i64 0, Go.Value.int Go.IntKind.i64 0, Go.Value.bool Bool.false, Go.Value.int Go.IntKind.u8 0]) := by kernel_rfl
theorem nf7 : tinf Tryd.prog 7 = some (Option.some (Go.Value.agg #[Go.Value.int Go.IntKind.i64 0, Go.Value.int Go.IntKind.i64 0, Go.Value.bool Bool.false, Go.Value.int Go.IntKind.u8 0]), 4, 24) := by kernel_rfl
@[simp] theorem ty8 : Tryd.prog.underlying 8 = Option.some (Go.TypeDesc.struct #[{ name := "x", type := 2, offset := 0, embedded := Bool.false, tag := "", pkgPath := "runtime", byteOffset := 0 }, { name := "y", type := 3, offset := 1, embedded := Bool.false, tag := "", pkgPath := "runtime", byteOffset := 8 }, { name := "signed", type := 4, offset := 2, embedded := Bool.false, tag := "", pkgPath := "runtime", byteOffset := 16 }, { name := "code", type := 6, offset := 3, embedded := Bool.false, tag := "", pkgPath := "runtime", byteOffset := 17 }]) := by kernel_rfl
@[simp] theorem ag8 : tagg Tryd.prog 8 = some true := by kernel_rfl
@[simp] theorem sz8 : tsz Tryd.prog 8 = some 4 := by kernel_rfl
@[simp] theorem ze8 : tzero Tryd.prog 8 = Option.some (Go.Value.agg #[Go.Value.int Go.IntKind.i64 0, Go.Value.int Go.IntKind.i64 0, Go.Value.bool Bool.false, Go.Value.int Go.IntKind.u8 0]) := by kernel_rfl
theorem nf8 : tinf Tryd.prog 8 = some (Option.some (Go.Value.agg #[Go.Value.int Go.IntKind.i64 0, Go.Value.int Go.IntKind.i64 0, Go.Value.bool Bool.false, Go.Value.int Go.IntKind.u8 0]), 4, 24) := by kernel_rfl
@[simp] theorem ty9 : Tryd.prog.underlying 9 = Option.some Go.TypeDesc.string := by kernel_rfl
@[simp] theorem ag9 : tagg Tryd.prog 9 = some false := by kernel_rfl
@[simp] theorem sz9 : tsz Tryd.prog 9 = some 1 := by kernel_rfl
@[simp] theorem ze9 : tzero Tryd.prog 9 = Option.some (Go.Value.string { data := #[] }) := by kernel_rfl
theorem nf9 : tinf Tryd.prog 9 = some (Option.some (Go.Value.string { data := #[] }), 1, 16) := by kernel_rfl
@[simp] theorem ty10 : Tryd.prog.underlying 10 = Option.some Go.TypeDesc.string := by kernel_rfl
@[simp] theorem ag10 : tagg Tryd.prog 10 = some false := by kernel_rfl
@[simp] theorem sz10 : tsz Tryd.prog 10 = some 1 := by kernel_rfl
@[simp] theorem ze10 : tzero Tryd.prog 10 = Option.some (Go.Value.string { data := #[] }) := by kernel_rfl
theorem nf10 : tinf Tryd.prog 10 = some (Option.some (Go.Value.string { data := #[] }), 1, 16) := by kernel_rfl
@[simp] theorem ty11 : Tryd.prog.underlying 11 = Option.some Go.TypeDesc.string := by kernel_rfl
@[simp] theorem ag11 : tagg Tryd.prog 11 = some false := by kernel_rfl
@[simp] theorem sz11 : tsz Tryd.prog 11 = some 1 := by kernel_rfl
@[simp] theorem ze11 : tzero Tryd.prog 11 = Option.some (Go.Value.string { data := #[] }) := by kernel_rfl
theorem nf11 : tinf Tryd.prog 11 = some (Option.some (Go.Value.string { data := #[] }), 1, 16) := by kernel_rfl
@[simp] theorem ty12 : Tryd.prog.underlying 12 = Option.some (Go.TypeDesc.int Go.IntKind.u64) := by kernel_rfl
@[simp] theorem ag12 : tagg Tryd.prog 12 = some false := by kernel_rfl
@[simp] theorem sz12 : tsz Tryd.prog 12 = some 1 := by kernel_rfl
@[simp] theorem ze12 : tzero Tryd.prog 12 = Option.some (Go.Value.int Go.IntKind.u64 0) := by kernel_rfl
theorem nf12 : tinf Tryd.prog 12 = some (Option.some (Go.Value.int Go.IntKind.u64 0), 1, 8) := by kernel_rfl
@[simp] theorem ty13 : Tryd.prog.underlying 13 = Option.some (Go.TypeDesc.struct #[{ name := "msg", type := 9, offset := 0, embedded := Bool.false, tag := "", pkgPath := "runtime", byteOffset := 0 }, { name := "addr", type := 12, offset := 1, embedded := Bool.false, tag := "", pkgPath := "runtime", byteOffset := 16 }]) := by kernel_rfl
@[simp] theorem ag13 : tagg Tryd.prog 13 = some true := by kernel_rfl
@[simp] theorem sz13 : tsz Tryd.prog 13 = some 2 := by kernel_rfl
@[simp] theorem ze13 : tzero Tryd.prog 13 = Option.some (Go.Value.agg #[Go.Value.string { data := #[] }, Go.Value.int Go.IntKind.u64 0]) := by kernel_rfl
theorem nf13 : tinf Tryd.prog 13 = some (Option.some (Go.Value.agg #[Go.Value.string { data := #[] }, Go.Value.int Go.IntKind.u64 0]), 2, 24) := by kernel_rfl
@[simp] theorem ty14 : Tryd.prog.underlying 14 = Option.some (Go.TypeDesc.struct #[{ name := "msg", type := 9, offset := 0, embedded := Bool.false, tag := "", pkgPath := "runtime", byteOffset := 0 }, { name := "addr", type := 12, offset := 1, embedded := Bool.false, tag := "", pkgPath := "runtime", byteOffset := 16 }]) := by kernel_rfl
@[simp] theorem ag14 : tagg Tryd.prog 14 = some true := by kernel_rfl
@[simp] theorem sz14 : tsz Tryd.prog 14 = some 2 := by kernel_rfl
@[simp] theorem ze14 : tzero Tryd.prog 14 = Option.some (Go.Value.agg #[Go.Value.string { data := #[] }, Go.Value.int Go.IntKind.u64 0]) := by kernel_rfl
theorem nf14 : tinf Tryd.prog 14 = some (Option.some (Go.Value.agg #[Go.Value.string { data := #[] }, Go.Value.int Go.IntKind.u64 0]), 2, 24) := by kernel_rfl
@[simp] theorem ty15 : Tryd.prog.underlying 15 = Option.some (Go.TypeDesc.pointer 101) := by kernel_rfl
@[simp] theorem ag15 : tagg Tryd.prog 15 = some false := by kernel_rfl
@[simp] theorem sz15 : tsz Tryd.prog 15 = some 1 := by kernel_rfl
@[simp] theorem ze15 : tzero Tryd.prog 15 = Option.some (Go.Value.pointer Option.none) := by kernel_rfl
theorem nf15 : tinf Tryd.prog 15 = some (Option.some (Go.Value.pointer Option.none), 1, 8) := by kernel_rfl
@[simp] theorem ty16 : Tryd.prog.underlying 16 = Option.some (Go.TypeDesc.pointer 104) := by kernel_rfl
@[simp] theorem ag16 : tagg Tryd.prog 16 = some false := by kernel_rfl
@[simp] theorem sz16 : tsz Tryd.prog 16 = some 1 := by kernel_rfl
@[simp] theorem ze16 : tzero Tryd.prog 16 = Option.some (Go.Value.pointer Option.none) := by kernel_rfl
theorem nf16 : tinf Tryd.prog 16 = some (Option.some (Go.Value.pointer Option.none), 1, 8) := by kernel_rfl
@[simp] theorem ty17 : Tryd.prog.underlying 17 = Option.some (Go.TypeDesc.pointer 113) := by kernel_rfl
@[simp] theorem ag17 : tagg Tryd.prog 17 = some false := by kernel_rfl
@[simp] theorem sz17 : tsz Tryd.prog 17 = some 1 := by kernel_rfl
@[simp] theorem ze17 : tzero Tryd.prog 17 = Option.some (Go.Value.pointer Option.none) := by kernel_rfl
theorem nf17 : tinf Tryd.prog 17 = some (Option.some (Go.Value.pointer Option.none), 1, 8) := by kernel_rfl
@[simp] theorem ty18 : Tryd.prog.underlying 18 = Option.some (Go.TypeDesc.struct #[{ name := "typ", type := 17, offset := 0, embedded := Bool.false, tag := "", pkgPath := "internal/runtime/maps", byteOffset := 0 }]) := by kernel_rfl
@[simp] theorem ag18 : tagg Tryd.prog 18 = some true := by kernel_rfl
@[simp] theorem sz18 : tsz Tryd.prog 18 = some 1 := by kernel_rfl
@[simp] theorem ze18 : tzero Tryd.prog 18 = Option.some (Go.Value.agg #[Go.Value.pointer Option.none]) := by kernel_rfl
theorem nf18 : tinf Tryd.prog 18 = some (Option.some (Go.Value.agg #[Go.Value.pointer Option.none]), 1, 8) := by kernel_rfl
@[simp] theorem ty19 : Tryd.prog.underlying 19 = Option.some (Go.TypeDesc.struct #[{ name := "typ", type := 17, offset := 0, embedded := Bool.false, tag := "", pkgPath := "internal/runtime/maps", byteOffset := 0 }]) := by kernel_rfl
@[simp] theorem ag19 : tagg Tryd.prog 19 = some true := by kernel_rfl
@[simp] theorem sz19 : tsz Tryd.prog 19 = some 1 := by kernel_rfl
@[simp] theorem ze19 : tzero Tryd.prog 19 = Option.some (Go.Value.agg #[Go.Value.pointer Option.none]) := by kernel_rfl
theorem nf19 : tinf Tryd.prog 19 = some (Option.some (Go.Value.agg #[Go.Value.pointer Option.none]), 1, 8) := by kernel_rfl
@[simp] theorem ty21 : Tryd.prog.underlying 21 = Option.some (Go.TypeDesc.int Go.IntKind.i32) := by kernel_rfl
@[simp] theorem ag21 : tagg Tryd.prog 21 = some false := by kernel_rfl
@[simp] theorem sz21 : tsz Tryd.prog 21 = some 1 := by kernel_rfl
@[simp] theorem ze21 : tzero Tryd.prog 21 = Option.some (Go.Value.int Go.IntKind.i32 0) := by kernel_rfl
theorem nf21 : tinf Tryd.prog 21 = some (Option.some (Go.Value.int Go.IntKind.i32 0), 1, 4) := by kernel_rfl
@[simp] theorem ty22 : Tryd.prog.underlying 22 = Option.some (Go.TypeDesc.slice 3) := by kernel_rfl
@[simp] theorem ag22 : tagg Tryd.prog 22 = some false := by kernel_rfl
@[simp] theorem sz22 : tsz Tryd.prog 22 = some 1 := by kernel_rfl
@[simp] theorem ze22 : tzero Tryd.prog 22 = Option.some (Go.Value.slice Option.none 0 0) := by kernel_rfl
theorem nf22 : tinf Tryd.prog 22 = some (Option.some (Go.Value.slice Option.none 0 0), 1, 24) := by kernel_rfl
@[simp] theorem ty23 : Tryd.prog.underlying 23 = Option.some (Go.TypeDesc.int Go.IntKind.u32) := by kernel_rfl
@[simp] theorem ag23 : tagg Tryd.prog 23 = some false := by kernel_rfl
@[simp] theorem sz23 : tsz Tryd.prog 23 = some 1 := by kernel_rfl
@[simp] theorem ze23 : tzero Tryd.prog 23 = Option.some (Go.Value.int Go.IntKind.u32 0) := by kernel_rfl
theorem nf23 : tinf Tryd.prog 23 = some (Option.some (Go.Value.int Go.IntKind.u32 0), 1, 4) := by kernel_rfl
@[simp] theorem ty24 : Tryd.prog.underlying 24 = Option.some (Go.TypeDesc.func #[] #[4] Bool.false) := by kernel_rfl
@[simp] theorem ag24 : tagg Tryd.prog 24 = some false := by kernel_rfl
@[simp] theorem sz24 : tsz Tryd.prog 24 = some 1 := by kernel_rfl
@[simp] theorem ze24 : tzero Tryd.prog 24 = Option.some Go.Value.nilFunc := by kernel_rfl
theorem nf24 : tinf Tryd.prog 24 = some (Option.some Go.Value.nilFunc, 1, 8) := by kernel_rfl
@[simp] theorem ty25 : Tryd.prog.underlying 25 = Option.some (Go.TypeDesc.slice 32) := by kernel_rfl
@[simp] theorem ag25 : tagg Tryd.prog 25 = some false := by kernel_rfl
@[simp] theorem sz25 : tsz Tryd.prog 25 = some 1 := by kernel_rfl
@[simp] theorem ze25 : tzero Tryd.prog 25 = Option.some (Go.Value.slice Option.none 0 0) := by kernel_rfl
theorem nf25 : tinf Tryd.prog 25 = some (Option.some (Go.Value.slice Option.none 0 0), 1, 24) := by kernel_rfl
@[simp] theorem ty26 : Tryd.prog.underlying 26 = Option.some (Go.TypeDesc.int Go.IntKind.i64) := by kernel_rfl
@[simp] theorem ag26 : tagg Tryd.prog 26 = some false := by kernel_rfl
@[simp] theorem sz26 : tsz Tryd.prog 26 = some 1 := by kernel_rfl
@[simp] theorem ze26 : tzero Tryd.prog 26 = Option.some (Go.Value.int Go.IntKind.i64 0) := by kernel_rfl
theorem nf26 : tinf Tryd.prog 26 = some (Option.some (Go.Value.int Go.IntKind.i64 0), 1, 8) := by kernel_rfl
@[simp] theorem ty27 : Tryd.prog.underlying 27 = Option.some (Go.TypeDesc.tuple #[25, 26]) := by kernel_rfl
@[simp] theorem ag27 : tagg Tryd.prog 27 = some false := by kernel_rfl
@[simp] theorem sz27 : tsz Tryd.prog 27 = some 1 := by kernel_rfl
@[simp] theorem ze27 : tzero Tryd.prog 27 = Option.some (Go.Value.tuple #[Go.Value.slice Option.none 0 0, Go.Value.int Go.IntKind.i64 0]) := by kernel_rfl
theorem nf27 : tinf Tryd.prog 27 = some (Option.some (Go.Value.tuple #[Go.Value.slice Option.none 0 0, Go.Value.int Go.IntKind.i64 0]), 1, 0) := by kernel_rfl
@[simp] theorem ty28 : Tryd.prog.underlying 28 = Option.some (Go.TypeDesc.func #[22, 22] #[25, 26] Bool.false) := by kernel_rfl
@[simp] theorem ag28 : tagg Tryd.prog 28 = some false := by kernel_rfl
@[simp] theorem sz28 : tsz Tryd.prog 28 = some 1 := by kernel_rfl
@[simp] theorem ze28 : tzero Tryd.prog 28 = Option.some Go.Value.nilFunc := by kernel_rfl
theorem nf28 : tinf Tryd.prog 28 = some (Option.some Go.Value.nilFunc, 1, 8) := by kernel_rfl
@[simp] theorem ty29 : Tryd.prog.underlying 29 = Option.some (Go.TypeDesc.slice 9) := by kernel_rfl
@[simp] theorem ag29 : tagg Tryd.prog 29 = some false := by kernel_rfl
@[simp] theorem sz29 : tsz Tryd.prog 29 = some 1 := by kernel_rfl
@[simp] theorem ze29 : tzero Tryd.prog 29 = Option.some (Go.Value.slice Option.none 0 0) := by kernel_rfl
theorem nf29 : tinf Tryd.prog 29 = some (Option.some (Go.Value.slice Option.none 0 0), 1, 24) := by kernel_rfl
@[simp] theorem ty30 : Tryd.prog.underlying 30 = Option.some (Go.TypeDesc.tuple #[29, 26]) := by kernel_rfl
@[simp] theorem ag30 : tagg Tryd.prog 30 = some false := by kernel_rfl
@[simp] theorem sz30 : tsz Tryd.prog 30 = some 1 := by kernel_rfl
@[simp] theorem ze30 : tzero Tryd.prog 30 = Option.some (Go.Value.tuple #[Go.Value.slice Option.none 0 0, Go.Value.int Go.IntKind.i64 0]) := by kernel_rfl
theorem nf30 : tinf Tryd.prog 30 = some (Option.some (Go.Value.tuple #[Go.Value.slice Option.none 0 0, Go.Value.int Go.IntKind.i64 0]), 1, 0) := by kernel_rfl
@[simp] theorem ty31 : Tryd.prog.underlying 31 = Option.some (Go.TypeDesc.func #[22, 22] #[29, 26] Bool.false) := by kernel_rfl
@[simp] theorem ag31 : tagg Tryd.prog 31 = some false := by kernel_rfl
@[simp] theorem sz31 : tsz Tryd.prog 31 = some 1 := by kernel_rfl
@[simp] theorem ze31 : tzero Tryd.prog 31 = Option.some Go.Value.nilFunc := by kernel_rfl
theorem nf31 : tinf Tryd.prog 31 = some (Option.some Go.Value.nilFunc, 1, 8) := by kernel_rfl
@[simp] theorem ty32 : Tryd.prog.underlying 32 = Option.some (Go.TypeDesc.slice 5) := by kernel_rfl
@[simp] theorem ag32 : tagg Tryd.prog 32 = some false := by kernel_rfl
@[simp] theorem sz32 : tsz Tryd.prog 32 = some 1 := by kernel_rfl
@[simp] theorem ze32 : tzero Tryd.prog 32 = Option.some (Go.Value.slice Option.none 0 0) := by kernel_rfl
theorem nf32 : tinf Tryd.prog 32 = some (Option.some (Go.Value.slice Option.none 0 0), 1, 24) := by kernel_rfl
@[simp] theorem ty33 : Tryd.prog.underlying 33 = Option.some (Go.TypeDesc.func #[3] #[3] Bool.false) := by kernel_rfl
@[simp] theorem ag33 : tagg Tryd.prog 33 = some false := by kernel_rfl
@[simp] theorem sz33 : tsz Tryd.prog 33 = some 1 := by kernel_rfl
@[simp] theorem ze33 : tzero Tryd.prog 33 = Option.some Go.Value.nilFunc := by kernel_rfl
theorem nf33 : tinf Tryd.prog 33 = some (Option.some Go.Value.nilFunc, 1, 8) := by kernel_rfl
@[simp] theorem ty34 : Tryd.prog.underlying 34 = Option.some (Go.TypeDesc.func #[29, 29] #[4] Bool.false) := by kernel_rfl
@[simp] theorem ag34 : tagg Tryd.prog 34 = some false := by kernel_rfl
@[simp] theorem sz34 : tsz Tryd.prog 34 = some 1 := by kernel_rfl
@[simp] theorem ze34 : tzero Tryd.prog 34 = Option.some Go.Value.nilFunc := by kernel_rfl
theorem nf34 : tinf Tryd.prog 34 = some (Option.some Go.Value.nilFunc, 1, 8) := by kernel_rfl
@[simp] theorem ty35 : Tryd.prog.underlying 35 = Option.some (Go.TypeDesc.func #[3, 3] #[3] Bool.false) := by kernel_rfl
@[simp] theorem ag35 : tagg Tryd.prog 35 = some false := by kernel_rfl
@[simp] theorem sz35 : tsz Tryd.prog 35 = some 1 := by kernel_rfl
@[simp] theorem ze35 : tzero Tryd.prog 35 = Option.some Go.Value.nilFunc := by kernel_rfl
theorem nf35 : tinf Tryd.prog 35 = some (Option.some Go.Value.nilFunc, 1, 8) := by kernel_rfl
@[simp] theorem ty36 : Tryd.prog.underlying 36 = Option.some (Go.TypeDesc.func #[22, 22, 23] #[4] Bool.false) := by kernel_rfl
@[simp] theorem ag36 : tagg Tryd.prog 36 = some false := by kernel_rfl
@[simp] theorem sz36 : tsz Tryd.prog 36 = some 1 := by kernel_rfl
@[simp] theorem ze36 : tzero Tryd.prog 36 = Option.some Go.Value.nilFunc := by kernel_rfl
theorem nf36 : tinf Tryd.prog 36 = some (Option.some Go.Value.nilFunc, 1, 8) := by kernel_rfl
@[simp] theorem ty37 : Tryd.prog.underlying 37 = Option.some (Go.TypeDesc.pointer 55) := by kernel_rfl
@[simp] theorem ag37 : tagg Tryd.prog 37 = some false := by kernel_rfl
@[simp] theorem sz37 : tsz Tryd.prog 37 = some 1 := by kernel_rfl
@[simp] theorem ze37 : tzero Tryd.prog 37 = Option.some (Go.Value.pointer Option.none) := by kernel_rfl
theorem nf37 : tinf Tryd.prog 37 = some (Option.some (Go.Value.pointer Option.none), 1, 8) := by kernel_rfl
@[simp] theorem ty38 : Tryd.prog.underlying 38 = Option.some (Go.TypeDesc.tuple #[37, 26]) := by kernel_rfl
@[simp] theorem ag38 : tagg Tryd.prog 38 = some false := by kernel_rfl
@[simp] theorem sz38 : tsz Tryd.prog 38 = some 1 := by kernel_rfl
@[simp] theorem ze38 : tzero Tryd.prog 38 = Option.some (Go.Value.tuple #[Go.Value.pointer Option.none, Go.Value.int Go.IntKind.i64 0]) := by kernel_rfl
theorem nf38 : tinf Tryd.prog 38 = some (Option.some (Go.Value.tuple #[Go.Value.pointer Option.none, Go.Value.int Go.IntKind.i64 0]), 1, 0) := by kernel_rfl
@[simp] theorem ty39 : Tryd.prog.underlying 39 = Option.some (Go.TypeDesc.func #[22] #[37, 26] Bool.false) := by kernel_rfl
@[simp] theorem ag39 : tagg Tryd.prog 39 = some false := by kernel_rfl
@[simp] theorem sz39 : tsz Tryd.prog 39 = some 1 := by kernel_rfl
@[simp] theorem ze39 : tzero Tryd.prog 39 = Option.some Go.Value.nilFunc := by kernel_rfl
theorem nf39 : tinf Tryd.prog 39 = some (Option.some Go.Value.nilFunc, 1, 8) := by kernel_rfl
@[simp] theorem ty40 : Tryd.prog.underlying 40 = Option.some (Go.TypeDesc.func #[3, 3, 32] #[26] Bool.false) := by kernel_rfl
@[simp] theorem ag40 : tagg Tryd.prog 40 = some false := by kernel_rfl
@[simp] theorem sz40 : tsz Tryd.prog 40 = some 1 := by kernel_rfl
@[simp] theorem ze40 : tzero Tryd.prog 40 = Option.some Go.Value.nilFunc := by kernel_rfl
theorem nf40 : tinf Tryd.prog 40 = some (Option.some Go.Value.nilFunc, 1, 8) := by kernel_rfl
@[simp] theorem ty41 : Tryd.prog.underlying 41 = Option.some (Go.TypeDesc.tuple #[22, 22, 26]) := by kernel_rfl
@[simp] theorem ag41 : tagg Tryd.prog 41 = some false := by kernel_rfl
@[simp] theorem sz41 : tsz Tryd.prog 41 = some 1 := by kernel_rfl
@[simp] theorem ze41 : tzero Tryd.prog 41 = Option.some (Go.Value.tuple #[Go.Value.slice Option.none 0 0, Go.Value.slice Option.none 0 0, Go.Value.int Go.IntKind.i64 0]) := by kernel_rfl
theorem nf41 : tinf Tryd.prog 41 = some (Option.some (Go.Value.tuple #[Go.Value.slice Option.none 0 0, Go.Value.slice Option.none 0 0, Go.Value.int Go.IntKind.i64 0]), 1, 0) := by kernel_rfl
@[simp] theorem ty42 : Tryd.prog.underlying 42 = Option.some (Go.TypeDesc.func #[37, 3, 3] #[22, 22, 26] Bool.false) := by kernel_rfl
@[simp] theorem ag42 : tagg Tryd.prog 42 = some false := by kernel_rfl
@[simp] theorem sz42 : tsz Tryd.prog 42 = some 1 := by kernel_rfl
@[simp] theorem ze42 : tzero Tryd.prog 42 = Option.some Go.Value.nilFunc := by kernel_rfl
theorem nf42 : tinf Tryd.prog 42 = some (Option.some Go.Value.nilFunc, 1, 8) := by kernel_rfl
@[simp] theorem ty43 : Tryd.prog.underlying 43 = Option.some (Go.TypeDesc.func #[22, 22] #[4] Bool.false) := by kernel_rfl
@[simp] theorem ag43 : tagg Tryd.prog 43 = some false := by kernel_rfl
@[simp] theorem sz43 : tsz Tryd.prog 43 = some 1 := by kernel_rfl
@[simp] theorem ze43 : tzero Tryd.prog 43 = Option.some Go.Value.nilFunc := by kernel_rfl
theorem nf43 : tinf Tryd.prog 43 = some (Option.some Go.Value.nilFunc, 1, 8) := by kernel_rfl
@[simp] theorem ty44 : Tryd.prog.underlying 44 = Option.some (Go.TypeDesc.func #[22] #[4] Bool.false) := by kernel_rfl
@[simp] theorem ag44 : tagg Tryd.prog 44 = some false := by kernel_rfl
@[simp] theorem sz44 : tsz Tryd.prog 44 = some 1 := by kernel_rfl
@[simp] theorem ze44 : tzero Tryd.prog 44 = Option.some Go.Value.nilFunc := by kernel_rfl
theorem nf44 : tinf Tryd.prog 44 = some (Option.some Go.Value.nilFunc, 1, 8) := by kernel_rfl
@[simp] theorem ty45 : Tryd.prog.underlying 45 = Option.some (Go.TypeDesc.func #[46, 3] #[32] Bool.false) := by kernel_rfl
@[simp] theorem ag45 : tagg Tryd.prog 45 = some false := by kernel_rfl
@[simp] theorem sz45 : tsz Tryd.prog 45 = some 1 := by kernel_rfl
@[simp] theorem ze45 : tzero Tryd.prog 45 = Option.some Go.Value.nilFunc := by kernel_rfl
theorem nf45 : tinf Tryd.prog 45 = some (Option.some Go.Value.nilFunc, 1, 8) := by kernel_rfl
@[simp] theorem ty46 : Tryd.prog.underlying 46 = Option.some (Go.TypeDesc.int Go.IntKind.u64) := by kernel_rfl
@[simp] theorem ag46 : tagg Tryd.prog 46 = some false := by kernel_rfl
@[simp] theorem sz46 : tsz Tryd.prog 46 = some 1 := by kernel_rfl
@[simp] theorem ze46 : tzero Tryd.prog 46 = Option.some (Go.Value.int Go.IntKind.u64 0) := by kernel_rfl
theorem nf46 : tinf Tryd.prog 46 = some (Option.some (Go.Value.int Go.IntKind.u64 0), 1, 8) := by kernel_rfl
@[simp] theorem ty47 : Tryd.prog.underlying 47 = Option.some (Go.TypeDesc.tuple #[32, 26]) := by kernel_rfl
@[simp] theorem ag47 : tagg Tryd.prog 47 = some false := by kernel_rfl
@[simp] theorem sz47 : tsz Tryd.prog 47 = some 1 := by kernel_rfl
@[simp] theorem ze47 : tzero Tryd.prog 47 = Option.some (Go.Value.tuple #[Go.Value.slice Option.none 0 0, Go.Value.int Go.IntKind.i64 0]) := by kernel_rfl
theorem nf47 : tinf Tryd.prog 47 = some (Option.some (Go.Value.tuple #[Go.Value.slice Option.none 0 0, Go.Value.int Go.IntKind.i64 0]), 1, 0) := by kernel_rfl
@[simp] theorem ty48 : Tryd.prog.underlying 48 = Option.some (Go.TypeDesc.func #[5, 25] #[32, 26] Bool.false) := by kernel_rfl
@[simp] theorem ag48 : tagg Tryd.prog 48 = some false := by kernel_rfl
@[simp] theorem sz48 : tsz Tryd.prog 48 = some 1 := by kernel_rfl
@[simp] theorem ze48 : tzero Tryd.prog 48 = Option.some Go.Value.nilFunc := by kernel_rfl
theorem nf48 : tinf Tryd.prog 48 = some (Option.some Go.Value.nilFunc, 1, 8) := by kernel_rfl
@[simp] theorem ty49 : Tryd.prog.underlying 49 = Option.some (Go.TypeDesc.func #[22, 3] #[4] Bool.false) := by kernel_rfl
@[simp] theorem ag49 : tagg Tryd.prog 49 = some false := by kernel_rfl
@[simp] theorem sz49 : tsz Tryd.prog 49 = some 1 := by kernel_rfl
@[simp] theorem ze49 : tzero Tryd.prog 49 = Option.some Go.Value.nilFunc := by kernel_rfl
theorem nf49 : tinf Tryd.prog 49 = some (Option.some Go.Value.nilFunc, 1, 8) := by kernel_rfl
@[simp] theorem ty50 : Tryd.prog.underlying 50 = Option.some (Go.TypeDesc.func #[46, 3] #[9] Bool.false) := by kernel_rfl
@[simp] theorem ag50 : tagg Tryd.prog 50 = some false := by kernel_rfl
@[simp] theorem sz50 : tsz Tryd.prog 50 = some 1 := by kernel_rfl
@[simp] theorem ze50 : tzero Tryd.prog 50 = Option.some Go.Value.nilFunc := by kernel_rfl
theorem nf50 : tinf Tryd.prog 50 = some (Option.some Go.Value.nilFunc, 1, 8) := by kernel_rfl
@[simp] theorem ty51 : Tryd.prog.underlying 51 = Option.some (Go.TypeDesc.tuple #[9, 26]) := by kernel_rfl
@[simp] theorem ag51 : tagg Tryd.prog 51 = some false := by kernel_rfl
@[simp] theorem sz51 : tsz Tryd.prog 51 = some 1 := by kernel_rfl
@[simp] theorem ze51 : tzero Tryd.prog 51 = Option.some (Go.Value.tuple #[Go.Value.string { data := #[] }, Go.Value.int Go.IntKind.i64 0]) := by kernel_rfl
theorem nf51 : tinf Tryd.prog 51 = some (Option.some (Go.Value.tuple #[Go.Value.string { data := #[] }, Go.Value.int Go.IntKind.i64 0]), 1, 0) := by kernel_rfl
@[simp] theorem ty52 : Tryd.prog.underlying 52 = Option.some (Go.TypeDesc.func #[5, 29] #[9, 26] Bool.false) := by kernel_rfl
@[simp] theorem ag52 : tagg Tryd.prog 52 = some false := by kernel_rfl
@[simp] theorem sz52 : tsz Tryd.prog 52 = some 1 := by kernel_rfl
@[simp] theorem ze52 : tzero Tryd.prog 52 = Option.some Go.Value.nilFunc := by kernel_rfl
theorem nf52 : tinf Tryd.prog 52 = some (Option.some Go.Value.nilFunc, 1, 8) := by kernel_rfl
@[simp] theorem ty53 : Tryd.prog.underlying 53 = Option.some (Go.TypeDesc.slice 56) := by kernel_rfl
@[simp] theorem ag53 : tagg Tryd.prog 53 = some false := by kernel_rfl
@[simp] theorem sz53 : tsz Tryd.prog 53 = some 1 := by kernel_rfl
@[simp] theorem ze53 : tzero Tryd.prog 53 = Option.some (Go.Value.slice Option.none 0 0) := by kernel_rfl
theorem nf53 : tinf Tryd.prog 53 = some (Option.some (Go.Value.slice Option.none 0 0), 1, 24) := by kernel_rfl
@[simp] theorem ty54 : Tryd.prog.underlying 54 = Option.some (Go.TypeDesc.struct #[{ name := "l", type := 53, offset := 0, embedded := Bool.false, tag := "", pkgPath := "jalousie/disk", byteOffset := 0 }]) := by kernel_rfl
@[simp] theorem ag54 : tagg Tryd.prog 54 = some true := by kernel_rfl
@[simp] theorem sz54 : tsz Tryd.prog 54 = some 1 := by kernel_rfl
@[simp] theorem ze54 : tzero Tryd.prog 54 = Option.some (Go.Value.agg #[Go.Value.slice Option.none 0 0]) := by kernel_rfl
theorem nf54 : tinf Tryd.prog 54 = some (Option.some (Go.Value.agg #[Go.Value.slice Option.none 0 0]), 1, 24) := by kernel_rfl
@[simp] theorem ty55 : Tryd.prog.underlying 55 = Option.some (Go.TypeDesc.struct #[{ name := "l", type := 53, offset := 0, embedded := Bool.false, tag := "", pkgPath := "jalousie/disk", byteOffset := 0 }]) := by kernel_rfl
@[simp] theorem ag55 : tagg Tryd.prog 55 = some true := by kernel_rfl
@[simp] theorem sz55 : tsz Tryd.prog 55 = some 1 := by kernel_rfl
@[simp] theorem ze55 : tzero Tryd.prog 55 = Option.some (Go.Value.agg #[Go.Value.slice Option.none 0 0]) := by kernel_rfl
theorem nf55 : tinf Tryd.prog 55 = some (Option.some (Go.Value.agg #[Go.Value.slice Option.none 0 0]), 1, 24) := by kernel_rfl
@[simp] theorem ty56 : Tryd.prog.underlying 56 = Option.some (Go.TypeDesc.pointer 60) := by kernel_rfl
@[simp] theorem ag56 : tagg Tryd.prog 56 = some false := by kernel_rfl
@[simp] theorem sz56 : tsz Tryd.prog 56 = some 1 := by kernel_rfl
@[simp] theorem ze56 : tzero Tryd.prog 56 = Option.some (Go.Value.pointer Option.none) := by kernel_rfl
theorem nf56 : tinf Tryd.prog 56 = some (Option.some (Go.Value.pointer Option.none), 1, 8) := by kernel_rfl
@[simp] theorem ty57 : Tryd.prog.underlying 57 = Option.some (Go.TypeDesc.map 3 65) := by kernel_rfl
@[simp] theorem ag57 : tagg Tryd.prog 57 = some false := by kernel_rfl
@[simp] theorem sz57 : tsz Tryd.prog 57 = some 1 := by kernel_rfl
@[simp] theorem ze57 : tzero Tryd.prog 57 = Option.some (Go.Value.map Option.none) := by kernel_rfl
theorem nf57 : tinf Tryd.prog 57 = some (Option.some (Go.Value.map Option.none), 1, 8) := by kernel_rfl
@[simp] theorem ty58 : Tryd.prog.underlying 58 = Option.some (Go.TypeDesc.slice 67) := by kernel_rfl
@[simp] theorem ag58 : tagg Tryd.prog 58 = some false := by kernel_rfl
@[simp] theorem sz58 : tsz Tryd.prog 58 = some 1 := by kernel_rfl
@[simp] theorem ze58 : tzero Tryd.prog 58 = Option.some (Go.Value.slice Option.none 0 0) := by kernel_rfl
theorem nf58 : tinf Tryd.prog 58 = some (Option.some (Go.Value.slice Option.none 0 0), 1, 24) := by kernel_rfl
@[simp] theorem ty59 : Tryd.prog.underlying 59 = Option.some (Go.TypeDesc.struct #[{ name := "size", type := 3, offset := 0, embedded := Bool.false, tag := "", pkgPath := "jalousie/disk", byteOffset := 0 }, { name := "pages", type := 57, offset := 1, embedded := Bool.false, tag := "", pkgPath := "jalousie/disk", byteOffset := 8 }, { name := "loose", type := 58, offset := 2, embedded := Bool.false, tag := "", pkgPath := "jalousie/disk", byteOffset := 16 }, { name := "left", type := 3, offset := 3, embedded := Bool.false, tag := "", pkgPath := "jalousie/disk", byteOffset := 40 }, { name := "down", type := 4, offset := 4, embedded := Bool.false, tag := "", pkgPath := "jalousie/disk", byteOffset := 48 }]) := by kernel_rfl
@[simp] theorem ag59 : tagg Tryd.prog 59 = some true := by kernel_rfl
@[simp] theorem sz59 : tsz Tryd.prog 59 = some 5 := by kernel_rfl
@[simp] theorem ze59 : tzero Tryd.prog 59 = Option.some (Go.Value.agg #[Go.Value.int Go.IntKind.i64 0, Go.Value.map Option.none, Go.Value.slice Option.none 0 0, Go.Value.int Go.IntKind.i64 0, Go.Value.bool Bool.false]) := by kernel_rfl
theorem nf59 : tinf Tryd.prog 59 = some (Option.some (Go.Value.agg #[Go.Value.int Go.IntKind.i64 0, Go.Value.map Option.none, Go.Value.slice Option.none 0 0, Go.Value.int Go.IntKind.i64 0, Go.Value.bool Bool.false]), 5, 56) := by kernel_rfl
@[simp] theorem ty60 : Tryd.prog.underlying 60 = Option.some (Go.TypeDesc.struct #[{ name := "size", type := 3, offset := 0, embedded := Bool.false, tag := "", pkgPath := "jalousie/disk", byteOffset := 0 }, { name := "pages", type := 57, offset := 1, embedded := Bool.false, tag := "", pkgPath := "jalousie/disk", byteOffset := 8 }, { name := "loose", type := 58, offset := 2, embedded := Bool.false, tag := "", pkgPath := "jalousie/disk", byteOffset := 16 }, { name := "left", type := 3, offset := 3, embedded := Bool.false, tag := "", pkgPath := "jalousie/disk", byteOffset := 40 }, { name := "down", type := 4, offset := 4, embedded := Bool.false, tag := "", pkgPath := "jalousie/disk", byteOffset := 48 }]) := by kernel_rfl
@[simp] theorem ag60 : tagg Tryd.prog 60 = some true := by kernel_rfl
@[simp] theorem sz60 : tsz Tryd.prog 60 = some 5 := by kernel_rfl
@[simp] theorem ze60 : tzero Tryd.prog 60 = Option.some (Go.Value.agg #[Go.Value.int Go.IntKind.i64 0, Go.Value.map Option.none, Go.Value.slice Option.none 0 0, Go.Value.int Go.IntKind.i64 0, Go.Value.bool Bool.false]) := by kernel_rfl
theorem nf60 : tinf Tryd.prog 60 = some (Option.some (Go.Value.agg #[Go.Value.int Go.IntKind.i64 0, Go.Value.map Option.none, Go.Value.slice Option.none 0 0, Go.Value.int Go.IntKind.i64 0, Go.Value.bool Bool.false]), 5, 56) := by kernel_rfl
@[simp] theorem ty61 : Tryd.prog.underlying 61 = Option.some (Go.TypeDesc.tuple #[56, 26]) := by kernel_rfl
@[simp] theorem ag61 : tagg Tryd.prog 61 = some false := by kernel_rfl
@[simp] theorem sz61 : tsz Tryd.prog 61 = some 1 := by kernel_rfl
@[simp] theorem ze61 : tzero Tryd.prog 61 = Option.some (Go.Value.tuple #[Go.Value.pointer Option.none, Go.Value.int Go.IntKind.i64 0]) := by kernel_rfl
theorem nf61 : tinf Tryd.prog 61 = some (Option.some (Go.Value.tuple #[Go.Value.pointer Option.none, Go.Value.int Go.IntKind.i64 0]), 1, 0) := by kernel_rfl
@[simp] theorem ty62 : Tryd.prog.underlying 62 = Option.some (Go.TypeDesc.func #[3, 3] #[56, 26] Bool.false) := by kernel_rfl
@[simp] theorem ag62 : tagg Tryd.prog 62 = some false := by kernel_rfl
@[simp] theorem sz62 : tsz Tryd.prog 62 = some 1 := by kernel_rfl
@[simp] theorem ze62 : tzero Tryd.prog 62 = Option.some Go.Value.nilFunc := by kernel_rfl
theorem nf62 : tinf Tryd.prog 62 = some (Option.some Go.Value.nilFunc, 1, 8) := by kernel_rfl
@[simp] theorem ty63 : Tryd.prog.underlying 63 = Option.some (Go.TypeDesc.func #[] #[26] Bool.false) := by kernel_rfl
@[simp] theorem ag63 : tagg Tryd.prog 63 = some false := by kernel_rfl
@[simp] theorem sz63 : tsz Tryd.prog 63 = some 1 := by kernel_rfl
@[simp] theorem ze63 : tzero Tryd.prog 63 = Option.some Go.Value.nilFunc := by kernel_rfl
theorem nf63 : tinf Tryd.prog 63 = some (Option.some Go.Value.nilFunc, 1, 8) := by kernel_rfl
@[simp] theorem ty64 : Tryd.prog.underlying 64 = Option.some (Go.TypeDesc.array 128 5) := by kernel_rfl
@[simp] theorem ag64 : tagg Tryd.prog 64 = some true := by kernel_rfl
@[simp] theorem sz64 : tsz Tryd.prog 64 = some 128 := by kernel_rfl
@[simp] theorem ze64 : tzero Tryd.prog 64 = Option.some (Go.Value.agg ([Go.Value.int Go.IntKind.u8 0, Go.Value.int Go.IntKind.u8 0, Go.Value.int Go.IntKind.u8 0, Go.Value.int Go.IntKind.u8 0, Go.Value.int Go.IntKind.u8 0, Go.Value.int Go.IntKind.u8 0, Go.Value.int Go.IntKind.u8 0, Go.Value.int Go.IntKind.u8 0, Go.Value.int Go.IntKind.u8 0, Go.Value.int Go.IntKind.u8 0, Go.Value.int Go.IntKind.u8 0, Go.Value.int Go.IntKind.u8 0, Go.Value.int Go.IntKind.u8 0, Go.Value.int Go.IntKind.u8 0, Go.Value.int Go.IntKind.u8 0, Go.Value.int Go.IntKind.u8 0, Go.Value.int Go.IntKind.u8 0, Go.Value.int Go.IntKind.u8 0, Go.Value.int Go.IntKind.u8 0, Go.Value.int Go.IntKind.u8 0, Go.Value.int Go.IntKind.u8 0, Go.Value.int Go.IntKind.u8 0, Go.Value.int Go.IntKind.u8 0, Go.Value.int Go.IntKind.u8 0, Go.Value.int Go.IntKind.u8 0, Go.Value.int Go.IntKind.u8 0, Go.Value.int Go.IntKind.u8 0, Go.Value.int Go.IntKind.u8 0, Go.Value.int Go.IntKind.u8 0, Go.Value.int Go.IntKind.u8 0, Go.Value.int Go.IntKind.u8 0, Go.Value.int Go.IntKind.u8 0, Go.Value.int Go.IntKind.u8 0, Go.Value.int Go.IntKind.u8 0, Go.Value.int Go.IntKind.u8 0, Go.Value.int Go.IntKind.u8 0, Go.Value.int Go.IntKind.u8 0, Go.Value.int Go.IntKind.u8 0, Go.Value.int Go.IntKind.u8 0, Go.Value.int Go.IntKind.u8 0, Go.Value.int Go.IntKind.u8 0, Go.Value.int Go.IntKind.u8 0, Go.Value.int Go.IntKind.u8 0, Go.Value.int Go.IntKind.u8 0, Go.Value.int Go.IntKind.u8 0, Go.Value.int Go.IntKind.u8 0, Go.Value.int Go.IntKind.u8 0, Go.Value.int Go.IntKind.u8 0, Go.Value.int Go.IntKind.u8 0, Go.Value.int Go.IntKind.u8 0, Go.Value.int Go.IntKind.u8 0, Go.Value.int Go.IntKind.u8 0, Go.Value.int Go.IntKind.u8 0, Go.Value.int Go.IntKind.u8 0, Go.Value.int Go.IntKind.u8 0, Go.Value.int Go.IntKind.u8 0, Go.Value.int Go.IntKind.u8 0, Go.Value.int Go.IntKind.u8 0, Go.Value.int Go.IntKind.u8 0, Go.Value.int Go.IntKind.u8 0, Go.Value.int Go.IntKind.u8 0, Go.Value.int Go.IntKind.u8 0, Go.Value.int Go.IntKind.u8 0, Go.Value.int Go.IntKind.u8 0].append [Go.Value.int Go.IntKind.u8 0, Go.Value.int Go.IntKind.u8 0, Go.Value.int Go.IntKind.u8 0, Go.Value.int Go.IntKind.u8 0, Go.Value.int Go.IntKind.u8 0, Go.Value.int Go.IntKind.u8 0, Go.Value.int Go.IntKind.u8 0, Go.Value.int Go.IntKind.u8 0, Go.Value.int Go.IntKind.u8 0, Go.Value.int Go.IntKind.u8 0, Go.Value.int Go.IntKind.u8 0, Go.Value.int Go.IntKind.u8 0, Go.Value.int Go.IntKind.u8 0, Go.Value.int Go.IntKind.u8 0, Go.Value.int Go.IntKind.u8 0, Go.Value.int Go.IntKind.u8 0, Go.Value.int Go.IntKind.u8 0, Go.Value.int Go.IntKind.u8 0, Go.Value.int Go.IntKind.u8 0, Go.Value.int Go.IntKind.u8 0, Go.Value.int Go.IntKind.u8 0, Go.Value.int Go.IntKind.u8 0, Go.Value.int Go.IntKind.u8 0, Go.Value.int Go.IntKind.u8 0, Go.Value.int Go.IntKind.u8 0, Go.Value.int Go.IntKind.u8 0, Go.Value.int Go.IntKind.u8 0, Go.Value.int Go.IntKind.u8 0, Go.Value.int Go.IntKind.u8 0, Go.Value.int Go.IntKind.u8 0, Go.Value.int Go.IntKind.u8 0, Go.Value.int Go.IntKind.u8 0, Go.Value.int Go.IntKind.u8 0, Go.Value.int Go.IntKind.u8 0, Go.Value.int Go.IntKind.u8 0, Go.Value.int Go.IntKind.u8 0, Go.Value.int Go.IntKind.u8 0, Go.Value.int Go.IntKind.u8 0, Go.Value.int Go.IntKind.u8 0, Go.Value.int Go.IntKind.u8 0, Go.Value.int Go.IntKind.u8 0, Go.Value.int Go.IntKind.u8 0, Go.Value.int Go.IntKind.u8 0, Go.Value.int Go.IntKind.u8 0, Go.Value.int Go.IntKind.u8 0, Go.Value.int Go.IntKind.u8 0, Go.Value.int Go.IntKind.u8 0, Go.Value.int Go.IntKind.u8 0, Go.Value.int Go.IntKind.u8 0, Go.Value.int Go.IntKind.u8 0, Go.Value.int Go.IntKind.u8 0, Go.Value.int Go.IntKind.u8 0, Go.Value.int Go.IntKind.u8 0, Go.Value.int Go.IntKind.u8 0, Go.Value.int Go.IntKind.u8 0, Go.Value.int Go.IntKind.u8 0, Go.Value.int Go.IntKind.u8 0, Go.Value.int Go.IntKind.u8 0, Go.Value.int Go.IntKind.u8 0, Go.Value.int Go.IntKind.u8 0, Go.Value.int Go.IntKind.u8 0, Go.Value.int Go.IntKind.u8 0, Go.Value.int Go.IntKind.u8 0, Go.Value.int Go.IntKind.u8 0]).toArray) := by kernel_rfl
theorem nf64 : tinf Tryd.prog 64 = some (Option.some (Go.Value.agg ([Go.Value.int Go.IntKind.u8 0, Go.Value.int Go.IntKind.u8 0, Go.Value.int Go.IntKind.u8 0, Go.Value.int Go.IntKind.u8 0, Go.Value.int Go.IntKind.u8 0, Go.Value.int Go.IntKind.u8 0, Go.Value.int Go.IntKind.u8 0, Go.Value.int Go.IntKind.u8 0, Go.Value.int Go.IntKind.u8 0, Go.Value.int Go.IntKind.u8 0, Go.Value.int Go.IntKind.u8 0, Go.Value.int Go.IntKind.u8 0, Go.Value.int Go.IntKind.u8 0, Go.Value.int Go.IntKind.u8 0, Go.Value.int Go.IntKind.u8 0, Go.Value.int Go.IntKind.u8 0, Go.Value.int Go.IntKind.u8 0, Go.Value.int Go.IntKind.u8 0, Go.Value.int Go.IntKind.u8 0, Go.Value.int Go.IntKind.u8 0, Go.Value.int Go.IntKind.u8 0, Go.Value.int Go.IntKind.u8 0, Go.Value.int Go.IntKind.u8 0, Go.Value.int Go.IntKind.u8 0, Go.Value.int Go.IntKind.u8 0, Go.Value.int Go.IntKind.u8 0, Go.Value.int Go.IntKind.u8 0, Go.Value.int Go.IntKind.u8 0, Go.Value.int Go.IntKind.u8 0, Go.Value.int Go.IntKind.u8 0, Go.Value.int Go.IntKind.u8 0, Go.Value.int Go.IntKind.u8 0, Go.Value.int Go.IntKind.u8 0, Go.Value.int Go.IntKind.u8 0, Go.Value.int Go.IntKind.u8 0, Go.Value.int Go.IntKind.u8 0, Go.Value.int Go.IntKind.u8 0, Go.Value.int Go.IntKind.u8 0, Go.Value.int Go.IntKind.u8 0, Go.Value.int Go.IntKind.u8 0, Go.Value.int Go.IntKind.u8 0, Go.Value.int Go.IntKind.u8 0, Go.Value.int Go.IntKind.u8 0, Go.Value.int Go.IntKind.u8 0, Go.Value.int Go.IntKind.u8 0, Go.Value.int Go.IntKind.u8 0, Go.Value.int Go.IntKind.u8 0, Go.Value.int Go.IntKind.u8 0, Go.Value.int Go.IntKind.u8 0, Go.Value.int Go.IntKind.u8 0, Go.Value.int Go.IntKind.u8 0, Go.Value.int Go.IntKind.u8 0, Go.Value.int Go.IntKind.u8 0, Go.Value.int Go.IntKind.u8 0, Go.Value.int Go.IntKind.u8 0, Go.Value.int Go.IntKind.u8 0, Go.Value.int Go.IntKind.u8 0, Go.Value.int Go.IntKind.u8 0, Go.Value.int Go.IntKind.u8 0, Go.Value.int Go.IntKind.u8 0, Go.Value.int Go.IntKind.u8 0, Go.Value.int Go.IntKind.u8 0, Go.Value.int Go.IntKind.u8 0, Go.Value.int Go.IntKind.u8 0].append [Go.Value.int Go.IntKind.u8 0, Go.Value.int Go.IntKind.u8 0, Go.Value.int Go.IntKind.u8 0, Go.Value.int Go.IntKind.u8 0, Go.Value.int Go.IntKind.u8 0, Go.Value.int Go.IntKind.u8 0, Go.Value.int Go.IntKind.u8 0, Go.Value.int Go.IntKind.u8 0, Go.Value.int Go.IntKind.u8 0, Go.Value.int Go.IntKind.u8 0, Go.Value.int Go.IntKind.u8 0, Go.Value.int Go.IntKind.u8 0, Go.Value.int Go.IntKind.u8 0, Go.Value.int Go.IntKind.u8 0, Go.Value.int Go.IntKind.u8 0, Go.Value.int Go.IntKind.u8 0, Go.Value.int Go.IntKind.u8 0, Go.Value.int Go.IntKind.u8 0, Go.Value.int Go.IntKind.u8 0, Go.Value.int Go.IntKind.u8 0, Go.Value.int Go.IntKind.u8 0, Go.Value.int Go.IntKind.u8 0, Go.Value.int Go.IntKind.u8 0, Go.Value.int Go.IntKind.u8 0, Go.Value.int Go.IntKind.u8 0, Go.Value.int Go.IntKind.u8 0, Go.Value.int Go.IntKind.u8 0, Go.Value.int Go.IntKind.u8 0, Go.Value.int Go.IntKind.u8 0, Go.Value.int Go.IntKind.u8 0, Go.Value.int Go.IntKind.u8 0, Go.Value.int Go.IntKind.u8 0, Go.Value.int Go.IntKind.u8 0, Go.Value.int Go.IntKind.u8 0, Go.Value.int Go.IntKind.u8 0, Go.Value.int Go.IntKind.u8 0, Go.Value.int Go.IntKind.u8 0, Go.Value.int Go.IntKind.u8 0, Go.Value.int Go.IntKind.u8 0, Go.Value.int Go.IntKind.u8 0, Go.Value.int Go.IntKind.u8 0, Go.Value.int Go.IntKind.u8 0, Go.Value.int Go.IntKind.u8 0, Go.Value.int Go.IntKind.u8 0, Go.Value.int Go.IntKind.u8 0, Go.Value.int Go.IntKind.u8 0, Go.Value.int Go.IntKind.u8 0, Go.Value.int Go.IntKind.u8 0, Go.Value.int Go.IntKind.u8 0, Go.Value.int Go.IntKind.u8 0, Go.Value.int Go.IntKind.u8 0, Go.Value.int Go.IntKind.u8 0, Go.Value.int Go.IntKind.u8 0, Go.Value.int Go.IntKind.u8 0, Go.Value.int Go.IntKind.u8 0, Go.Value.int Go.IntKind.u8 0, Go.Value.int Go.IntKind.u8 0, Go.Value.int Go.IntKind.u8 0, Go.Value.int Go.IntKind.u8 0, Go.Value.int Go.IntKind.u8 0, Go.Value.int Go.IntKind.u8 0, Go.Value.int Go.IntKind.u8 0, Go.Value.int Go.IntKind.u8 0, Go.Value.int Go.IntKind.u8 0]).toArray), 128, 128) := by kernel_rfl
@[simp] theorem ty65 : Tryd.prog.underlying 65 = Option.some (Go.TypeDesc.array 128 5) := by kernel_rfl
@[simp] theorem ag65 : tagg Tryd.prog 65 = some true := by kernel_rfl
@[simp] theorem sz65 : tsz Tryd.prog 65 = some 128 := by kernel_rfl
@[simp] theorem ze65 : tzero Tryd.prog 65 = Option.some (Go.Value.agg ([Go.Value.int Go.IntKind.u8 0, Go.Value.int Go.IntKind.u8 0, Go.Value.int Go.IntKind.u8 0, Go.Value.int Go.IntKind.u8 0, Go.Value.int Go.IntKind.u8 0, Go.Value.int Go.IntKind.u8 0, Go.Value.int Go.IntKind.u8 0, Go.Value.int Go.IntKind.u8 0, Go.Value.int Go.IntKind.u8 0, Go.Value.int Go.IntKind.u8 0, Go.Value.int Go.IntKind.u8 0, Go.Value.int Go.IntKind.u8 0, Go.Value.int Go.IntKind.u8 0, Go.Value.int Go.IntKind.u8 0, Go.Value.int Go.IntKind.u8 0, Go.Value.int Go.IntKind.u8 0, Go.Value.int Go.IntKind.u8 0, Go.Value.int Go.IntKind.u8 0, Go.Value.int Go.IntKind.u8 0, Go.Value.int Go.IntKind.u8 0, Go.Value.int Go.IntKind.u8 0, Go.Value.int Go.IntKind.u8 0, Go.Value.int Go.IntKind.u8 0, Go.Value.int Go.IntKind.u8 0, Go.Value.int Go.IntKind.u8 0, Go.Value.int Go.IntKind.u8 0, Go.Value.int Go.IntKind.u8 0, Go.Value.int Go.IntKind.u8 0, Go.Value.int Go.IntKind.u8 0, Go.Value.int Go.IntKind.u8 0, Go.Value.int Go.IntKind.u8 0, Go.Value.int Go.IntKind.u8 0, Go.Value.int Go.IntKind.u8 0, Go.Value.int Go.IntKind.u8 0, Go.Value.int Go.IntKind.u8 0, Go.Value.int Go.IntKind.u8 0, Go.Value.int Go.IntKind.u8 0, Go.Value.int Go.IntKind.u8 0, Go.Value.int Go.IntKind.u8 0, Go.Value.int Go.IntKind.u8 0, Go.Value.int Go.IntKind.u8 0, Go.Value.int Go.IntKind.u8 0, Go.Value.int Go.IntKind.u8 0, Go.Value.int Go.IntKind.u8 0, Go.Value.int Go.IntKind.u8 0, Go.Value.int Go.IntKind.u8 0, Go.Value.int Go.IntKind.u8 0, Go.Value.int Go.IntKind.u8 0, Go.Value.int Go.IntKind.u8 0, Go.Value.int Go.IntKind.u8 0, Go.Value.int Go.IntKind.u8 0, Go.Value.int Go.IntKind.u8 0, Go.Value.int Go.IntKind.u8 0, Go.Value.int Go.IntKind.u8 0, Go.Value.int Go.IntKind.u8 0, Go.Value.int Go.IntKind.u8 0, Go.Value.int Go.IntKind.u8 0, Go.Value.int Go.IntKind.u8 0, Go.Value.int Go.IntKind.u8 0, Go.Value.int Go.IntKind.u8 0, Go.Value.int Go.IntKind.u8 0, Go.Value.int Go.IntKind.u8 0, Go.Value.int Go.IntKind.u8 0, Go.Value.int Go.IntKind.u8 0].append [Go.Value.int Go.IntKind.u8 0, Go.Value.int Go.IntKind.u8 0, Go.Value.int Go.IntKind.u8 0, Go.Value.int Go.IntKind.u8 0, Go.Value.int Go.IntKind.u8 0, Go.Value.int Go.IntKind.u8 0, Go.Value.int Go.IntKind.u8 0, Go.Value.int Go.IntKind.u8 0, Go.Value.int Go.IntKind.u8 0, Go.Value.int Go.IntKind.u8 0, Go.Value.int Go.IntKind.u8 0, Go.Value.int Go.IntKind.u8 0, Go.Value.int Go.IntKind.u8 0, Go.Value.int Go.IntKind.u8 0, Go.Value.int Go.IntKind.u8 0, Go.Value.int Go.IntKind.u8 0, Go.Value.int Go.IntKind.u8 0, Go.Value.int Go.IntKind.u8 0, Go.Value.int Go.IntKind.u8 0, Go.Value.int Go.IntKind.u8 0, Go.Value.int Go.IntKind.u8 0, Go.Value.int Go.IntKind.u8 0, Go.Value.int Go.IntKind.u8 0, Go.Value.int Go.IntKind.u8 0, Go.Value.int Go.IntKind.u8 0, Go.Value.int Go.IntKind.u8 0, Go.Value.int Go.IntKind.u8 0, Go.Value.int Go.IntKind.u8 0, Go.Value.int Go.IntKind.u8 0, Go.Value.int Go.IntKind.u8 0, Go.Value.int Go.IntKind.u8 0, Go.Value.int Go.IntKind.u8 0, Go.Value.int Go.IntKind.u8 0, Go.Value.int Go.IntKind.u8 0, Go.Value.int Go.IntKind.u8 0, Go.Value.int Go.IntKind.u8 0, Go.Value.int Go.IntKind.u8 0, Go.Value.int Go.IntKind.u8 0, Go.Value.int Go.IntKind.u8 0, Go.Value.int Go.IntKind.u8 0, Go.Value.int Go.IntKind.u8 0, Go.Value.int Go.IntKind.u8 0, Go.Value.int Go.IntKind.u8 0, Go.Value.int Go.IntKind.u8 0, Go.Value.int Go.IntKind.u8 0, Go.Value.int Go.IntKind.u8 0, Go.Value.int Go.IntKind.u8 0, Go.Value.int Go.IntKind.u8 0, Go.Value.int Go.IntKind.u8 0, Go.Value.int Go.IntKind.u8 0, Go.Value.int Go.IntKind.u8 0, Go.Value.int Go.IntKind.u8 0, Go.Value.int Go.IntKind.u8 0, Go.Value.int Go.IntKind.u8 0, Go.Value.int Go.IntKind.u8 0, Go.Value.int Go.IntKind.u8 0, Go.Value.int Go.IntKind.u8 0, Go.Value.int Go.IntKind.u8 0, Go.Value.int Go.IntKind.u8 0, Go.Value.int Go.IntKind.u8 0, Go.Value.int Go.IntKind.u8 0, Go.Value.int Go.IntKind.u8 0, Go.Value.int Go.IntKind.u8 0, Go.Value.int Go.IntKind.u8 0]).toArray) := by kernel_rfl
theorem nf65 : tinf Tryd.prog 65 = some (Option.some (Go.Value.agg ([Go.Value.int Go.IntKind.u8 0, Go.Value.int Go.IntKind.u8 0, Go.Value.int Go.IntKind.u8 0, Go.Value.int Go.IntKind.u8 0, Go.Value.int Go.IntKind.u8 0, Go.Value.int Go.IntKind.u8 0, Go.Value.int Go.IntKind.u8 0, Go.Value.int Go.IntKind.u8 0, Go.Value.int Go.IntKind.u8 0, Go.Value.int Go.IntKind.u8 0, Go.Value.int Go.IntKind.u8 0, Go.Value.int Go.IntKind.u8 0, Go.Value.int Go.IntKind.u8 0, Go.Value.int Go.IntKind.u8 0, Go.Value.int Go.IntKind.u8 0, Go.Value.int Go.IntKind.u8 0, Go.Value.int Go.IntKind.u8 0, Go.Value.int Go.IntKind.u8 0, Go.Value.int Go.IntKind.u8 0, Go.Value.int Go.IntKind.u8 0, Go.Value.int Go.IntKind.u8 0, Go.Value.int Go.IntKind.u8 0, Go.Value.int Go.IntKind.u8 0, Go.Value.int Go.IntKind.u8 0, Go.Value.int Go.IntKind.u8 0, Go.Value.int Go.IntKind.u8 0, Go.Value.int Go.IntKind.u8 0, Go.Value.int Go.IntKind.u8 0, Go.Value.int Go.IntKind.u8 0, Go.Value.int Go.IntKind.u8 0, Go.Value.int Go.IntKind.u8 0, Go.Value.int Go.IntKind.u8 0, Go.Value.int Go.IntKind.u8 0, Go.Value.int Go.IntKind.u8 0, Go.Value.int Go.IntKind.u8 0, Go.Value.int Go.IntKind.u8 0, Go.Value.int Go.IntKind.u8 0, Go.Value.int Go.IntKind.u8 0, Go.Value.int Go.IntKind.u8 0, Go.Value.int Go.IntKind.u8 0, Go.Value.int Go.IntKind.u8 0, Go.Value.int Go.IntKind.u8 0, Go.Value.int Go.IntKind.u8 0, Go.Value.int Go.IntKind.u8 0, Go.Value.int Go.IntKind.u8 0, Go.Value.int Go.IntKind.u8 0, Go.Value.int Go.IntKind.u8 0, Go.Value.int Go.IntKind.u8 0, Go.Value.int Go.IntKind.u8 0, Go.Value.int Go.IntKind.u8 0, Go.Value.int Go.IntKind.u8 0, Go.Value.int Go.IntKind.u8 0, Go.Value.int Go.IntKind.u8 0, Go.Value.int Go.IntKind.u8 0, Go.Value.int Go.IntKind.u8 0, Go.Value.int Go.IntKind.u8 0, Go.Value.int Go.IntKind.u8 0, Go.Value.int Go.IntKind.u8 0, Go.Value.int Go.IntKind.u8 0, Go.Value.int Go.IntKind.u8 0, Go.Value.int Go.IntKind.u8 0, Go.Value.int Go.IntKind.u8 0, Go.Value.int Go.IntKind.u8 0, Go.Value.int Go.IntKind.u8 0].append [Go.Value.int Go.IntKind.u8 0, Go.Value.int Go.IntKind.u8 0, Go.Value.int Go.IntKind.u8 0, Go.Value.int Go.IntKind.u8 0, Go.Value.int Go.IntKind.u8 0, Go.Value.int Go.IntKind.u8 0, Go.Value.int Go.IntKind.u8 0, Go.Value.int Go.IntKind.u8 0, Go.Value.int Go.IntKind.u8 0, Go.Value.int Go.IntKind.u8 0, Go.Value.int Go.IntKind.u8 0, Go.Value.int Go.IntKind.u8 0, Go.Value.int Go.IntKind.u8 0, Go.Value.int Go.IntKind.u8 0, Go.Value.int Go.IntKind.u8 0, Go.Value.int Go.IntKind.u8 0, Go.Value.int Go.IntKind.u8 0, Go.Value.int Go.IntKind.u8 0, Go.Value.int Go.IntKind.u8 0, Go.Value.int Go.IntKind.u8 0, Go.Value.int Go.IntKind.u8 0, Go.Value.int Go.IntKind.u8 0, Go.Value.int Go.IntKind.u8 0, Go.Value.int Go.IntKind.u8 0, Go.Value.int Go.IntKind.u8 0, Go.Value.int Go.IntKind.u8 0, Go.Value.int Go.IntKind.u8 0, Go.Value.int Go.IntKind.u8 0, Go.Value.int Go.IntKind.u8 0, Go.Value.int Go.IntKind.u8 0, Go.Value.int Go.IntKind.u8 0, Go.Value.int Go.IntKind.u8 0, Go.Value.int Go.IntKind.u8 0, Go.Value.int Go.IntKind.u8 0, Go.Value.int Go.IntKind.u8 0, Go.Value.int Go.IntKind.u8 0, Go.Value.int Go.IntKind.u8 0, Go.Value.int Go.IntKind.u8 0, Go.Value.int Go.IntKind.u8 0, Go.Value.int Go.IntKind.u8 0, Go.Value.int Go.IntKind.u8 0, Go.Value.int Go.IntKind.u8 0, Go.Value.int Go.IntKind.u8 0, Go.Value.int Go.IntKind.u8 0, Go.Value.int Go.IntKind.u8 0, Go.Value.int Go.IntKind.u8 0, Go.Value.int Go.IntKind.u8 0, Go.Value.int Go.IntKind.u8 0, Go.Value.int Go.IntKind.u8 0, Go.Value.int Go.IntKind.u8 0, Go.Value.int Go.IntKind.u8 0, Go.Value.int Go.IntKind.u8 0, Go.Value.int Go.IntKind.u8 0, Go.Value.int Go.IntKind.u8 0, Go.Value.int Go.IntKind.u8 0, Go.Value.int Go.IntKind.u8 0, Go.Value.int Go.IntKind.u8 0, Go.Value.int Go.IntKind.u8 0, Go.Value.int Go.IntKind.u8 0, Go.Value.int Go.IntKind.u8 0, Go.Value.int Go.IntKind.u8 0, Go.Value.int Go.IntKind.u8 0, Go.Value.int Go.IntKind.u8 0, Go.Value.int Go.IntKind.u8 0]).toArray), 128, 128) := by kernel_rfl
@[simp] theorem ty66 : Tryd.prog.underlying 66 = Option.some (Go.TypeDesc.struct #[{ name := "at", type := 3, offset := 0, embedded := Bool.false, tag := "", pkgPath := "jalousie/disk", byteOffset := 0 }, { name := "b", type := 65, offset := 1, embedded := Bool.false, tag := "", pkgPath := "jalousie/disk", byteOffset := 8 }]) := by kernel_rfl
@[simp] theorem ag66 : tagg Tryd.prog 66 = some true := by kernel_rfl
@[simp] theorem sz66 : tsz Tryd.prog 66 = some 129 := by kernel_rfl
@[simp] theorem ze66 : tzero Tryd.prog 66 = Option.some (Go.Value.agg ([Go.Value.int Go.IntKind.i64 0, Go.Value.int Go.IntKind.u8 0, Go.Value.int Go.IntKind.u8 0, Go.Value.int Go.IntKind.u8 0, Go.Value.int Go.IntKind.u8 0, Go.Value.int Go.IntKind.u8 0, Go.Value.int Go.IntKind.u8 0, Go.Value.int Go.IntKind.u8 0, Go.Value.int Go.IntKind.u8 0, Go.Value.int Go.IntKind.u8 0, Go.Value.int Go.IntKind.u8 0, Go.Value.int Go.IntKind.u8 0, Go.Value.int Go.IntKind.u8 0, Go.Value.int Go.IntKind.u8 0, Go.Value.int Go.IntKind.u8 0, Go.Value.int Go.IntKind.u8 0, Go.Value.int Go.IntKind.u8 0, Go.Value.int Go.IntKind.u8 0, Go.Value.int Go.IntKind.u8 0, Go.Value.int Go.IntKind.u8 0, Go.Value.int Go.IntKind.u8 0, Go.Value.int Go.IntKind.u8 0, Go.Value.int Go.IntKind.u8 0, Go.Value.int Go.IntKind.u8 0, Go.Value.int Go.IntKind.u8 0, Go.Value.int Go.IntKind.u8 0, Go.Value.int Go.IntKind.u8 0, Go.Value.int Go.IntKind.u8 0, Go.Value.int Go.IntKind.u8 0, Go.Value.int Go.IntKind.u8 0, Go.Value.int Go.IntKind.u8 0, Go.Value.int Go.IntKind.u8 0, Go.Value.int Go.IntKind.u8 0, Go.Value.int Go.IntKind.u8 0, Go.Value.int Go.IntKind.u8 0, Go.Value.int Go.IntKind.u8 0, Go.Value.int Go.IntKind.u8 0, Go.Value.int Go.IntKind.u8 0, Go.Value.int Go.IntKind.u8 0, Go.Value.int Go.IntKind.u8 0, Go.Value.int Go.IntKind.u8 0, Go.Value.int Go.IntKind.u8 0, Go.Value.int Go.IntKind.u8 0, Go.Value.int Go.IntKind.u8 0, Go.Value.int Go.IntKind.u8 0, Go.Value.int Go.IntKind.u8 0, Go.Value.int Go.IntKind.u8 0, Go.Value.int Go.IntKind.u8 0, Go.Value.int Go.IntKind.u8 0, Go.Value.int Go.IntKind.u8 0, Go.Value.int Go.IntKind.u8 0, Go.Value.int Go.IntKind.u8 0, Go.Value.int Go.IntKind.u8 0, Go.Value.int Go.IntKind.u8 0, Go.Value.int Go.IntKind.u8 0, Go.Value.int Go.IntKind.u8 0, Go.Value.int Go.IntKind.u8 0, Go.Value.int Go.IntKind.u8 0, Go.Value.int Go.IntKind.u8 0, Go.Value.int Go.IntKind.u8 0, Go.Value.int Go.IntKind.u8 0, Go.Value.int Go.IntKind.u8 0, Go.Value.int Go.IntKind.u8 0, Go.Value.int Go.IntKind.u8 0].append ([Go.Value.int Go.IntKind.u8 0, Go.Value.int Go.IntKind.u8 0, Go.Value.int Go.IntKind.u8 0, Go.Value.int Go.IntKind.u8 0, Go.Value.int Go.IntKind.u8 0, Go.Value.int Go.IntKind.u8 0, Go.Value.int Go.IntKind.u8 0, Go.Value.int Go.IntKind.u8 0, Go.Value.int Go.IntKind.u8 0, Go.Value.int Go.IntKind.u8 0, Go.Value.int Go.IntKind.u8 0, Go.Value.int Go.IntKind.u8 0, Go.Value.int Go.IntKind.u8 0, Go.Value.int Go.IntKind.u8 0, Go.Value.int Go.IntKind.u8 0, Go.Value.int Go.IntKind.u8 0, Go.Value.int Go.IntKind.u8 0, Go.Value.int Go.IntKind.u8 0, Go.Value.int Go.IntKind.u8 0, Go.Value.int Go.IntKind.u8 0, Go.Value.int Go.IntKind.u8 0, Go.Value.int Go.IntKind.u8 0, Go.Value.int Go.IntKind.u8 0, Go.Value.int Go.IntKind.u8 0, Go.Value.int Go.IntKind.u8 0, Go.Value.int Go.IntKind.u8 0, Go.Value.int Go.IntKind.u8 0, Go.Value.int Go.IntKind.u8 0, Go.Value.int Go.IntKind.u8 0, Go.Value.int Go.IntKind.u8 0, Go.Value.int Go.IntKind.u8 0, Go.Value.int Go.IntKind.u8 0].append [Go.Value.int Go.IntKind.u8 0, Go.Value.int Go.IntKind.u8 0, Go.Value.int Go.IntKind.u8 0, Go.Value.int Go.IntKind.u8 0, Go.Value.int Go.IntKind.u8 0, Go.Value.int Go.IntKind.u8 0, Go.Value.int Go.IntKind.u8 0, Go.Value.int Go.IntKind.u8 0, Go.Value.int Go.IntKind.u8 0, Go.Value.int Go.IntKind.u8 0, Go.Value.int Go.IntKind.u8 0, Go.Value.int Go.IntKind.u8 0, Go.Value.int Go.IntKind.u8 0, Go.Value.int Go.IntKind.u8 0, Go.Value.int Go.IntKind.u8 0, Go.Value.int Go.IntKind.u8 0, Go.Value.int Go.IntKind.u8 0, Go.Value.int Go.IntKind.u8 0, Go.Value.int Go.IntKind.u8 0, Go.Value.int Go.IntKind.u8 0, Go.Value.int Go.IntKind.u8 0, Go.Value.int Go.IntKind.u8 0, Go.Value.int Go.IntKind.u8 0, Go.Value.int Go.IntKind.u8 0, Go.Value.int Go.IntKind.u8 0, Go.Value.int Go.IntKind.u8 0, Go.Value.int Go.IntKind.u8 0, Go.Value.int Go.IntKind.u8 0, Go.Value.int Go.IntKind.u8 0, Go.Value.int Go.IntKind.u8 0, Go.Value.int Go.IntKind.u8 0, Go.Value.int Go.IntKind.u8 0, Go.Value.int Go.IntKind.u8 0])).toArray) := by kernel_rfl
theorem nf66 : tinf Tryd.prog 66 = some (Option.some (Go.Value.agg ([Go.Value.int Go.IntKind.i64 0, Go.Value.int Go.IntKind.u8 0, Go.Value.int Go.IntKind.u8 0, Go.Value.int Go.IntKind.u8 0, Go.Value.int Go.IntKind.u8 0, Go.Value.int Go.IntKind.u8 0, Go.Value.int Go.IntKind.u8 0, Go.Value.int Go.IntKind.u8 0, Go.Value.int Go.IntKind.u8 0, Go.Value.int Go.IntKind.u8 0, Go.Value.int Go.IntKind.u8 0, Go.Value.int Go.IntKind.u8 0, Go.Value.int Go.IntKind.u8 0, Go.Value.int Go.IntKind.u8 0, Go.Value.int Go.IntKind.u8 0, Go.Value.int Go.IntKind.u8 0, Go.Value.int Go.IntKind.u8 0, Go.Value.int Go.IntKind.u8 0, Go.Value.int Go.IntKind.u8 0, Go.Value.int Go.IntKind.u8 0, Go.Value.int Go.IntKind.u8 0, Go.Value.int Go.IntKind.u8 0, Go.Value.int Go.IntKind.u8 0, Go.Value.int Go.IntKind.u8 0, Go.Value.int Go.IntKind.u8 0, Go.Value.int Go.IntKind.u8 0, Go.Value.int Go.IntKind.u8 0, Go.Value.int Go.IntKind.u8 0, Go.Value.int Go.IntKind.u8 0, Go.Value.int Go.IntKind.u8 0, Go.Value.int Go.IntKind.u8 0, Go.Value.int Go.IntKind.u8 0, Go.Value.int Go.IntKind.u8 0, Go.Value.int Go.IntKind.u8 0, Go.Value.int Go.IntKind.u8 0, Go.Value.int Go.IntKind.u8 0, Go.Value.int Go.IntKind.u8 0, Go.Value.int Go.IntKind.u8 0, Go.Value.int Go.IntKind.u8 0, Go.Value.int Go.IntKind.u8 0, Go.Value.int Go.IntKind.u8 0, Go.Value.int Go.IntKind.u8 0, Go.Value.int Go.IntKind.u8 0, Go.Value.int Go.IntKind.u8 0, Go.Value.int Go.IntKind.u8 0, Go.Value.int Go.IntKind.u8 0, Go.Value.int Go.IntKind.u8 0, Go.Value.int Go.IntKind.u8 0, Go.Value.int Go.IntKind.u8 0, Go.Value.int Go.IntKind.u8 0, Go.Value.int Go.IntKind.u8 0, Go.Value.int Go.IntKind.u8 0, Go.Value.int Go.IntKind.u8 0, Go.Value.int Go.IntKind.u8 0, Go.Value.int Go.IntKind.u8 0, Go.Value.int Go.IntKind.u8 0, Go.Value.int Go.IntKind.u8 0, Go.Value.int Go.IntKind.u8 0, Go.Value.int Go.IntKind.u8 0, Go.Value.int Go.IntKind.u8 0, Go.Value.int Go.IntKind.u8 0, Go.Value.int Go.IntKind.u8 0, Go.Value.int Go.IntKind.u8 0, Go.Value.int Go.IntKind.u8 0].append ([Go.Value.int Go.IntKind.u8 0, Go.Value.int Go.IntKind.u8 0, Go.Value.int Go.IntKind.u8 0, Go.Value.int Go.IntKind.u8 0, Go.Value.int Go.IntKind.u8 0, Go.Value.int Go.IntKind.u8 0, Go.Value.int Go.IntKind.u8 0, Go.Value.int Go.IntKind.u8 0, Go.Value.int Go.IntKind.u8 0, Go.Value.int Go.IntKind.u8 0, Go.Value.int Go.IntKind.u8 0, Go.Value.int Go.IntKind.u8 0, Go.Value.int Go.IntKind.u8 0, Go.Value.int Go.IntKind.u8 0, Go.Value.int Go.IntKind.u8 0, Go.Value.int Go.IntKind.u8 0, Go.Value.int Go.IntKind.u8 0, Go.Value.int Go.IntKind.u8 0, Go.Value.int Go.IntKind.u8 0, Go.Value.int Go.IntKind.u8 0, Go.Value.int Go.IntKind.u8 0, Go.Value.int Go.IntKind.u8 0, Go.Value.int Go.IntKind.u8 0, Go.Value.int Go.IntKind.u8 0, Go.Value.int Go.IntKind.u8 0, Go.Value.int Go.IntKind.u8 0, Go.Value.int Go.IntKind.u8 0, Go.Value.int Go.IntKind.u8 0, Go.Value.int Go.IntKind.u8 0, Go.Value.int Go.IntKind.u8 0, Go.Value.int Go.IntKind.u8 0, Go.Value.int Go.IntKind.u8 0].append [Go.Value.int Go.IntKind.u8 0, Go.Value.int Go.IntKind.u8 0, Go.Value.int Go.IntKind.u8 0, Go.Value.int Go.IntKind.u8 0, Go.Value.int Go.IntKind.u8 0, Go.Value.int Go.IntKind.u8 0, Go.Value.int Go.IntKind.u8 0, Go.Value.int Go.IntKind.u8 0, Go.Value.int Go.IntKind.u8 0, Go.Value.int Go.IntKind.u8 0, Go.Value.int Go.IntKind.u8 0, Go.Value.int Go.IntKind.u8 0, Go.Value.int Go.IntKind.u8 0, Go.Value.int Go.IntKind.u8 0, Go.Value.int Go.IntKind.u8 0, Go.Value.int Go.IntKind.u8 0, Go.Value.int Go.IntKind.u8 0, Go.Value.int Go.IntKind.u8 0, Go.Value.int Go.IntKind.u8 0, Go.Value.int Go.IntKind.u8 0, Go.Value.int Go.IntKind.u8 0, Go.Value.int Go.IntKind.u8 0, Go.Value.int Go.IntKind.u8 0, Go.Value.int Go.IntKind.u8 0, Go.Value.int Go.IntKind.u8 0, Go.Value.int Go.IntKind.u8 0, Go.Value.int Go.IntKind.u8 0, Go.Value.int Go.IntKind.u8 0, Go.Value.int Go.IntKind.u8 0, Go.Value.int Go.IntKind.u8 0, Go.Value.int Go.IntKind.u8 0, Go.Value.int Go.IntKind.u8 0, Go.Value.int Go.IntKind.u8 0])).toArray), 129, 136) := by kernel_rfl
@[simp] theorem ty67 : Tryd.prog.underlying 67 = Option.some (Go.TypeDesc.struct #[{ name := "at", type := 3, offset := 0, embedded := Bool.false, tag := "", pkgPath := "jalousie/disk", byteOffset := 0 }, { name := "b", type := 65, offset := 1, embedded := Bool.false, tag := "", pkgPath := "jalousie/disk", byteOffset := 8 }]) := by kernel_rfl
@[simp] theorem ag67 : tagg Tryd.prog 67 = some true := by kernel_rfl
@[simp] theorem sz67 : tsz Tryd.prog 67 = some 129 := by kernel_rfl
@[simp] theorem ze67 : tzero Tryd.prog 67 = Option.some (Go.Value.agg ([Go.Value.int Go.IntKind.i64 0, Go.Value.int Go.IntKind.u8 0, Go.Value.int Go.IntKind.u8 0, Go.Value.int Go.IntKind.u8 0, Go.Value.int Go.IntKind.u8 0, Go.Value.int Go.IntKind.u8 0, Go.Value.int Go.IntKind.u8 0, Go.Value.int Go.IntKind.u8 0, Go.Value.int Go.IntKind.u8 0, Go.Value.int Go.IntKind.u8 0, Go.Value.int Go.IntKind.u8 0, Go.Value.int Go.IntKind.u8 0, Go.Value.int Go.IntKind.u8 0, Go.Value.int Go.IntKind.u8 0, Go.Value.int Go.IntKind.u8 0, Go.Value.int Go.IntKind.u8 0, Go.Value.int Go.IntKind.u8 0, Go.Value.int Go.IntKind.u8 0, Go.Value.int Go.IntKind.u8 0, Go.Value.int Go.IntKind.u8 0, Go.Value.int Go.IntKind.u8 0, Go.Value.int Go.IntKind.u8 0, Go.Value.int Go.IntKind.u8 0, Go.Value.int Go.IntKind.u8 0, Go.Value.int Go.IntKind.u8 0, Go.Value.int Go.IntKind.u8 0, Go.Value.int Go.IntKind.u8 0, Go.Value.int Go.IntKind.u8 0, Go.Value.int Go.IntKind.u8 0, Go.Value.int Go.IntKind.u8 0, Go.Value.int Go.IntKind.u8 0, Go.Value.int Go.IntKind.u8 0, Go.Value.int Go.IntKind.u8 0, Go.Value.int Go.IntKind.u8 0, Go.Value.int Go.IntKind.u8 0, Go.Value.int Go.IntKind.u8 0, Go.Value.int Go.IntKind.u8 0, Go.Value.int Go.IntKind.u8 0, Go.Value.int Go.IntKind.u8 0, Go.Value.int Go.IntKind.u8 0, Go.Value.int Go.IntKind.u8 0, Go.Value.int Go.IntKind.u8 0, Go.Value.int Go.IntKind.u8 0, Go.Value.int Go.IntKind.u8 0, Go.Value.int Go.IntKind.u8 0, Go.Value.int Go.IntKind.u8 0, Go.Value.int Go.IntKind.u8 0, Go.Value.int Go.IntKind.u8 0, Go.Value.int Go.IntKind.u8 0, Go.Value.int Go.IntKind.u8 0, Go.Value.int Go.IntKind.u8 0, Go.Value.int Go.IntKind.u8 0, Go.Value.int Go.IntKind.u8 0, Go.Value.int Go.IntKind.u8 0, Go.Value.int Go.IntKind.u8 0, Go.Value.int Go.IntKind.u8 0, Go.Value.int Go.IntKind.u8 0, Go.Value.int Go.IntKind.u8 0, Go.Value.int Go.IntKind.u8 0, Go.Value.int Go.IntKind.u8 0, Go.Value.int Go.IntKind.u8 0, Go.Value.int Go.IntKind.u8 0, Go.Value.int Go.IntKind.u8 0, Go.Value.int Go.IntKind.u8 0].append ([Go.Value.int Go.IntKind.u8 0, Go.Value.int Go.IntKind.u8 0, Go.Value.int Go.IntKind.u8 0, Go.Value.int Go.IntKind.u8 0, Go.Value.int Go.IntKind.u8 0, Go.Value.int Go.IntKind.u8 0, Go.Value.int Go.IntKind.u8 0, Go.Value.int Go.IntKind.u8 0, Go.Value.int Go.IntKind.u8 0, Go.Value.int Go.IntKind.u8 0, Go.Value.int Go.IntKind.u8 0, Go.Value.int Go.IntKind.u8 0, Go.Value.int Go.IntKind.u8 0, Go.Value.int Go.IntKind.u8 0, Go.Value.int Go.IntKind.u8 0, Go.Value.int Go.IntKind.u8 0, Go.Value.int Go.IntKind.u8 0, Go.Value.int Go.IntKind.u8 0, Go.Value.int Go.IntKind.u8 0, Go.Value.int Go.IntKind.u8 0, Go.Value.int Go.IntKind.u8 0, Go.Value.int Go.IntKind.u8 0, Go.Value.int Go.IntKind.u8 0, Go.Value.int Go.IntKind.u8 0, Go.Value.int Go.IntKind.u8 0, Go.Value.int Go.IntKind.u8 0, Go.Value.int Go.IntKind.u8 0, Go.Value.int Go.IntKind.u8 0, Go.Value.int Go.IntKind.u8 0, Go.Value.int Go.IntKind.u8 0, Go.Value.int Go.IntKind.u8 0, Go.Value.int Go.IntKind.u8 0].append [Go.Value.int Go.IntKind.u8 0, Go.Value.int Go.IntKind.u8 0, Go.Value.int Go.IntKind.u8 0, Go.Value.int Go.IntKind.u8 0, Go.Value.int Go.IntKind.u8 0, Go.Value.int Go.IntKind.u8 0, Go.Value.int Go.IntKind.u8 0, Go.Value.int Go.IntKind.u8 0, Go.Value.int Go.IntKind.u8 0, Go.Value.int Go.IntKind.u8 0, Go.Value.int Go.IntKind.u8 0, Go.Value.int Go.IntKind.u8 0, Go.Value.int Go.IntKind.u8 0, Go.Value.int Go.IntKind.u8 0, Go.Value.int Go.IntKind.u8 0, Go.Value.int Go.IntKind.u8 0, Go.Value.int Go.IntKind.u8 0, Go.Value.int Go.IntKind.u8 0, Go.Value.int Go.IntKind.u8 0, Go.Value.int Go.IntKind.u8 0, Go.Value.int Go.IntKind.u8 0, Go.Value.int Go.IntKind.u8 0, Go.Value.int Go.IntKind.u8 0, Go.Value.int Go.IntKind.u8 0, Go.Value.int Go.IntKind.u8 0, Go.Value.int Go.IntKind.u8 0, Go.Value.int Go.IntKind.u8 0, Go.Value.int Go.IntKind.u8 0, Go.Value.int Go.IntKind.u8 0, Go.Value.int Go.IntKind.u8 0, Go.Value.int Go.IntKind.u8 0, Go.Value.int Go.IntKind.u8 0, Go.Value.int Go.IntKind.u8 0])).toArray) := by kernel_rfl
theorem nf67 : tinf Tryd.prog 67 = some (Option.some (Go.Value.agg ([Go.Value.int Go.IntKind.i64 0, Go.Value.int Go.IntKind.u8 0, Go.Value.int Go.IntKind.u8 0, Go.Value.int Go.IntKind.u8 0, Go.Value.int Go.IntKind.u8 0, Go.Value.int Go.IntKind.u8 0, Go.Value.int Go.IntKind.u8 0, Go.Value.int Go.IntKind.u8 0, Go.Value.int Go.IntKind.u8 0, Go.Value.int Go.IntKind.u8 0, Go.Value.int Go.IntKind.u8 0, Go.Value.int Go.IntKind.u8 0, Go.Value.int Go.IntKind.u8 0, Go.Value.int Go.IntKind.u8 0, Go.Value.int Go.IntKind.u8 0, Go.Value.int Go.IntKind.u8 0, Go.Value.int Go.IntKind.u8 0, Go.Value.int Go.IntKind.u8 0, Go.Value.int Go.IntKind.u8 0, Go.Value.int Go.IntKind.u8 0, Go.Value.int Go.IntKind.u8 0, Go.Value.int Go.IntKind.u8 0, Go.Value.int Go.IntKind.u8 0, Go.Value.int Go.IntKind.u8 0, Go.Value.int Go.IntKind.u8 0, Go.Value.int Go.IntKind.u8 0, Go.Value.int Go.IntKind.u8 0, Go.Value.int Go.IntKind.u8 0, Go.Value.int Go.IntKind.u8 0, Go.Value.int Go.IntKind.u8 0, Go.Value.int Go.IntKind.u8 0, Go.Value.int Go.IntKind.u8 0, Go.Value.int Go.IntKind.u8 0, Go.Value.int Go.IntKind.u8 0, Go.Value.int Go.IntKind.u8 0, Go.Value.int Go.IntKind.u8 0, Go.Value.int Go.IntKind.u8 0, Go.Value.int Go.IntKind.u8 0, Go.Value.int Go.IntKind.u8 0, Go.Value.int Go.IntKind.u8 0, Go.Value.int Go.IntKind.u8 0, Go.Value.int Go.IntKind.u8 0, Go.Value.int Go.IntKind.u8 0, Go.Value.int Go.IntKind.u8 0, Go.Value.int Go.IntKind.u8 0, Go.Value.int Go.IntKind.u8 0, Go.Value.int Go.IntKind.u8 0, Go.Value.int Go.IntKind.u8 0, Go.Value.int Go.IntKind.u8 0, Go.Value.int Go.IntKind.u8 0, Go.Value.int Go.IntKind.u8 0, Go.Value.int Go.IntKind.u8 0, Go.Value.int Go.IntKind.u8 0, Go.Value.int Go.IntKind.u8 0, Go.Value.int Go.IntKind.u8 0, Go.Value.int Go.IntKind.u8 0, Go.Value.int Go.IntKind.u8 0, Go.Value.int Go.IntKind.u8 0, Go.Value.int Go.IntKind.u8 0, Go.Value.int Go.IntKind.u8 0, Go.Value.int Go.IntKind.u8 0, Go.Value.int Go.IntKind.u8 0, Go.Value.int Go.IntKind.u8 0, Go.Value.int Go.IntKind.u8 0].append ([Go.Value.int Go.IntKind.u8 0, Go.Value.int Go.IntKind.u8 0, Go.Value.int Go.IntKind.u8 0, Go.Value.int Go.IntKind.u8 0, Go.Value.int Go.IntKind.u8 0, Go.Value.int Go.IntKind.u8 0, Go.Value.int Go.IntKind.u8 0, Go.Value.int Go.IntKind.u8 0, Go.Value.int Go.IntKind.u8 0, Go.Value.int Go.IntKind.u8 0, Go.Value.int Go.IntKind.u8 0, Go.Value.int Go.IntKind.u8 0, Go.Value.int Go.IntKind.u8 0, Go.Value.int Go.IntKind.u8 0, Go.Value.int Go.IntKind.u8 0, Go.Value.int Go.IntKind.u8 0, Go.Value.int Go.IntKind.u8 0, Go.Value.int Go.IntKind.u8 0, Go.Value.int Go.IntKind.u8 0, Go.Value.int Go.IntKind.u8 0, Go.Value.int Go.IntKind.u8 0, Go.Value.int Go.IntKind.u8 0, Go.Value.int Go.IntKind.u8 0, Go.Value.int Go.IntKind.u8 0, Go.Value.int Go.IntKind.u8 0, Go.Value.int Go.IntKind.u8 0, Go.Value.int Go.IntKind.u8 0, Go.Value.int Go.IntKind.u8 0, Go.Value.int Go.IntKind.u8 0, Go.Value.int Go.IntKind.u8 0, Go.Value.int Go.IntKind.u8 0, Go.Value.int Go.IntKind.u8 0].append [Go.Value.int Go.IntKind.u8 0, Go.Value.int Go.IntKind.u8 0, Go.Value.int Go.IntKind.u8 0, Go.Value.int Go.IntKind.u8 0, Go.Value.int Go.IntKind.u8 0, Go.Value.int Go.IntKind.u8 0, Go.Value.int Go.IntKind.u8 0, Go.Value.int Go.IntKind.u8 0, Go.Value.int Go.IntKind.u8 0, Go.Value.int Go.IntKind.u8 0, Go.Value.int Go.IntKind.u8 0, Go.Value.int Go.IntKind.u8 0, Go.Value.int Go.IntKind.u8 0, Go.Value.int Go.IntKind.u8 0, Go.Value.int Go.IntKind.u8 0, Go.Value.int Go.IntKind.u8 0, Go.Value.int Go.IntKind.u8 0, Go.Value.int Go.IntKind.u8 0, Go.Value.int Go.IntKind.u8 0, Go.Value.int Go.IntKind.u8 0, Go.Value.int Go.IntKind.u8 0, Go.Value.int Go.IntKind.u8 0, Go.Value.int Go.IntKind.u8 0, Go.Value.int Go.IntKind.u8 0, Go.Value.int Go.IntKind.u8 0, Go.Value.int Go.IntKind.u8 0, Go.Value.int Go.IntKind.u8 0, Go.Value.int Go.IntKind.u8 0, Go.Value.int Go.IntKind.u8 0, Go.Value.int Go.IntKind.u8 0, Go.Value.int Go.IntKind.u8 0, Go.Value.int Go.IntKind.u8 0, Go.Value.int Go.IntKind.u8 0])).toArray), 129, 136) := by kernel_rfl
@[simp] theorem ty68 : Tryd.prog.underlying 68 = Option.some (Go.TypeDesc.tuple #[22, 26]) := by kernel_rfl
@[simp] theorem ag68 : tagg Tryd.prog 68 = some false := by kernel_rfl
@[simp] theorem sz68 : tsz Tryd.prog 68 = some 1 := by kernel_rfl
@[simp] theorem ze68 : tzero Tryd.prog 68 = Option.some (Go.Value.tuple #[Go.Value.slice Option.none 0 0, Go.Value.int Go.IntKind.i64 0]) := by kernel_rfl
theorem nf68 : tinf Tryd.prog 68 = some (Option.some (Go.Value.tuple #[Go.Value.slice Option.none 0 0, Go.Value.int Go.IntKind.i64 0]), 1, 0) := by kernel_rfl
@[simp] theorem ty69 : Tryd.prog.underlying 69 = Option.some (Go.TypeDesc.func #[37, 3, 3] #[22, 26] Bool.false) := by kernel_rfl
@[simp] theorem ag69 : tagg Tryd.prog 69 = some false := by kernel_rfl
@[simp] theorem sz69 : tsz Tryd.prog 69 = some 1 := by kernel_rfl
@[simp] theorem ze69 : tzero Tryd.prog 69 = Option.some Go.Value.nilFunc := by kernel_rfl
theorem nf69 : tinf Tryd.prog 69 = some (Option.some Go.Value.nilFunc, 1, 8) := by kernel_rfl
@[simp] theorem ty70 : Tryd.prog.underlying 70 = Option.some (Go.TypeDesc.func #[3] #[4] Bool.false) := by kernel_rfl
@[simp] theorem ag70 : tagg Tryd.prog 70 = some false := by kernel_rfl
@[simp] theorem sz70 : tsz Tryd.prog 70 = some 1 := by kernel_rfl
@[simp] theorem ze70 : tzero Tryd.prog 70 = Option.some Go.Value.nilFunc := by kernel_rfl
theorem nf70 : tinf Tryd.prog 70 = some (Option.some Go.Value.nilFunc, 1, 8) := by kernel_rfl
@[simp] theorem ty71 : Tryd.prog.underlying 71 = Option.some (Go.TypeDesc.map 3 3) := by kernel_rfl
@[simp] theorem ag71 : tagg Tryd.prog 71 = some false := by kernel_rfl
@[simp] theorem sz71 : tsz Tryd.prog 71 = some 1 := by kernel_rfl
@[simp] theorem ze71 : tzero Tryd.prog 71 = Option.some (Go.Value.map Option.none) := by kernel_rfl
theorem nf71 : tinf Tryd.prog 71 = some (Option.some (Go.Value.map Option.none), 1, 8) := by kernel_rfl
@[simp] theorem ty72 : Tryd.prog.underlying 72 = Option.some (Go.TypeDesc.func #[25] #[3] Bool.false) := by kernel_rfl
@[simp] theorem ag72 : tagg Tryd.prog 72 = some false := by kernel_rfl
@[simp] theorem sz72 : tsz Tryd.prog 72 = some 1 := by kernel_rfl
@[simp] theorem ze72 : tzero Tryd.prog 72 = Option.some Go.Value.nilFunc := by kernel_rfl
theorem nf72 : tinf Tryd.prog 72 = some (Option.some Go.Value.nilFunc, 1, 8) := by kernel_rfl
@[simp] theorem ty73 : Tryd.prog.underlying 73 = Option.some (Go.TypeDesc.func #[32] #[23] Bool.false) := by kernel_rfl
@[simp] theorem ag73 : tagg Tryd.prog 73 = some false := by kernel_rfl
@[simp] theorem sz73 : tsz Tryd.prog 73 = some 1 := by kernel_rfl
@[simp] theorem ze73 : tzero Tryd.prog 73 = Option.some Go.Value.nilFunc := by kernel_rfl
theorem nf73 : tinf Tryd.prog 73 = some (Option.some Go.Value.nilFunc, 1, 8) := by kernel_rfl
@[simp] theorem ty74 : Tryd.prog.underlying 74 = Option.some (Go.TypeDesc.func #[32] #[32] Bool.false) := by kernel_rfl
@[simp] theorem ag74 : tagg Tryd.prog 74 = some false := by kernel_rfl
@[simp] theorem sz74 : tsz Tryd.prog 74 = some 1 := by kernel_rfl
@[simp] theorem ze74 : tzero Tryd.prog 74 = Option.some Go.Value.nilFunc := by kernel_rfl
theorem nf74 : tinf Tryd.prog 74 = some (Option.some Go.Value.nilFunc, 1, 8) := by kernel_rfl
@[simp] theorem ty75 : Tryd.prog.underlying 75 = Option.some (Go.TypeDesc.func #[29] #[3] Bool.false) := by kernel_rfl
@[simp] theorem ag75 : tagg Tryd.prog 75 = some false := by kernel_rfl
@[simp] theorem sz75 : tsz Tryd.prog 75 = some 1 := by kernel_rfl
@[simp] theorem ze75 : tzero Tryd.prog 75 = Option.some Go.Value.nilFunc := by kernel_rfl
theorem nf75 : tinf Tryd.prog 75 = some (Option.some Go.Value.nilFunc, 1, 8) := by kernel_rfl
@[simp] theorem ty76 : Tryd.prog.underlying 76 = Option.some (Go.TypeDesc.func #[9] #[23] Bool.false) := by kernel_rfl
@[simp] theorem ag76 : tagg Tryd.prog 76 = some false := by kernel_rfl
@[simp] theorem sz76 : tsz Tryd.prog 76 = some 1 := by kernel_rfl
@[simp] theorem ze76 : tzero Tryd.prog 76 = Option.some Go.Value.nilFunc := by kernel_rfl
theorem nf76 : tinf Tryd.prog 76 = some (Option.some Go.Value.nilFunc, 1, 8) := by kernel_rfl
@[simp] theorem ty77 : Tryd.prog.underlying 77 = Option.some (Go.TypeDesc.func #[3] #[56, 26] Bool.false) := by kernel_rfl
@[simp] theorem ag77 : tagg Tryd.prog 77 = some false := by kernel_rfl
@[simp] theorem sz77 : tsz Tryd.prog 77 = some 1 := by kernel_rfl
@[simp] theorem ze77 : tzero Tryd.prog 77 = Option.some Go.Value.nilFunc := by kernel_rfl
theorem nf77 : tinf Tryd.prog 77 = some (Option.some Go.Value.nilFunc, 1, 8) := by kernel_rfl
@[simp] theorem ty78 : Tryd.prog.underlying 78 = Option.some (Go.TypeDesc.func #[3, 3] #[32, 26] Bool.false) := by kernel_rfl
@[simp] theorem ag78 : tagg Tryd.prog 78 = some false := by kernel_rfl
@[simp] theorem sz78 : tsz Tryd.prog 78 = some 1 := by kernel_rfl
@[simp] theorem ze78 : tzero Tryd.prog 78 = Option.some Go.Value.nilFunc := by kernel_rfl
theorem nf78 : tinf Tryd.prog 78 = some (Option.some Go.Value.nilFunc, 1, 8) := by kernel_rfl
@[simp] theorem ty79 : Tryd.prog.underlying 79 = Option.some (Go.TypeDesc.tuple #[5, 25, 26]) := by kernel_rfl
@[simp] theorem ag79 : tagg Tryd.prog 79 = some false := by kernel_rfl
@[simp] theorem sz79 : tsz Tryd.prog 79 = some 1 := by kernel_rfl
@[simp] theorem ze79 : tzero Tryd.prog 79 = Option.some (Go.Value.tuple #[Go.Value.int Go.IntKind.u8 0, Go.Value.slice Option.none 0 0, Go.Value.int Go.IntKind.i64 0]) := by kernel_rfl
theorem nf79 : tinf Tryd.prog 79 = some (Option.some (Go.Value.tuple #[Go.Value.int Go.IntKind.u8 0, Go.Value.slice Option.none 0 0, Go.Value.int Go.IntKind.i64 0]), 1, 0) := by kernel_rfl
@[simp] theorem ty80 : Tryd.prog.underlying 80 = Option.some (Go.TypeDesc.func #[32] #[5, 25, 26] Bool.false) := by kernel_rfl
@[simp] theorem ag80 : tagg Tryd.prog 80 = some false := by kernel_rfl
@[simp] theorem sz80 : tsz Tryd.prog 80 = some 1 := by kernel_rfl
@[simp] theorem ze80 : tzero Tryd.prog 80 = Option.some Go.Value.nilFunc := by kernel_rfl
theorem nf80 : tinf Tryd.prog 80 = some (Option.some Go.Value.nilFunc, 1, 8) := by kernel_rfl
@[simp] theorem ty81 : Tryd.prog.underlying 81 = Option.some (Go.TypeDesc.func #[93] #[] Bool.false) := by kernel_rfl
@[simp] theorem ag81 : tagg Tryd.prog 81 = some false := by kernel_rfl
@[simp] theorem sz81 : tsz Tryd.prog 81 = some 1 := by kernel_rfl
@[simp] theorem ze81 : tzero Tryd.prog 81 = Option.some Go.Value.nilFunc := by kernel_rfl
theorem nf81 : tinf Tryd.prog 81 = some (Option.some Go.Value.nilFunc, 1, 8) := by kernel_rfl
@[simp] theorem ty82 : Tryd.prog.underlying 82 = Option.some (Go.TypeDesc.func #[93] #[] Bool.false) := by kernel_rfl
@[simp] theorem ag82 : tagg Tryd.prog 82 = some false := by kernel_rfl
@[simp] theorem sz82 : tsz Tryd.prog 82 = some 1 := by kernel_rfl
@[simp] theorem ze82 : tzero Tryd.prog 82 = Option.some Go.Value.nilFunc := by kernel_rfl
theorem nf82 : tinf Tryd.prog 82 = some (Option.some Go.Value.nilFunc, 1, 8) := by kernel_rfl
@[simp] theorem ty83 : Tryd.prog.underlying 83 = Option.some (Go.TypeDesc.func #[32, 3] #[82] Bool.false) := by kernel_rfl
@[simp] theorem ag83 : tagg Tryd.prog 83 = some false := by kernel_rfl
@[simp] theorem sz83 : tsz Tryd.prog 83 = some 1 := by kernel_rfl
@[simp] theorem ze83 : tzero Tryd.prog 83 = Option.some Go.Value.nilFunc := by kernel_rfl
theorem nf83 : tinf Tryd.prog 83 = some (Option.some Go.Value.nilFunc, 1, 8) := by kernel_rfl
@[simp] theorem ty84 : Tryd.prog.underlying 84 = Option.some (Go.TypeDesc.int Go.IntKind.u64) := by kernel_rfl
@[simp] theorem ag84 : tagg Tryd.prog 84 = some false := by kernel_rfl
@[simp] theorem sz84 : tsz Tryd.prog 84 = some 1 := by kernel_rfl
@[simp] theorem ze84 : tzero Tryd.prog 84 = Option.some (Go.Value.int Go.IntKind.u64 0) := by kernel_rfl
theorem nf84 : tinf Tryd.prog 84 = some (Option.some (Go.Value.int Go.IntKind.u64 0), 1, 8) := by kernel_rfl
@[simp] theorem ty85 : Tryd.prog.underlying 85 = Option.some (Go.TypeDesc.func #[22, 3] #[3] Bool.false) := by kernel_rfl
@[simp] theorem ag85 : tagg Tryd.prog 85 = some false := by kernel_rfl
@[simp] theorem sz85 : tsz Tryd.prog 85 = some 1 := by kernel_rfl
@[simp] theorem ze85 : tzero Tryd.prog 85 = Option.some Go.Value.nilFunc := by kernel_rfl
theorem nf85 : tinf Tryd.prog 85 = some (Option.some Go.Value.nilFunc, 1, 8) := by kernel_rfl
@[simp] theorem ty86 : Tryd.prog.underlying 86 = Option.some (Go.TypeDesc.func #[23, 32] #[23] Bool.false) := by kernel_rfl
@[simp] theorem ag86 : tagg Tryd.prog 86 = some false := by kernel_rfl
@[simp] theorem sz86 : tsz Tryd.prog 86 = some 1 := by kernel_rfl
@[simp] theorem ze86 : tzero Tryd.prog 86 = Option.some Go.Value.nilFunc := by kernel_rfl
theorem nf86 : tinf Tryd.prog 86 = some (Option.some Go.Value.nilFunc, 1, 8) := by kernel_rfl
@[simp] theorem ty87 : Tryd.prog.underlying 87 = Option.some (Go.TypeDesc.func #[23, 9] #[23] Bool.false) := by kernel_rfl
@[simp] theorem ag87 : tagg Tryd.prog 87 = some false := by kernel_rfl
@[simp] theorem sz87 : tsz Tryd.prog 87 = some 1 := by kernel_rfl
@[simp] theorem ze87 : tzero Tryd.prog 87 = Option.some Go.Value.nilFunc := by kernel_rfl
theorem nf87 : tinf Tryd.prog 87 = some (Option.some Go.Value.nilFunc, 1, 8) := by kernel_rfl
@[simp] theorem ty88 : Tryd.prog.underlying 88 = Option.some (Go.TypeDesc.func #[3] #[56] Bool.false) := by kernel_rfl
@[simp] theorem ag88 : tagg Tryd.prog 88 = some false := by kernel_rfl
@[simp] theorem sz88 : tsz Tryd.prog 88 = some 1 := by kernel_rfl
@[simp] theorem ze88 : tzero Tryd.prog 88 = Option.some Go.Value.nilFunc := by kernel_rfl
theorem nf88 : tinf Tryd.prog 88 = some (Option.some Go.Value.nilFunc, 1, 8) := by kernel_rfl
@[simp] theorem ty89 : Tryd.prog.underlying 89 = Option.some (Go.TypeDesc.pointer 96) := by kernel_rfl
@[simp] theorem ag89 : tagg Tryd.prog 89 = some false := by kernel_rfl
@[simp] theorem sz89 : tsz Tryd.prog 89 = some 1 := by kernel_rfl
@[simp] theorem ze89 : tzero Tryd.prog 89 = Option.some (Go.Value.pointer Option.none) := by kernel_rfl
theorem nf89 : tinf Tryd.prog 89 = some (Option.some (Go.Value.pointer Option.none), 1, 8) := by kernel_rfl
@[simp] theorem ty90 : Tryd.prog.underlying 90 = Option.some (Go.TypeDesc.func #[32] #[89] Bool.false) := by kernel_rfl
@[simp] theorem ag90 : tagg Tryd.prog 90 = some false := by kernel_rfl
@[simp] theorem sz90 : tsz Tryd.prog 90 = some 1 := by kernel_rfl
@[simp] theorem ze90 : tzero Tryd.prog 90 = Option.some Go.Value.nilFunc := by kernel_rfl
theorem nf90 : tinf Tryd.prog 90 = some (Option.some Go.Value.nilFunc, 1, 8) := by kernel_rfl
@[simp] theorem ty91 : Tryd.prog.underlying 91 = Option.some (Go.TypeDesc.func #[3] #[46] Bool.false) := by kernel_rfl
@[simp] theorem ag91 : tagg Tryd.prog 91 = some false := by kernel_rfl
@[simp] theorem sz91 : tsz Tryd.prog 91 = some 1 := by kernel_rfl
@[simp] theorem ze91 : tzero Tryd.prog 91 = Option.some Go.Value.nilFunc := by kernel_rfl
theorem nf91 : tinf Tryd.prog 91 = some (Option.some Go.Value.nilFunc, 1, 8) := by kernel_rfl
@[simp] theorem ty92 : Tryd.prog.underlying 92 = Option.some (Go.TypeDesc.func #[32, 32] #[4] Bool.false) := by kernel_rfl
@[simp] theorem ag92 : tagg Tryd.prog 92 = some false := by kernel_rfl
@[simp] theorem sz92 : tsz Tryd.prog 92 = some 1 := by kernel_rfl
@[simp] theorem ze92 : tzero Tryd.prog 92 = Option.some Go.Value.nilFunc := by kernel_rfl
theorem nf92 : tinf Tryd.prog 92 = some (Option.some Go.Value.nilFunc, 1, 8) := by kernel_rfl
@[simp] theorem ty93 : Tryd.prog.underlying 93 = Option.some (Go.TypeDesc.func #[32] #[4] Bool.false) := by kernel_rfl
@[simp] theorem ag93 : tagg Tryd.prog 93 = some false := by kernel_rfl
@[simp] theorem sz93 : tsz Tryd.prog 93 = some 1 := by kernel_rfl
@[simp] theorem ze93 : tzero Tryd.prog 93 = Option.some Go.Value.nilFunc := by kernel_rfl
theorem nf93 : tinf Tryd.prog 93 = some (Option.some Go.Value.nilFunc, 1, 8) := by kernel_rfl
@[simp] theorem ty94 : Tryd.prog.underlying 94 = Option.some (Go.TypeDesc.array 16 23) := by kernel_rfl
@[simp] theorem ag94 : tagg Tryd.prog 94 = some true := by kernel_rfl
@[simp] theorem sz94 : tsz Tryd.prog 94 = some 16 := by kernel_rfl
@[simp] theorem ze94 : tzero Tryd.prog 94 = Option.some (Go.Value.agg #[Go.Value.int Go.IntKind.u32 0, Go.Value.int Go.IntKind.u32 0, Go.Value.int Go.IntKind.u32 0, Go.Value.int Go.IntKind.u32 0, Go.Value.int Go.IntKind.u32 0, Go.Value.int Go.IntKind.u32 0, Go.Value.int Go.IntKind.u32 0, Go.Value.int Go.IntKind.u32 0, Go.Value.int Go.IntKind.u32 0, Go.Value.int Go.IntKind.u32 0, Go.Value.int Go.IntKind.u32 0, Go.Value.int Go.IntKind.u32 0, Go.Value.int Go.IntKind.u32 0, Go.Value.int Go.IntKind.u32 0, Go.Value.int Go.IntKind.u32 0, Go.Value.int Go.IntKind.u32 0]) := by kernel_rfl
theorem nf94 : tinf Tryd.prog 94 = some (Option.some (Go.Value.agg #[Go.Value.int Go.IntKind.u32 0, Go.Value.int Go.IntKind.u32 0, Go.Value.int Go.IntKind.u32 0, Go.Value.int Go.IntKind.u32 0, Go.Value.int Go.IntKind.u32 0, Go.Value.int Go.IntKind.u32 0, Go.Value.int Go.IntKind.u32 0, Go.Value.int Go.IntKind.u32 0, Go.Value.int Go.IntKind.u32 0, Go.Value.int Go.IntKind.u32 0, Go.Value.int Go.IntKind.u32 0, Go.Value.int Go.IntKind.u32 0, Go.Value.int Go.IntKind.u32 0, Go.Value.int Go.IntKind.u32 0, Go.Value.int Go.IntKind.u32 0, Go.Value.int Go.IntKind.u32 0]), 16, 64) := by kernel_rfl
@[simp] theorem ty95 : Tryd.prog.underlying 95 = Option.some (Go.TypeDesc.struct #[{ name := "b", type := 32, offset := 0, embedded := Bool.false, tag := "", pkgPath := "jalousie/octet", byteOffset := 0 }, { name := "e", type := 26, offset := 1, embedded := Bool.false, tag := "", pkgPath := "jalousie/octet", byteOffset := 24 }]) := by kernel_rfl
@[simp] theorem ag95 : tagg Tryd.prog 95 = some true := by kernel_rfl
@[simp] theorem sz95 : tsz Tryd.prog 95 = some 2 := by kernel_rfl
@[simp] theorem ze95 : tzero Tryd.prog 95 = Option.some (Go.Value.agg #[Go.Value.slice Option.none 0 0, Go.Value.int Go.IntKind.i64 0]) := by kernel_rfl
theorem nf95 : tinf Tryd.prog 95 = some (Option.some (Go.Value.agg #[Go.Value.slice Option.none 0 0, Go.Value.int Go.IntKind.i64 0]), 2, 32) := by kernel_rfl
@[simp] theorem ty96 : Tryd.prog.underlying 96 = Option.some (Go.TypeDesc.struct #[{ name := "b", type := 32, offset := 0, embedded := Bool.false, tag := "", pkgPath := "jalousie/octet", byteOffset := 0 }, { name := "e", type := 26, offset := 1, embedded := Bool.false, tag := "", pkgPath := "jalousie/octet", byteOffset := 24 }]) := by kernel_rfl
@[simp] theorem ag96 : tagg Tryd.prog 96 = some true := by kernel_rfl
@[simp] theorem sz96 : tsz Tryd.prog 96 = some 2 := by kernel_rfl
@[simp] theorem ze96 : tzero Tryd.prog 96 = Option.some (Go.Value.agg #[Go.Value.slice Option.none 0 0, Go.Value.int Go.IntKind.i64 0]) := by kernel_rfl
theorem nf96 : tinf Tryd.prog 96 = some (Option.some (Go.Value.agg #[Go.Value.slice Option.none 0 0, Go.Value.int Go.IntKind.i64 0]), 2, 32) := by kernel_rfl
@[simp] theorem ty97 : Tryd.prog.underlying 97 = Option.some (Go.TypeDesc.func #[89, 3, 98] #[46] Bool.false) := by kernel_rfl
@[simp] theorem ag97 : tagg Tryd.prog 97 = some false := by kernel_rfl
@[simp] theorem sz97 : tsz Tryd.prog 97 = some 1 := by kernel_rfl
@[simp] theorem ze97 : tzero Tryd.prog 97 = Option.some Go.Value.nilFunc := by kernel_rfl
theorem nf97 : tinf Tryd.prog 97 = some (Option.some Go.Value.nilFunc, 1, 8) := by kernel_rfl
@[simp] theorem ty98 : Tryd.prog.underlying 98 = Option.some (Go.TypeDesc.func #[32] #[46] Bool.false) := by kernel_rfl
@[simp] theorem ag98 : tagg Tryd.prog 98 = some false := by kernel_rfl
@[simp] theorem sz98 : tsz Tryd.prog 98 = some 1 := by kernel_rfl
@[simp] theorem ze98 : tzero Tryd.prog 98 = Option.some Go.Value.nilFunc := by kernel_rfl
theorem nf98 : tinf Tryd.prog 98 = some (Option.some Go.Value.nilFunc, 1, 8) := by kernel_rfl
@[simp] theorem ty99 : Tryd.prog.underlying 99 = Option.some (Go.TypeDesc.func #[] #[9] Bool.false) := by kernel_rfl
@[simp] theorem ag99 : tagg Tryd.prog 99 = some false := by kernel_rfl
@[simp] theorem sz99 : tsz Tryd.prog 99 = some 1 := by kernel_rfl
@[simp] theorem ze99 : tzero Tryd.prog 99 = Option.some Go.Value.nilFunc := by kernel_rfl
theorem nf99 : tinf Tryd.prog 99 = some (Option.some Go.Value.nilFunc, 1, 8) := by kernel_rfl
@[simp] theorem ty102 : Tryd.prog.underlying 102 = Option.some (Go.TypeDesc.array 0 16) := by kernel_rfl
@[simp] theorem ag102 : tagg Tryd.prog 102 = some true := by kernel_rfl
@[simp] theorem sz102 : tsz Tryd.prog 102 = some 0 := by kernel_rfl
@[simp] theorem ze102 : tzero Tryd.prog 102 = Option.some (Go.Value.agg #[]) := by kernel_rfl
theorem nf102 : tinf Tryd.prog 102 = some (Option.some (Go.Value.agg #[]), 0, 0) := by kernel_rfl
@[simp] theorem ty103 : Tryd.prog.underlying 103 = Option.some (Go.TypeDesc.struct #[{ name := "_", type := 102, offset := 0, embedded := Bool.false, tag := "", pkgPath := "runtime", byteOffset := 0 }]) := by kernel_rfl
@[simp] theorem ag103 : tagg Tryd.prog 103 = some true := by kernel_rfl
@[simp] theorem sz103 : tsz Tryd.prog 103 = some 0 := by kernel_rfl
@[simp] theorem ze103 : tzero Tryd.prog 103 = Option.some (Go.Value.agg #[]) := by kernel_rfl
theorem nf103 : tinf Tryd.prog 103 = some (Option.some (Go.Value.agg #[]), 0, 0) := by kernel_rfl
@[simp] theorem ty104 : Tryd.prog.underlying 104 = Option.some (Go.TypeDesc.struct #[{ name := "_", type := 102, offset := 0, embedded := Bool.false, tag := "", pkgPath := "runtime", byteOffset := 0 }]) := by kernel_rfl
@[simp] theorem ag104 : tagg Tryd.prog 104 = some true := by kernel_rfl
@[simp] theorem sz104 : tsz Tryd.prog 104 = some 0 := by kernel_rfl
@[simp] theorem ze104 : tzero Tryd.prog 104 = Option.some (Go.Value.agg #[]) := by kernel_rfl
theorem nf104 : tinf Tryd.prog 104 = some (Option.some (Go.Value.agg #[]), 0, 0) := by kernel_rfl
@[simp] theorem ty105 : Tryd.prog.underlying 105 = Option.some (Go.TypeDesc.func #[] #[3] Bool.false) := by kernel_rfl
@[simp] theorem ag105 : tagg Tryd.prog 105 = some false := by kernel_rfl
@[simp] theorem sz105 : tsz Tryd.prog 105 = some 1 := by kernel_rfl
@[simp] theorem ze105 : tzero Tryd.prog 105 = Option.some Go.Value.nilFunc := by kernel_rfl
theorem nf105 : tinf Tryd.prog 105 = some (Option.some Go.Value.nilFunc, 1, 8) := by kernel_rfl
@[simp] theorem ty106 : Tryd.prog.underlying 106 = Option.some (Go.TypeDesc.int Go.IntKind.u8) := by kernel_rfl
@[simp] theorem ag106 : tagg Tryd.prog 106 = some false := by kernel_rfl
@[simp] theorem sz106 : tsz Tryd.prog 106 = some 1 := by kernel_rfl
@[simp] theorem ze106 : tzero Tryd.prog 106 = Option.some (Go.Value.int Go.IntKind.u8 0) := by kernel_rfl
theorem nf106 : tinf Tryd.prog 106 = some (Option.some (Go.Value.int Go.IntKind.u8 0), 1, 1) := by kernel_rfl
@[simp] theorem ty107 : Tryd.prog.underlying 107 = Option.some (Go.TypeDesc.int Go.IntKind.u8) := by kernel_rfl
@[simp] theorem ag107 : tagg Tryd.prog 107 = some false := by kernel_rfl
@[simp] theorem sz107 : tsz Tryd.prog 107 = some 1 := by kernel_rfl
@[simp] theorem ze107 : tzero Tryd.prog 107 = Option.some (Go.Value.int Go.IntKind.u8 0) := by kernel_rfl
theorem nf107 : tinf Tryd.prog 107 = some (Option.some (Go.Value.int Go.IntKind.u8 0), 1, 1) := by kernel_rfl
@[simp] theorem ty108 : Tryd.prog.underlying 108 = Option.some (Go.TypeDesc.func #[114, 114] #[4] Bool.false) := by kernel_rfl
@[simp] theorem ag108 : tagg Tryd.prog 108 = some false := by kernel_rfl
@[simp] theorem sz108 : tsz Tryd.prog 108 = some 1 := by kernel_rfl
@[simp] theorem ze108 : tzero Tryd.prog 108 = Option.some Go.Value.nilFunc := by kernel_rfl
theorem nf108 : tinf Tryd.prog 108 = some (Option.some Go.Value.nilFunc, 1, 8) := by kernel_rfl
@[simp] theorem ty109 : Tryd.prog.underlying 109 = Option.some (Go.TypeDesc.pointer 5) := by kernel_rfl
@[simp] theorem ag109 : tagg Tryd.prog 109 = some false := by kernel_rfl
@[simp] theorem sz109 : tsz Tryd.prog 109 = some 1 := by kernel_rfl
@[simp] theorem ze109 : tzero Tryd.prog 109 = Option.some (Go.Value.pointer Option.none) := by kernel_rfl
theorem nf109 : tinf Tryd.prog 109 = some (Option.some (Go.Value.pointer Option.none), 1, 8) := by kernel_rfl
@[simp] theorem ty110 : Tryd.prog.underlying 110 = Option.some (Go.TypeDesc.int Go.IntKind.i32) := by kernel_rfl
@[simp] theorem ag110 : tagg Tryd.prog 110 = some false := by kernel_rfl
@[simp] theorem sz110 : tsz Tryd.prog 110 = some 1 := by kernel_rfl
@[simp] theorem ze110 : tzero Tryd.prog 110 = Option.some (Go.Value.int Go.IntKind.i32 0) := by kernel_rfl
theorem nf110 : tinf Tryd.prog 110 = some (Option.some (Go.Value.int Go.IntKind.i32 0), 1, 4) := by kernel_rfl
@[simp] theorem ty111 : Tryd.prog.underlying 111 = Option.some (Go.TypeDesc.int Go.IntKind.i32) := by kernel_rfl
@[simp] theorem ag111 : tagg Tryd.prog 111 = some false := by kernel_rfl
@[simp] theorem sz111 : tsz Tryd.prog 111 = some 1 := by kernel_rfl
@[simp] theorem ze111 : tzero Tryd.prog 111 = Option.some (Go.Value.int Go.IntKind.i32 0) := by kernel_rfl
theorem nf111 : tinf Tryd.prog 111 = some (Option.some (Go.Value.int Go.IntKind.i32 0), 1, 4) := by kernel_rfl
@[simp] theorem ty112 : Tryd.prog.underlying 112 = Option.some (Go.TypeDesc.struct #[{ name := "Size_", type := 12, offset := 0, embedded := Bool.false, tag := "", pkgPath := "", byteOffset := 0 }, { name := "PtrBytes", type := 12, offset := 1, embedded := Bool.false, tag := "", pkgPath := "", byteOffset := 8 }, { name := "Hash", type := 23, offset := 2, embedded := Bool.false, tag := "", pkgPath := "", byteOffset := 16 }, { name := "TFlag", type := 106, offset := 3, embedded := Bool.false, tag := "", pkgPath := "", byteOffset := 20 }, { name := "Align_", type := 5, offset := 4, embedded := Bool.false, tag := "", pkgPath := "", byteOffset := 21 }, { name := "FieldAlign_", type := 5, offset := 5, embedded := Bool.false, tag := "", pkgPath := "", byteOffset := 22 }, { name := "Kind_", type := 107, offset := 6, embedded := Bool.false, tag := "", pkgPath := "", byteOffset := 23 }, { name := "Equal", type := 108, offset := 7, embedded := Bool.false, tag := "", pkgPath := "", byteOffset := 24 }, { name := "GCData", type := 109, offset := 8, embedded := Bool.false, tag := "", pkgPath := "", byteOffset := 32 }, { name := "Str", type := 110, offset := 9, embedded := Bool.false, tag := "", pkgPath := "", byteOffset := 40 }, { name := "PtrToThis", type := 111, offset := 10, embedded := Bool.false, tag := "", pkgPath := "", byteOffset := 44 }]) := by kernel_rfl
@[simp] theorem ag112 : tagg Tryd.prog 112 = some true := by kernel_rfl
@[simp] theorem sz112 : tsz Tryd.prog 112 = some 11 := by kernel_rfl
@[simp] theorem ze112 : tzero Tryd.prog 112 = Option.some (Go.Value.agg #[Go.Value.int Go.IntKind.u64 0, Go.Value.int Go.IntKind.u64 0, Go.Value.int Go.IntKind.u32 0, Go.Value.int Go.IntKind.u8 0, Go.Value.int Go.IntKind.u8 0, Go.Value.int Go.IntKind.u8 0, Go.Value.int Go.IntKind.u8 0, Go.Value.nilFunc, Go.Value.pointer Option.none, Go.Value.int Go.IntKind.i32 0, Go.Value.int Go.IntKind.i32 0]) := by kernel_rfl
theorem nf112 : tinf Tryd.prog 112 = some (Option.some (Go.Value.agg #[Go.Value.int Go.IntKind.u64 0, Go.Value.int Go.IntKind.u64 0, Go.Value.int Go.IntKind.u32 0, Go.Value.int Go.IntKind.u8 0, Go.Value.int Go.IntKind.u8 0, Go.Value.int Go.IntKind.u8 0, Go.Value.int Go.IntKind.u8 0, Go.Value.nilFunc, Go.Value.pointer Option.none, Go.Value.int Go.IntKind.i32 0, Go.Value.int Go.IntKind.i32 0]), 11, 48) := by kernel_rfl
@[simp] theorem ty113 : Tryd.prog.underlying 113 = Option.some (Go.TypeDesc.struct #[{ name := "Size_", type := 12, offset := 0, embedded := Bool.false, tag := "", pkgPath := "", byteOffset := 0 }, { name := "PtrBytes", type := 12, offset := 1, embedded := Bool.false, tag := "", pkgPath := "", byteOffset := 8 }, { name := "Hash", type := 23, offset := 2, embedded := Bool.false, tag := "", pkgPath := "", byteOffset := 16 }, { name := "TFlag", type := 106, offset := 3, embedded := Bool.false, tag := "", pkgPath := "", byteOffset := 20 }, { name := "Align_", type := 5, offset := 4, embedded := Bool.false, tag := "", pkgPath := "", byteOffset := 21 }, { name := "FieldAlign_", type := 5, offset := 5, embedded := Bool.false, tag := "", pkgPath := "", byteOffset := 22 }, { name := "Kind_", type := 107, offset := 6, embedded := Bool.false, tag := "", pkgPath := "", byteOffset := 23 }, { name := "Equal", type := 108, offset := 7, embedded := Bool.false, tag := "", pkgPath := "", byteOffset := 24 }, { name := "GCData", type := 109, offset := 8, embedded := Bool.false, tag := "", pkgPath := "", byteOffset := 32 }, { name := "Str", type := 110, offset := 9, embedded := Bool.false, tag := "", pkgPath := "", byteOffset := 40 }, { name := "PtrToThis", type := 111, offset := 10, embedded := Bool.false, tag := "", pkgPath := "", byteOffset := 44 }]) := by kernel_rfl
@[simp] theorem ag113 : tagg Tryd.prog 113 = some true := by kernel_rfl
@[simp] theorem sz113 : tsz Tryd.prog 113 = some 11 := by kernel_rfl
@[simp] theorem ze113 : tzero Tryd.prog 113 = Option.some (Go.Value.agg #[Go.Value.int Go.IntKind.u64 0, Go.Value.int Go.IntKind.u64 0, Go.Value.int Go.IntKind.u32 0, Go.Value.int Go.IntKind.u8 0, Go.Value.int Go.IntKind.u8 0, Go.Value.int Go.IntKind.u8 0, Go.Value.int Go.IntKind.u8 0, Go.Value.nilFunc, Go.Value.pointer Option.none, Go.Value.int Go.IntKind.i32 0, Go.Value.int Go.IntKind.i32 0]) := by kernel_rfl
theorem nf113 : tinf Tryd.prog 113 = some (Option.some (Go.Value.agg #[Go.Value.int Go.IntKind.u64 0, Go.Value.int Go.IntKind.u64 0, Go.Value.int Go.IntKind.u32 0, Go.Value.int Go.IntKind.u8 0, Go.Value.int Go.IntKind.u8 0, Go.Value.int Go.IntKind.u8 0, Go.Value.int Go.IntKind.u8 0, Go.Value.nilFunc, Go.Value.pointer Option.none, Go.Value.int Go.IntKind.i32 0, Go.Value.int Go.IntKind.i32 0]), 11, 48) := by kernel_rfl
@[simp] theorem ty114 : Tryd.prog.underlying 114 = Option.some Go.TypeDesc.unsafePointer := by kernel_rfl
@[simp] theorem ag114 : tagg Tryd.prog 114 = some false := by kernel_rfl
@[simp] theorem sz114 : tsz Tryd.prog 114 = some 1 := by kernel_rfl
@[simp] theorem ze114 : tzero Tryd.prog 114 = Option.some (Go.Value.pointer Option.none) := by kernel_rfl
theorem nf114 : tinf Tryd.prog 114 = some (Option.some (Go.Value.pointer Option.none), 1, 8) := by kernel_rfl
end Go.Lw
