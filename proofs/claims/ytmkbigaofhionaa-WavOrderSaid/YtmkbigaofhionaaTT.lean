/- The types of this seat's program, as a table. -/
import Derived.Test.YtmkbigaofhionaaAbs
import Derived.Test.YtmkbigaofhionaaAbsD
import Derived.Test.YtmkbigaofhionaaProg
import Derived.KernelRfl
namespace Go.Proofs.Ytmkbigaofhionaa
open Go.RowKit
set_option maxRecDepth 100000

def ti1 : TInf := ⟨TypeDesc.func { toList := [] } { toList := [] } Bool.false, 1, 8, Value.nilFunc, none, false⟩
theorem ti1_ok : Try.prog.underlying 1 = some ti1.u ∧ (Try.prog.info? 1).map (fun i => (i.size, i.bytes, i.zero)) = some (ti1.size, ti1.bytes, some ti1.zero) ∧ ti1.zero.cells.size = ti1.size ∧ (ti1.zero.cells.all (·.oneCell') = true) ∧ eqOK Try.prog 1 ti1 = true :=
  ⟨by kernel_rfl, by kernel_rfl, by kernel_rfl, by kernel_rfl, by kernel_rfl⟩
abbrev ty2 : Ty := (.int .i64)
def ti2 : TInf := ⟨TypeDesc.int IntKind.i64, 1, 8, Value.int IntKind.i64 (Int.ofNat 0), some ty2, false⟩
theorem ti2_ok : Try.prog.underlying 2 = some ti2.u ∧ (Try.prog.info? 2).map (fun i => (i.size, i.bytes, i.zero)) = some (ti2.size, ti2.bytes, some ti2.zero) ∧ ti2.zero.cells.size = ti2.size ∧ (ti2.zero.cells.all (·.oneCell') = true) ∧ eqOK Try.prog 2 ti2 = true :=
  ⟨by kernel_rfl, by kernel_rfl, by kernel_rfl, by kernel_rfl, by kernel_rfl⟩
abbrev ty3 : Ty := (.int .i64)
def ti3 : TInf := ⟨TypeDesc.int IntKind.i64, 1, 8, Value.int IntKind.i64 (Int.ofNat 0), some ty3, false⟩
theorem ti3_ok : Try.prog.underlying 3 = some ti3.u ∧ (Try.prog.info? 3).map (fun i => (i.size, i.bytes, i.zero)) = some (ti3.size, ti3.bytes, some ti3.zero) ∧ ti3.zero.cells.size = ti3.size ∧ (ti3.zero.cells.all (·.oneCell') = true) ∧ eqOK Try.prog 3 ti3 = true :=
  ⟨by kernel_rfl, by kernel_rfl, by kernel_rfl, by kernel_rfl, by kernel_rfl⟩
abbrev ty4 : Ty := .bool
def ti4 : TInf := ⟨TypeDesc.bool, 1, 1, Value.bool Bool.false, some ty4, false⟩
theorem ti4_ok : Try.prog.underlying 4 = some ti4.u ∧ (Try.prog.info? 4).map (fun i => (i.size, i.bytes, i.zero)) = some (ti4.size, ti4.bytes, some ti4.zero) ∧ ti4.zero.cells.size = ti4.size ∧ (ti4.zero.cells.all (·.oneCell') = true) ∧ eqOK Try.prog 4 ti4 = true :=
  ⟨by kernel_rfl, by kernel_rfl, by kernel_rfl, by kernel_rfl, by kernel_rfl⟩
abbrev ty5 : Ty := (.int .u8)
def ti5 : TInf := ⟨TypeDesc.int IntKind.u8, 1, 1, Value.int IntKind.u8 (Int.ofNat 0), some ty5, false⟩
theorem ti5_ok : Try.prog.underlying 5 = some ti5.u ∧ (Try.prog.info? 5).map (fun i => (i.size, i.bytes, i.zero)) = some (ti5.size, ti5.bytes, some ti5.zero) ∧ ti5.zero.cells.size = ti5.size ∧ (ti5.zero.cells.all (·.oneCell') = true) ∧ eqOK Try.prog 5 ti5 = true :=
  ⟨by kernel_rfl, by kernel_rfl, by kernel_rfl, by kernel_rfl, by kernel_rfl⟩
abbrev ty6 : Ty := (.int .u8)
def ti6 : TInf := ⟨TypeDesc.int IntKind.u8, 1, 1, Value.int IntKind.u8 (Int.ofNat 0), some ty6, false⟩
theorem ti6_ok : Try.prog.underlying 6 = some ti6.u ∧ (Try.prog.info? 6).map (fun i => (i.size, i.bytes, i.zero)) = some (ti6.size, ti6.bytes, some ti6.zero) ∧ ti6.zero.cells.size = ti6.size ∧ (ti6.zero.cells.all (·.oneCell') = true) ∧ eqOK Try.prog 6 ti6 = true :=
  ⟨by kernel_rfl, by kernel_rfl, by kernel_rfl, by kernel_rfl, by kernel_rfl⟩
abbrev ty7 : Ty := (.pair (.int .i64) (.pair (.int .i64) (.pair .bool (.pair (.int .u8) .unit))))
def ti7 : TInf := ⟨TypeDesc.struct { toList := [{ name := "x", type := 2, offset := 0, embedded := Bool.false, tag := "", pkgPath := "runtime", byteOffset := 0 }, { name := "y", type := 3, offset := 1, embedded := Bool.false, tag := "", pkgPath := "runtime", byteOffset := 8 }, { name := "signed", type := 4, offset := 2, embedded := Bool.false, tag := "", pkgPath := "runtime", byteOffset := 16 }, { name := "code", type := 6, offset := 3, embedded := Bool.false, tag := "", pkgPath := "runtime", byteOffset := 17 }] }, 4, 24, Value.agg { toList := [Value.int IntKind.i64 (Int.ofNat 0), Value.int IntKind.i64 (Int.ofNat 0), Value.bool Bool.false, Value.int IntKind.u8 (Int.ofNat 0)] }, some ty7, false⟩
theorem ti7_ok : Try.prog.underlying 7 = some ti7.u ∧ (Try.prog.info? 7).map (fun i => (i.size, i.bytes, i.zero)) = some (ti7.size, ti7.bytes, some ti7.zero) ∧ ti7.zero.cells.size = ti7.size ∧ (ti7.zero.cells.all (·.oneCell') = true) ∧ eqOK Try.prog 7 ti7 = true :=
  ⟨by kernel_rfl, by kernel_rfl, by kernel_rfl, by kernel_rfl, by kernel_rfl⟩
abbrev ty8 : Ty := (.pair (.int .i64) (.pair (.int .i64) (.pair .bool (.pair (.int .u8) .unit))))
def ti8 : TInf := ⟨TypeDesc.struct { toList := [{ name := "x", type := 2, offset := 0, embedded := Bool.false, tag := "", pkgPath := "runtime", byteOffset := 0 }, { name := "y", type := 3, offset := 1, embedded := Bool.false, tag := "", pkgPath := "runtime", byteOffset := 8 }, { name := "signed", type := 4, offset := 2, embedded := Bool.false, tag := "", pkgPath := "runtime", byteOffset := 16 }, { name := "code", type := 6, offset := 3, embedded := Bool.false, tag := "", pkgPath := "runtime", byteOffset := 17 }] }, 4, 24, Value.agg { toList := [Value.int IntKind.i64 (Int.ofNat 0), Value.int IntKind.i64 (Int.ofNat 0), Value.bool Bool.false, Value.int IntKind.u8 (Int.ofNat 0)] }, some ty8, false⟩
theorem ti8_ok : Try.prog.underlying 8 = some ti8.u ∧ (Try.prog.info? 8).map (fun i => (i.size, i.bytes, i.zero)) = some (ti8.size, ti8.bytes, some ti8.zero) ∧ ti8.zero.cells.size = ti8.size ∧ (ti8.zero.cells.all (·.oneCell') = true) ∧ eqOK Try.prog 8 ti8 = true :=
  ⟨by kernel_rfl, by kernel_rfl, by kernel_rfl, by kernel_rfl, by kernel_rfl⟩
abbrev ty9 : Ty := .str
def ti9 : TInf := ⟨TypeDesc.string, 1, 16, Value.string { data := { toList := [] } }, some ty9, false⟩
theorem ti9_ok : Try.prog.underlying 9 = some ti9.u ∧ (Try.prog.info? 9).map (fun i => (i.size, i.bytes, i.zero)) = some (ti9.size, ti9.bytes, some ti9.zero) ∧ ti9.zero.cells.size = ti9.size ∧ (ti9.zero.cells.all (·.oneCell') = true) ∧ eqOK Try.prog 9 ti9 = true :=
  ⟨by kernel_rfl, by kernel_rfl, by kernel_rfl, by kernel_rfl, by kernel_rfl⟩
abbrev ty10 : Ty := .str
def ti10 : TInf := ⟨TypeDesc.string, 1, 16, Value.string { data := { toList := [] } }, some ty10, false⟩
theorem ti10_ok : Try.prog.underlying 10 = some ti10.u ∧ (Try.prog.info? 10).map (fun i => (i.size, i.bytes, i.zero)) = some (ti10.size, ti10.bytes, some ti10.zero) ∧ ti10.zero.cells.size = ti10.size ∧ (ti10.zero.cells.all (·.oneCell') = true) ∧ eqOK Try.prog 10 ti10 = true :=
  ⟨by kernel_rfl, by kernel_rfl, by kernel_rfl, by kernel_rfl, by kernel_rfl⟩
abbrev ty11 : Ty := .str
def ti11 : TInf := ⟨TypeDesc.string, 1, 16, Value.string { data := { toList := [] } }, some ty11, false⟩
theorem ti11_ok : Try.prog.underlying 11 = some ti11.u ∧ (Try.prog.info? 11).map (fun i => (i.size, i.bytes, i.zero)) = some (ti11.size, ti11.bytes, some ti11.zero) ∧ ti11.zero.cells.size = ti11.size ∧ (ti11.zero.cells.all (·.oneCell') = true) ∧ eqOK Try.prog 11 ti11 = true :=
  ⟨by kernel_rfl, by kernel_rfl, by kernel_rfl, by kernel_rfl, by kernel_rfl⟩
abbrev ty12 : Ty := (.int .u64)
def ti12 : TInf := ⟨TypeDesc.int IntKind.u64, 1, 8, Value.int IntKind.u64 (Int.ofNat 0), some ty12, false⟩
theorem ti12_ok : Try.prog.underlying 12 = some ti12.u ∧ (Try.prog.info? 12).map (fun i => (i.size, i.bytes, i.zero)) = some (ti12.size, ti12.bytes, some ti12.zero) ∧ ti12.zero.cells.size = ti12.size ∧ (ti12.zero.cells.all (·.oneCell') = true) ∧ eqOK Try.prog 12 ti12 = true :=
  ⟨by kernel_rfl, by kernel_rfl, by kernel_rfl, by kernel_rfl, by kernel_rfl⟩
abbrev ty13 : Ty := (.pair .str (.pair (.int .u64) .unit))
def ti13 : TInf := ⟨TypeDesc.struct { toList := [{ name := "msg", type := 9, offset := 0, embedded := Bool.false, tag := "", pkgPath := "runtime", byteOffset := 0 }, { name := "addr", type := 12, offset := 1, embedded := Bool.false, tag := "", pkgPath := "runtime", byteOffset := 16 }] }, 2, 24, Value.agg { toList := [Value.string { data := { toList := [] } }, Value.int IntKind.u64 (Int.ofNat 0)] }, some ty13, false⟩
theorem ti13_ok : Try.prog.underlying 13 = some ti13.u ∧ (Try.prog.info? 13).map (fun i => (i.size, i.bytes, i.zero)) = some (ti13.size, ti13.bytes, some ti13.zero) ∧ ti13.zero.cells.size = ti13.size ∧ (ti13.zero.cells.all (·.oneCell') = true) ∧ eqOK Try.prog 13 ti13 = true :=
  ⟨by kernel_rfl, by kernel_rfl, by kernel_rfl, by kernel_rfl, by kernel_rfl⟩
abbrev ty14 : Ty := (.pair .str (.pair (.int .u64) .unit))
def ti14 : TInf := ⟨TypeDesc.struct { toList := [{ name := "msg", type := 9, offset := 0, embedded := Bool.false, tag := "", pkgPath := "runtime", byteOffset := 0 }, { name := "addr", type := 12, offset := 1, embedded := Bool.false, tag := "", pkgPath := "runtime", byteOffset := 16 }] }, 2, 24, Value.agg { toList := [Value.string { data := { toList := [] } }, Value.int IntKind.u64 (Int.ofNat 0)] }, some ty14, false⟩
theorem ti14_ok : Try.prog.underlying 14 = some ti14.u ∧ (Try.prog.info? 14).map (fun i => (i.size, i.bytes, i.zero)) = some (ti14.size, ti14.bytes, some ti14.zero) ∧ ti14.zero.cells.size = ti14.size ∧ (ti14.zero.cells.all (·.oneCell') = true) ∧ eqOK Try.prog 14 ti14 = true :=
  ⟨by kernel_rfl, by kernel_rfl, by kernel_rfl, by kernel_rfl, by kernel_rfl⟩
def ti15 : TInf := ⟨TypeDesc.pointer 140, 1, 8, Value.pointer Option.none, none, false⟩
theorem ti15_ok : Try.prog.underlying 15 = some ti15.u ∧ (Try.prog.info? 15).map (fun i => (i.size, i.bytes, i.zero)) = some (ti15.size, ti15.bytes, some ti15.zero) ∧ ti15.zero.cells.size = ti15.size ∧ (ti15.zero.cells.all (·.oneCell') = true) ∧ eqOK Try.prog 15 ti15 = true :=
  ⟨by kernel_rfl, by kernel_rfl, by kernel_rfl, by kernel_rfl, by kernel_rfl⟩
def ti16 : TInf := ⟨TypeDesc.pointer 143, 1, 8, Value.pointer Option.none, none, false⟩
theorem ti16_ok : Try.prog.underlying 16 = some ti16.u ∧ (Try.prog.info? 16).map (fun i => (i.size, i.bytes, i.zero)) = some (ti16.size, ti16.bytes, some ti16.zero) ∧ ti16.zero.cells.size = ti16.size ∧ (ti16.zero.cells.all (·.oneCell') = true) ∧ eqOK Try.prog 16 ti16 = true :=
  ⟨by kernel_rfl, by kernel_rfl, by kernel_rfl, by kernel_rfl, by kernel_rfl⟩
def ti17 : TInf := ⟨TypeDesc.pointer 151, 1, 8, Value.pointer Option.none, none, false⟩
theorem ti17_ok : Try.prog.underlying 17 = some ti17.u ∧ (Try.prog.info? 17).map (fun i => (i.size, i.bytes, i.zero)) = some (ti17.size, ti17.bytes, some ti17.zero) ∧ ti17.zero.cells.size = ti17.size ∧ (ti17.zero.cells.all (·.oneCell') = true) ∧ eqOK Try.prog 17 ti17 = true :=
  ⟨by kernel_rfl, by kernel_rfl, by kernel_rfl, by kernel_rfl, by kernel_rfl⟩
def ti18 : TInf := ⟨TypeDesc.struct { toList := [{ name := "typ", type := 17, offset := 0, embedded := Bool.false, tag := "", pkgPath := "internal/runtime/maps", byteOffset := 0 }] }, 1, 8, Value.agg { toList := [Value.pointer Option.none] }, none, false⟩
theorem ti18_ok : Try.prog.underlying 18 = some ti18.u ∧ (Try.prog.info? 18).map (fun i => (i.size, i.bytes, i.zero)) = some (ti18.size, ti18.bytes, some ti18.zero) ∧ ti18.zero.cells.size = ti18.size ∧ (ti18.zero.cells.all (·.oneCell') = true) ∧ eqOK Try.prog 18 ti18 = true :=
  ⟨by kernel_rfl, by kernel_rfl, by kernel_rfl, by kernel_rfl, by kernel_rfl⟩
def ti19 : TInf := ⟨TypeDesc.struct { toList := [{ name := "typ", type := 17, offset := 0, embedded := Bool.false, tag := "", pkgPath := "internal/runtime/maps", byteOffset := 0 }] }, 1, 8, Value.agg { toList := [Value.pointer Option.none] }, none, false⟩
theorem ti19_ok : Try.prog.underlying 19 = some ti19.u ∧ (Try.prog.info? 19).map (fun i => (i.size, i.bytes, i.zero)) = some (ti19.size, ti19.bytes, some ti19.zero) ∧ ti19.zero.cells.size = ti19.size ∧ (ti19.zero.cells.all (·.oneCell') = true) ∧ eqOK Try.prog 19 ti19 = true :=
  ⟨by kernel_rfl, by kernel_rfl, by kernel_rfl, by kernel_rfl, by kernel_rfl⟩
def ti20 : TInf := ⟨TypeDesc.interface { toList := [] }, 1, 16, Value.nilIface, none, false⟩
theorem ti20_ok : Try.prog.underlying 20 = some ti20.u ∧ (Try.prog.info? 20).map (fun i => (i.size, i.bytes, i.zero)) = some (ti20.size, ti20.bytes, some ti20.zero) ∧ ti20.zero.cells.size = ti20.size ∧ (ti20.zero.cells.all (·.oneCell') = true) ∧ eqOK Try.prog 20 ti20 = true :=
  ⟨by kernel_rfl, by kernel_rfl, by kernel_rfl, by kernel_rfl, by kernel_rfl⟩
abbrev ty21 : Ty := (.int .i32)
def ti21 : TInf := ⟨TypeDesc.int IntKind.i32, 1, 4, Value.int IntKind.i32 (Int.ofNat 0), some ty21, false⟩
theorem ti21_ok : Try.prog.underlying 21 = some ti21.u ∧ (Try.prog.info? 21).map (fun i => (i.size, i.bytes, i.zero)) = some (ti21.size, ti21.bytes, some ti21.zero) ∧ ti21.zero.cells.size = ti21.size ∧ (ti21.zero.cells.all (·.oneCell') = true) ∧ eqOK Try.prog 21 ti21 = true :=
  ⟨by kernel_rfl, by kernel_rfl, by kernel_rfl, by kernel_rfl, by kernel_rfl⟩
abbrev ty22 : Ty := (.slice 16 (.pair (.int .i64) (.pair (.int .i64) .unit)))
def ti22 : TInf := ⟨TypeDesc.slice 32, 1, 24, Value.slice Option.none 0 0, some ty22, false⟩
theorem ti22_ok : Try.prog.underlying 22 = some ti22.u ∧ (Try.prog.info? 22).map (fun i => (i.size, i.bytes, i.zero)) = some (ti22.size, ti22.bytes, some ti22.zero) ∧ ti22.zero.cells.size = ti22.size ∧ (ti22.zero.cells.all (·.oneCell') = true) ∧ eqOK Try.prog 22 ti22 = true :=
  ⟨by kernel_rfl, by kernel_rfl, by kernel_rfl, by kernel_rfl, by kernel_rfl⟩
def ti23 : TInf := ⟨TypeDesc.pointer 72, 1, 8, Value.pointer Option.none, none, false⟩
theorem ti23_ok : Try.prog.underlying 23 = some ti23.u ∧ (Try.prog.info? 23).map (fun i => (i.size, i.bytes, i.zero)) = some (ti23.size, ti23.bytes, some ti23.zero) ∧ ti23.zero.cells.size = ti23.size ∧ (ti23.zero.cells.all (·.oneCell') = true) ∧ eqOK Try.prog 23 ti23 = true :=
  ⟨by kernel_rfl, by kernel_rfl, by kernel_rfl, by kernel_rfl, by kernel_rfl⟩
def ti24 : TInf := ⟨TypeDesc.func { toList := [] } { toList := [23] } Bool.false, 1, 8, Value.nilFunc, none, false⟩
theorem ti24_ok : Try.prog.underlying 24 = some ti24.u ∧ (Try.prog.info? 24).map (fun i => (i.size, i.bytes, i.zero)) = some (ti24.size, ti24.bytes, some ti24.zero) ∧ ti24.zero.cells.size = ti24.size ∧ (ti24.zero.cells.all (·.oneCell') = true) ∧ eqOK Try.prog 24 ti24 = true :=
  ⟨by kernel_rfl, by kernel_rfl, by kernel_rfl, by kernel_rfl, by kernel_rfl⟩
def ti25 : TInf := ⟨TypeDesc.pointer 28, 1, 8, Value.pointer Option.none, none, false⟩
theorem ti25_ok : Try.prog.underlying 25 = some ti25.u ∧ (Try.prog.info? 25).map (fun i => (i.size, i.bytes, i.zero)) = some (ti25.size, ti25.bytes, some ti25.zero) ∧ ti25.zero.cells.size = ti25.size ∧ (ti25.zero.cells.all (·.oneCell') = true) ∧ eqOK Try.prog 25 ti25 = true :=
  ⟨by kernel_rfl, by kernel_rfl, by kernel_rfl, by kernel_rfl, by kernel_rfl⟩
abbrev ty26 : Ty := (.slice 8 (.int .i64))
def ti26 : TInf := ⟨TypeDesc.slice 3, 1, 24, Value.slice Option.none 0 0, some ty26, false⟩
theorem ti26_ok : Try.prog.underlying 26 = some ti26.u ∧ (Try.prog.info? 26).map (fun i => (i.size, i.bytes, i.zero)) = some (ti26.size, ti26.bytes, some ti26.zero) ∧ ti26.zero.cells.size = ti26.size ∧ (ti26.zero.cells.all (·.oneCell') = true) ∧ eqOK Try.prog 26 ti26 = true :=
  ⟨by kernel_rfl, by kernel_rfl, by kernel_rfl, by kernel_rfl, by kernel_rfl⟩
abbrev ty27 : Ty := (.pair (.slice 16 (.pair (.int .i64) (.pair (.int .i64) .unit))) (.pair (.slice 8 (.int .i64)) .unit))
def ti27 : TInf := ⟨TypeDesc.struct { toList := [{ name := "L", type := 22, offset := 0, embedded := Bool.false, tag := "", pkgPath := "", byteOffset := 0 }, { name := "X", type := 26, offset := 1, embedded := Bool.false, tag := "", pkgPath := "", byteOffset := 24 }] }, 2, 48, Value.agg { toList := [Value.slice Option.none 0 0, Value.slice Option.none 0 0] }, some ty27, false⟩
theorem ti27_ok : Try.prog.underlying 27 = some ti27.u ∧ (Try.prog.info? 27).map (fun i => (i.size, i.bytes, i.zero)) = some (ti27.size, ti27.bytes, some ti27.zero) ∧ ti27.zero.cells.size = ti27.size ∧ (ti27.zero.cells.all (·.oneCell') = true) ∧ eqOK Try.prog 27 ti27 = true :=
  ⟨by kernel_rfl, by kernel_rfl, by kernel_rfl, by kernel_rfl, by kernel_rfl⟩
abbrev ty28 : Ty := (.pair (.slice 16 (.pair (.int .i64) (.pair (.int .i64) .unit))) (.pair (.slice 8 (.int .i64)) .unit))
def ti28 : TInf := ⟨TypeDesc.struct { toList := [{ name := "L", type := 22, offset := 0, embedded := Bool.false, tag := "", pkgPath := "", byteOffset := 0 }, { name := "X", type := 26, offset := 1, embedded := Bool.false, tag := "", pkgPath := "", byteOffset := 24 }] }, 2, 48, Value.agg { toList := [Value.slice Option.none 0 0, Value.slice Option.none 0 0] }, some ty28, false⟩
theorem ti28_ok : Try.prog.underlying 28 = some ti28.u ∧ (Try.prog.info? 28).map (fun i => (i.size, i.bytes, i.zero)) = some (ti28.size, ti28.bytes, some ti28.zero) ∧ ti28.zero.cells.size = ti28.size ∧ (ti28.zero.cells.all (·.oneCell') = true) ∧ eqOK Try.prog 28 ti28 = true :=
  ⟨by kernel_rfl, by kernel_rfl, by kernel_rfl, by kernel_rfl, by kernel_rfl⟩
abbrev ty29 : Ty := (.int .i64)
def ti29 : TInf := ⟨TypeDesc.int IntKind.i64, 1, 8, Value.int IntKind.i64 (Int.ofNat 0), some ty29, false⟩
theorem ti29_ok : Try.prog.underlying 29 = some ti29.u ∧ (Try.prog.info? 29).map (fun i => (i.size, i.bytes, i.zero)) = some (ti29.size, ti29.bytes, some ti29.zero) ∧ ti29.zero.cells.size = ti29.size ∧ (ti29.zero.cells.all (·.oneCell') = true) ∧ eqOK Try.prog 29 ti29 = true :=
  ⟨by kernel_rfl, by kernel_rfl, by kernel_rfl, by kernel_rfl, by kernel_rfl⟩
def ti30 : TInf := ⟨TypeDesc.func { toList := [3, 3, 3] } { toList := [29] } Bool.false, 1, 8, Value.nilFunc, none, false⟩
theorem ti30_ok : Try.prog.underlying 30 = some ti30.u ∧ (Try.prog.info? 30).map (fun i => (i.size, i.bytes, i.zero)) = some (ti30.size, ti30.bytes, some ti30.zero) ∧ ti30.zero.cells.size = ti30.size ∧ (ti30.zero.cells.all (·.oneCell') = true) ∧ eqOK Try.prog 30 ti30 = true :=
  ⟨by kernel_rfl, by kernel_rfl, by kernel_rfl, by kernel_rfl, by kernel_rfl⟩
abbrev ty31 : Ty := (.pair (.int .i64) (.pair (.int .i64) .unit))
def ti31 : TInf := ⟨TypeDesc.struct { toList := [{ name := "Lo", type := 3, offset := 0, embedded := Bool.false, tag := "", pkgPath := "", byteOffset := 0 }, { name := "Hi", type := 3, offset := 1, embedded := Bool.false, tag := "", pkgPath := "", byteOffset := 8 }] }, 2, 16, Value.agg { toList := [Value.int IntKind.i64 (Int.ofNat 0), Value.int IntKind.i64 (Int.ofNat 0)] }, some ty31, true⟩
theorem ti31_ok : Try.prog.underlying 31 = some ti31.u ∧ (Try.prog.info? 31).map (fun i => (i.size, i.bytes, i.zero)) = some (ti31.size, ti31.bytes, some ti31.zero) ∧ ti31.zero.cells.size = ti31.size ∧ (ti31.zero.cells.all (·.oneCell') = true) ∧ eqOK Try.prog 31 ti31 = true :=
  ⟨by kernel_rfl, by kernel_rfl, by kernel_rfl, by kernel_rfl, by kernel_rfl⟩
abbrev ty32 : Ty := (.pair (.int .i64) (.pair (.int .i64) .unit))
def ti32 : TInf := ⟨TypeDesc.struct { toList := [{ name := "Lo", type := 3, offset := 0, embedded := Bool.false, tag := "", pkgPath := "", byteOffset := 0 }, { name := "Hi", type := 3, offset := 1, embedded := Bool.false, tag := "", pkgPath := "", byteOffset := 8 }] }, 2, 16, Value.agg { toList := [Value.int IntKind.i64 (Int.ofNat 0), Value.int IntKind.i64 (Int.ofNat 0)] }, some ty32, true⟩
theorem ti32_ok : Try.prog.underlying 32 = some ti32.u ∧ (Try.prog.info? 32).map (fun i => (i.size, i.bytes, i.zero)) = some (ti32.size, ti32.bytes, some ti32.zero) ∧ ti32.zero.cells.size = ti32.size ∧ (ti32.zero.cells.all (·.oneCell') = true) ∧ eqOK Try.prog 32 ti32 = true :=
  ⟨by kernel_rfl, by kernel_rfl, by kernel_rfl, by kernel_rfl, by kernel_rfl⟩
def ti34 : TInf := ⟨TypeDesc.func { toList := [3] } { toList := [3, 4] } Bool.false, 1, 8, Value.nilFunc, none, false⟩
theorem ti34_ok : Try.prog.underlying 34 = some ti34.u ∧ (Try.prog.info? 34).map (fun i => (i.size, i.bytes, i.zero)) = some (ti34.size, ti34.bytes, some ti34.zero) ∧ ti34.zero.cells.size = ti34.size ∧ (ti34.zero.cells.all (·.oneCell') = true) ∧ eqOK Try.prog 34 ti34 = true :=
  ⟨by kernel_rfl, by kernel_rfl, by kernel_rfl, by kernel_rfl, by kernel_rfl⟩
def ti35 : TInf := ⟨TypeDesc.func { toList := [] } { toList := [4] } Bool.false, 1, 8, Value.nilFunc, none, false⟩
theorem ti35_ok : Try.prog.underlying 35 = some ti35.u ∧ (Try.prog.info? 35).map (fun i => (i.size, i.bytes, i.zero)) = some (ti35.size, ti35.bytes, some ti35.zero) ∧ ti35.zero.cells.size = ti35.size ∧ (ti35.zero.cells.all (·.oneCell') = true) ∧ eqOK Try.prog 35 ti35 = true :=
  ⟨by kernel_rfl, by kernel_rfl, by kernel_rfl, by kernel_rfl, by kernel_rfl⟩
def ti36 : TInf := ⟨TypeDesc.func { toList := [22, 3] } { toList := [4] } Bool.false, 1, 8, Value.nilFunc, none, false⟩
theorem ti36_ok : Try.prog.underlying 36 = some ti36.u ∧ (Try.prog.info? 36).map (fun i => (i.size, i.bytes, i.zero)) = some (ti36.size, ti36.bytes, some ti36.zero) ∧ ti36.zero.cells.size = ti36.size ∧ (ti36.zero.cells.all (·.oneCell') = true) ∧ eqOK Try.prog 36 ti36 = true :=
  ⟨by kernel_rfl, by kernel_rfl, by kernel_rfl, by kernel_rfl, by kernel_rfl⟩
def ti37 : TInf := ⟨TypeDesc.func { toList := [3, 3] } { toList := [3] } Bool.false, 1, 8, Value.nilFunc, none, false⟩
theorem ti37_ok : Try.prog.underlying 37 = some ti37.u ∧ (Try.prog.info? 37).map (fun i => (i.size, i.bytes, i.zero)) = some (ti37.size, ti37.bytes, some ti37.zero) ∧ ti37.zero.cells.size = ti37.size ∧ (ti37.zero.cells.all (·.oneCell') = true) ∧ eqOK Try.prog 37 ti37 = true :=
  ⟨by kernel_rfl, by kernel_rfl, by kernel_rfl, by kernel_rfl, by kernel_rfl⟩
def ti38 : TInf := ⟨TypeDesc.func { toList := [3, 3] } { toList := [22] } Bool.false, 1, 8, Value.nilFunc, none, false⟩
theorem ti38_ok : Try.prog.underlying 38 = some ti38.u ∧ (Try.prog.info? 38).map (fun i => (i.size, i.bytes, i.zero)) = some (ti38.size, ti38.bytes, some ti38.zero) ∧ ti38.zero.cells.size = ti38.size ∧ (ti38.zero.cells.all (·.oneCell') = true) ∧ eqOK Try.prog 38 ti38 = true :=
  ⟨by kernel_rfl, by kernel_rfl, by kernel_rfl, by kernel_rfl, by kernel_rfl⟩
def ti39 : TInf := ⟨TypeDesc.func { toList := [22, 3, 3] } { toList := [4] } Bool.false, 1, 8, Value.nilFunc, none, false⟩
theorem ti39_ok : Try.prog.underlying 39 = some ti39.u ∧ (Try.prog.info? 39).map (fun i => (i.size, i.bytes, i.zero)) = some (ti39.size, ti39.bytes, some ti39.zero) ∧ ti39.zero.cells.size = ti39.size ∧ (ti39.zero.cells.all (·.oneCell') = true) ∧ eqOK Try.prog 39 ti39 = true :=
  ⟨by kernel_rfl, by kernel_rfl, by kernel_rfl, by kernel_rfl, by kernel_rfl⟩
def ti40 : TInf := ⟨TypeDesc.func { toList := [22] } { toList := [4] } Bool.false, 1, 8, Value.nilFunc, none, false⟩
theorem ti40_ok : Try.prog.underlying 40 = some ti40.u ∧ (Try.prog.info? 40).map (fun i => (i.size, i.bytes, i.zero)) = some (ti40.size, ti40.bytes, some ti40.zero) ∧ ti40.zero.cells.size = ti40.size ∧ (ti40.zero.cells.all (·.oneCell') = true) ∧ eqOK Try.prog 40 ti40 = true :=
  ⟨by kernel_rfl, by kernel_rfl, by kernel_rfl, by kernel_rfl, by kernel_rfl⟩
def ti41 : TInf := ⟨TypeDesc.func { toList := [3, 3] } { toList := [4] } Bool.false, 1, 8, Value.nilFunc, none, false⟩
theorem ti41_ok : Try.prog.underlying 41 = some ti41.u ∧ (Try.prog.info? 41).map (fun i => (i.size, i.bytes, i.zero)) = some (ti41.size, ti41.bytes, some ti41.zero) ∧ ti41.zero.cells.size = ti41.size ∧ (ti41.zero.cells.all (·.oneCell') = true) ∧ eqOK Try.prog 41 ti41 = true :=
  ⟨by kernel_rfl, by kernel_rfl, by kernel_rfl, by kernel_rfl, by kernel_rfl⟩
def ti42 : TInf := ⟨TypeDesc.func { toList := [23, 25] } { toList := [4] } Bool.false, 1, 8, Value.nilFunc, none, false⟩
theorem ti42_ok : Try.prog.underlying 42 = some ti42.u ∧ (Try.prog.info? 42).map (fun i => (i.size, i.bytes, i.zero)) = some (ti42.size, ti42.bytes, some ti42.zero) ∧ ti42.zero.cells.size = ti42.size ∧ (ti42.zero.cells.all (·.oneCell') = true) ∧ eqOK Try.prog 42 ti42 = true :=
  ⟨by kernel_rfl, by kernel_rfl, by kernel_rfl, by kernel_rfl, by kernel_rfl⟩
def ti43 : TInf := ⟨TypeDesc.func { toList := [22, 22] } { toList := [4] } Bool.false, 1, 8, Value.nilFunc, none, false⟩
theorem ti43_ok : Try.prog.underlying 43 = some ti43.u ∧ (Try.prog.info? 43).map (fun i => (i.size, i.bytes, i.zero)) = some (ti43.size, ti43.bytes, some ti43.zero) ∧ ti43.zero.cells.size = ti43.size ∧ (ti43.zero.cells.all (·.oneCell') = true) ∧ eqOK Try.prog 43 ti43 = true :=
  ⟨by kernel_rfl, by kernel_rfl, by kernel_rfl, by kernel_rfl, by kernel_rfl⟩
def ti44 : TInf := ⟨TypeDesc.pointer 82, 1, 8, Value.pointer Option.none, none, false⟩
theorem ti44_ok : Try.prog.underlying 44 = some ti44.u ∧ (Try.prog.info? 44).map (fun i => (i.size, i.bytes, i.zero)) = some (ti44.size, ti44.bytes, some ti44.zero) ∧ ti44.zero.cells.size = ti44.size ∧ (ti44.zero.cells.all (·.oneCell') = true) ∧ eqOK Try.prog 44 ti44 = true :=
  ⟨by kernel_rfl, by kernel_rfl, by kernel_rfl, by kernel_rfl, by kernel_rfl⟩
def ti45 : TInf := ⟨TypeDesc.func { toList := [] } { toList := [44] } Bool.false, 1, 8, Value.nilFunc, none, false⟩
theorem ti45_ok : Try.prog.underlying 45 = some ti45.u ∧ (Try.prog.info? 45).map (fun i => (i.size, i.bytes, i.zero)) = some (ti45.size, ti45.bytes, some ti45.zero) ∧ ti45.zero.cells.size = ti45.size ∧ (ti45.zero.cells.all (·.oneCell') = true) ∧ eqOK Try.prog 45 ti45 = true :=
  ⟨by kernel_rfl, by kernel_rfl, by kernel_rfl, by kernel_rfl, by kernel_rfl⟩
def ti46 : TInf := ⟨TypeDesc.func { toList := [3, 3, 32] } { toList := [29] } Bool.false, 1, 8, Value.nilFunc, none, false⟩
theorem ti46_ok : Try.prog.underlying 46 = some ti46.u ∧ (Try.prog.info? 46).map (fun i => (i.size, i.bytes, i.zero)) = some (ti46.size, ti46.bytes, some ti46.zero) ∧ ti46.zero.cells.size = ti46.size ∧ (ti46.zero.cells.all (·.oneCell') = true) ∧ eqOK Try.prog 46 ti46 = true :=
  ⟨by kernel_rfl, by kernel_rfl, by kernel_rfl, by kernel_rfl, by kernel_rfl⟩
def ti48 : TInf := ⟨TypeDesc.func { toList := [3] } { toList := [32, 32, 4] } Bool.false, 1, 8, Value.nilFunc, none, false⟩
theorem ti48_ok : Try.prog.underlying 48 = some ti48.u ∧ (Try.prog.info? 48).map (fun i => (i.size, i.bytes, i.zero)) = some (ti48.size, ti48.bytes, some ti48.zero) ∧ ti48.zero.cells.size = ti48.size ∧ (ti48.zero.cells.all (·.oneCell') = true) ∧ eqOK Try.prog 48 ti48 = true :=
  ⟨by kernel_rfl, by kernel_rfl, by kernel_rfl, by kernel_rfl, by kernel_rfl⟩
def ti49 : TInf := ⟨TypeDesc.func { toList := [] } { toList := [3] } Bool.false, 1, 8, Value.nilFunc, none, false⟩
theorem ti49_ok : Try.prog.underlying 49 = some ti49.u ∧ (Try.prog.info? 49).map (fun i => (i.size, i.bytes, i.zero)) = some (ti49.size, ti49.bytes, some ti49.zero) ∧ ti49.zero.cells.size = ti49.size ∧ (ti49.zero.cells.all (·.oneCell') = true) ∧ eqOK Try.prog 49 ti49 = true :=
  ⟨by kernel_rfl, by kernel_rfl, by kernel_rfl, by kernel_rfl, by kernel_rfl⟩
abbrev ty50 : Ty := (.slice 32 (.pair .str (.pair .str .unit)))
def ti50 : TInf := ⟨TypeDesc.slice 68, 1, 24, Value.slice Option.none 0 0, some ty50, false⟩
theorem ti50_ok : Try.prog.underlying 50 = some ti50.u ∧ (Try.prog.info? 50).map (fun i => (i.size, i.bytes, i.zero)) = some (ti50.size, ti50.bytes, some ti50.zero) ∧ ti50.zero.cells.size = ti50.size ∧ (ti50.zero.cells.all (·.oneCell') = true) ∧ eqOK Try.prog 50 ti50 = true :=
  ⟨by kernel_rfl, by kernel_rfl, by kernel_rfl, by kernel_rfl, by kernel_rfl⟩
def ti52 : TInf := ⟨TypeDesc.func { toList := [9] } { toList := [9, 50, 29] } Bool.false, 1, 8, Value.nilFunc, none, false⟩
theorem ti52_ok : Try.prog.underlying 52 = some ti52.u ∧ (Try.prog.info? 52).map (fun i => (i.size, i.bytes, i.zero)) = some (ti52.size, ti52.bytes, some ti52.zero) ∧ ti52.zero.cells.size = ti52.size ∧ (ti52.zero.cells.all (·.oneCell') = true) ∧ eqOK Try.prog 52 ti52 = true :=
  ⟨by kernel_rfl, by kernel_rfl, by kernel_rfl, by kernel_rfl, by kernel_rfl⟩
def ti53 : TInf := ⟨TypeDesc.func { toList := [50, 50] } { toList := [4] } Bool.false, 1, 8, Value.nilFunc, none, false⟩
theorem ti53_ok : Try.prog.underlying 53 = some ti53.u ∧ (Try.prog.info? 53).map (fun i => (i.size, i.bytes, i.zero)) = some (ti53.size, ti53.bytes, some ti53.zero) ∧ ti53.zero.cells.size = ti53.size ∧ (ti53.zero.cells.all (·.oneCell') = true) ∧ eqOK Try.prog 53 ti53 = true :=
  ⟨by kernel_rfl, by kernel_rfl, by kernel_rfl, by kernel_rfl, by kernel_rfl⟩
def ti54 : TInf := ⟨TypeDesc.func { toList := [9] } { toList := [4] } Bool.false, 1, 8, Value.nilFunc, none, false⟩
theorem ti54_ok : Try.prog.underlying 54 = some ti54.u ∧ (Try.prog.info? 54).map (fun i => (i.size, i.bytes, i.zero)) = some (ti54.size, ti54.bytes, some ti54.zero) ∧ ti54.zero.cells.size = ti54.size ∧ (ti54.zero.cells.all (·.oneCell') = true) ∧ eqOK Try.prog 54 ti54 = true :=
  ⟨by kernel_rfl, by kernel_rfl, by kernel_rfl, by kernel_rfl, by kernel_rfl⟩
def ti55 : TInf := ⟨TypeDesc.func { toList := [50] } { toList := [4] } Bool.false, 1, 8, Value.nilFunc, none, false⟩
theorem ti55_ok : Try.prog.underlying 55 = some ti55.u ∧ (Try.prog.info? 55).map (fun i => (i.size, i.bytes, i.zero)) = some (ti55.size, ti55.bytes, some ti55.zero) ∧ ti55.zero.cells.size = ti55.size ∧ (ti55.zero.cells.all (·.oneCell') = true) ∧ eqOK Try.prog 55 ti55 = true :=
  ⟨by kernel_rfl, by kernel_rfl, by kernel_rfl, by kernel_rfl, by kernel_rfl⟩
def ti57 : TInf := ⟨TypeDesc.func { toList := [9, 50] } { toList := [9, 29] } Bool.false, 1, 8, Value.nilFunc, none, false⟩
theorem ti57_ok : Try.prog.underlying 57 = some ti57.u ∧ (Try.prog.info? 57).map (fun i => (i.size, i.bytes, i.zero)) = some (ti57.size, ti57.bytes, some ti57.zero) ∧ ti57.zero.cells.size = ti57.size ∧ (ti57.zero.cells.all (·.oneCell') = true) ∧ eqOK Try.prog 57 ti57 = true :=
  ⟨by kernel_rfl, by kernel_rfl, by kernel_rfl, by kernel_rfl, by kernel_rfl⟩
def ti58 : TInf := ⟨TypeDesc.func { toList := [9, 50] } { toList := [4] } Bool.false, 1, 8, Value.nilFunc, none, false⟩
theorem ti58_ok : Try.prog.underlying 58 = some ti58.u ∧ (Try.prog.info? 58).map (fun i => (i.size, i.bytes, i.zero)) = some (ti58.size, ti58.bytes, some ti58.zero) ∧ ti58.zero.cells.size = ti58.size ∧ (ti58.zero.cells.all (·.oneCell') = true) ∧ eqOK Try.prog 58 ti58 = true :=
  ⟨by kernel_rfl, by kernel_rfl, by kernel_rfl, by kernel_rfl, by kernel_rfl⟩
abbrev ty59 : Ty := (.pair (.int .i64) (.pair (.int .i64) (.pair (.int .i64) (.pair .str (.pair (.slice 32 (.pair .str (.pair .str .unit))) .unit)))))
def ti59 : TInf := ⟨TypeDesc.struct { toList := [{ name := "Channels", type := 3, offset := 0, embedded := Bool.false, tag := "", pkgPath := "", byteOffset := 0 }, { name := "Rate", type := 3, offset := 1, embedded := Bool.false, tag := "", pkgPath := "", byteOffset := 8 }, { name := "Bits", type := 3, offset := 2, embedded := Bool.false, tag := "", pkgPath := "", byteOffset := 16 }, { name := "Frames", type := 9, offset := 3, embedded := Bool.false, tag := "", pkgPath := "", byteOffset := 24 }, { name := "More", type := 50, offset := 4, embedded := Bool.false, tag := "", pkgPath := "", byteOffset := 40 }] }, 5, 64, Value.agg { toList := [Value.int IntKind.i64 (Int.ofNat 0), Value.int IntKind.i64 (Int.ofNat 0), Value.int IntKind.i64 (Int.ofNat 0), Value.string { data := { toList := [] } }, Value.slice Option.none 0 0] }, some ty59, false⟩
theorem ti59_ok : Try.prog.underlying 59 = some ti59.u ∧ (Try.prog.info? 59).map (fun i => (i.size, i.bytes, i.zero)) = some (ti59.size, ti59.bytes, some ti59.zero) ∧ ti59.zero.cells.size = ti59.size ∧ (ti59.zero.cells.all (·.oneCell') = true) ∧ eqOK Try.prog 59 ti59 = true :=
  ⟨by kernel_rfl, by kernel_rfl, by kernel_rfl, by kernel_rfl, by kernel_rfl⟩
abbrev ty60 : Ty := (.pair (.int .i64) (.pair (.int .i64) (.pair (.int .i64) (.pair .str (.pair (.slice 32 (.pair .str (.pair .str .unit))) .unit)))))
def ti60 : TInf := ⟨TypeDesc.struct { toList := [{ name := "Channels", type := 3, offset := 0, embedded := Bool.false, tag := "", pkgPath := "", byteOffset := 0 }, { name := "Rate", type := 3, offset := 1, embedded := Bool.false, tag := "", pkgPath := "", byteOffset := 8 }, { name := "Bits", type := 3, offset := 2, embedded := Bool.false, tag := "", pkgPath := "", byteOffset := 16 }, { name := "Frames", type := 9, offset := 3, embedded := Bool.false, tag := "", pkgPath := "", byteOffset := 24 }, { name := "More", type := 50, offset := 4, embedded := Bool.false, tag := "", pkgPath := "", byteOffset := 40 }] }, 5, 64, Value.agg { toList := [Value.int IntKind.i64 (Int.ofNat 0), Value.int IntKind.i64 (Int.ofNat 0), Value.int IntKind.i64 (Int.ofNat 0), Value.string { data := { toList := [] } }, Value.slice Option.none 0 0] }, some ty60, false⟩
theorem ti60_ok : Try.prog.underlying 60 = some ti60.u ∧ (Try.prog.info? 60).map (fun i => (i.size, i.bytes, i.zero)) = some (ti60.size, ti60.bytes, some ti60.zero) ∧ ti60.zero.cells.size = ti60.size ∧ (ti60.zero.cells.all (·.oneCell') = true) ∧ eqOK Try.prog 60 ti60 = true :=
  ⟨by kernel_rfl, by kernel_rfl, by kernel_rfl, by kernel_rfl, by kernel_rfl⟩
def ti61 : TInf := ⟨TypeDesc.func { toList := [60] } { toList := [9, 29] } Bool.false, 1, 8, Value.nilFunc, none, false⟩
theorem ti61_ok : Try.prog.underlying 61 = some ti61.u ∧ (Try.prog.info? 61).map (fun i => (i.size, i.bytes, i.zero)) = some (ti61.size, ti61.bytes, some ti61.zero) ∧ ti61.zero.cells.size = ti61.size ∧ (ti61.zero.cells.all (·.oneCell') = true) ∧ eqOK Try.prog 61 ti61 = true :=
  ⟨by kernel_rfl, by kernel_rfl, by kernel_rfl, by kernel_rfl, by kernel_rfl⟩
def ti62 : TInf := ⟨TypeDesc.func { toList := [60] } { toList := [4] } Bool.false, 1, 8, Value.nilFunc, none, false⟩
theorem ti62_ok : Try.prog.underlying 62 = some ti62.u ∧ (Try.prog.info? 62).map (fun i => (i.size, i.bytes, i.zero)) = some (ti62.size, ti62.bytes, some ti62.zero) ∧ ti62.zero.cells.size = ti62.size ∧ (ti62.zero.cells.all (·.oneCell') = true) ∧ eqOK Try.prog 62 ti62 = true :=
  ⟨by kernel_rfl, by kernel_rfl, by kernel_rfl, by kernel_rfl, by kernel_rfl⟩
def ti64 : TInf := ⟨TypeDesc.func { toList := [9] } { toList := [60, 29] } Bool.false, 1, 8, Value.nilFunc, none, false⟩
theorem ti64_ok : Try.prog.underlying 64 = some ti64.u ∧ (Try.prog.info? 64).map (fun i => (i.size, i.bytes, i.zero)) = some (ti64.size, ti64.bytes, some ti64.zero) ∧ ti64.zero.cells.size = ti64.size ∧ (ti64.zero.cells.all (·.oneCell') = true) ∧ eqOK Try.prog 64 ti64 = true :=
  ⟨by kernel_rfl, by kernel_rfl, by kernel_rfl, by kernel_rfl, by kernel_rfl⟩
def ti65 : TInf := ⟨TypeDesc.func { toList := [60, 60] } { toList := [4] } Bool.false, 1, 8, Value.nilFunc, none, false⟩
theorem ti65_ok : Try.prog.underlying 65 = some ti65.u ∧ (Try.prog.info? 65).map (fun i => (i.size, i.bytes, i.zero)) = some (ti65.size, ti65.bytes, some ti65.zero) ∧ ti65.zero.cells.size = ti65.size ∧ (ti65.zero.cells.all (·.oneCell') = true) ∧ eqOK Try.prog 65 ti65 = true :=
  ⟨by kernel_rfl, by kernel_rfl, by kernel_rfl, by kernel_rfl, by kernel_rfl⟩
def ti66 : TInf := ⟨TypeDesc.func { toList := [9, 50, 3] } { toList := [4] } Bool.false, 1, 8, Value.nilFunc, none, false⟩
theorem ti66_ok : Try.prog.underlying 66 = some ti66.u ∧ (Try.prog.info? 66).map (fun i => (i.size, i.bytes, i.zero)) = some (ti66.size, ti66.bytes, some ti66.zero) ∧ ti66.zero.cells.size = ti66.size ∧ (ti66.zero.cells.all (·.oneCell') = true) ∧ eqOK Try.prog 66 ti66 = true :=
  ⟨by kernel_rfl, by kernel_rfl, by kernel_rfl, by kernel_rfl, by kernel_rfl⟩
abbrev ty67 : Ty := (.pair .str (.pair .str .unit))
def ti67 : TInf := ⟨TypeDesc.struct { toList := [{ name := "Type", type := 9, offset := 0, embedded := Bool.false, tag := "", pkgPath := "", byteOffset := 0 }, { name := "Data", type := 9, offset := 1, embedded := Bool.false, tag := "", pkgPath := "", byteOffset := 16 }] }, 2, 32, Value.agg { toList := [Value.string { data := { toList := [] } }, Value.string { data := { toList := [] } }] }, some ty67, true⟩
theorem ti67_ok : Try.prog.underlying 67 = some ti67.u ∧ (Try.prog.info? 67).map (fun i => (i.size, i.bytes, i.zero)) = some (ti67.size, ti67.bytes, some ti67.zero) ∧ ti67.zero.cells.size = ti67.size ∧ (ti67.zero.cells.all (·.oneCell') = true) ∧ eqOK Try.prog 67 ti67 = true :=
  ⟨by kernel_rfl, by kernel_rfl, by kernel_rfl, by kernel_rfl, by kernel_rfl⟩
abbrev ty68 : Ty := (.pair .str (.pair .str .unit))
def ti68 : TInf := ⟨TypeDesc.struct { toList := [{ name := "Type", type := 9, offset := 0, embedded := Bool.false, tag := "", pkgPath := "", byteOffset := 0 }, { name := "Data", type := 9, offset := 1, embedded := Bool.false, tag := "", pkgPath := "", byteOffset := 16 }] }, 2, 32, Value.agg { toList := [Value.string { data := { toList := [] } }, Value.string { data := { toList := [] } }] }, some ty68, true⟩
theorem ti68_ok : Try.prog.underlying 68 = some ti68.u ∧ (Try.prog.info? 68).map (fun i => (i.size, i.bytes, i.zero)) = some (ti68.size, ti68.bytes, some ti68.zero) ∧ ti68.zero.cells.size = ti68.size ∧ (ti68.zero.cells.all (·.oneCell') = true) ∧ eqOK Try.prog 68 ti68 = true :=
  ⟨by kernel_rfl, by kernel_rfl, by kernel_rfl, by kernel_rfl, by kernel_rfl⟩
def ti69 : TInf := ⟨TypeDesc.func { toList := [60, 3] } { toList := [4] } Bool.false, 1, 8, Value.nilFunc, none, false⟩
theorem ti69_ok : Try.prog.underlying 69 = some ti69.u ∧ (Try.prog.info? 69).map (fun i => (i.size, i.bytes, i.zero)) = some (ti69.size, ti69.bytes, some ti69.zero) ∧ ti69.zero.cells.size = ti69.size ∧ (ti69.zero.cells.all (·.oneCell') = true) ∧ eqOK Try.prog 69 ti69 = true :=
  ⟨by kernel_rfl, by kernel_rfl, by kernel_rfl, by kernel_rfl, by kernel_rfl⟩
abbrev ty70 : Ty := (.slice 24 (.pair (.pair (.int .i64) (.pair (.int .i64) .unit)) (.pair (.int .i64) .unit)))
def ti70 : TInf := ⟨TypeDesc.slice 75, 1, 24, Value.slice Option.none 0 0, some ty70, false⟩
theorem ti70_ok : Try.prog.underlying 70 = some ti70.u ∧ (Try.prog.info? 70).map (fun i => (i.size, i.bytes, i.zero)) = some (ti70.size, ti70.bytes, some ti70.zero) ∧ ti70.zero.cells.size = ti70.size ∧ (ti70.zero.cells.all (·.oneCell') = true) ∧ eqOK Try.prog 70 ti70 = true :=
  ⟨by kernel_rfl, by kernel_rfl, by kernel_rfl, by kernel_rfl, by kernel_rfl⟩
abbrev ty71 : Ty := (.pair (.slice 24 (.pair (.pair (.int .i64) (.pair (.int .i64) .unit)) (.pair (.int .i64) .unit))) .unit)
def ti71 : TInf := ⟨TypeDesc.struct { toList := [{ name := "items", type := 70, offset := 0, embedded := Bool.false, tag := "", pkgPath := "mortise/regions", byteOffset := 0 }] }, 1, 24, Value.agg { toList := [Value.slice Option.none 0 0] }, some ty71, false⟩
theorem ti71_ok : Try.prog.underlying 71 = some ti71.u ∧ (Try.prog.info? 71).map (fun i => (i.size, i.bytes, i.zero)) = some (ti71.size, ti71.bytes, some ti71.zero) ∧ ti71.zero.cells.size = ti71.size ∧ (ti71.zero.cells.all (·.oneCell') = true) ∧ eqOK Try.prog 71 ti71 = true :=
  ⟨by kernel_rfl, by kernel_rfl, by kernel_rfl, by kernel_rfl, by kernel_rfl⟩
abbrev ty72 : Ty := (.pair (.slice 24 (.pair (.pair (.int .i64) (.pair (.int .i64) .unit)) (.pair (.int .i64) .unit))) .unit)
def ti72 : TInf := ⟨TypeDesc.struct { toList := [{ name := "items", type := 70, offset := 0, embedded := Bool.false, tag := "", pkgPath := "mortise/regions", byteOffset := 0 }] }, 1, 24, Value.agg { toList := [Value.slice Option.none 0 0] }, some ty72, false⟩
theorem ti72_ok : Try.prog.underlying 72 = some ti72.u ∧ (Try.prog.info? 72).map (fun i => (i.size, i.bytes, i.zero)) = some (ti72.size, ti72.bytes, some ti72.zero) ∧ ti72.zero.cells.size = ti72.size ∧ (ti72.zero.cells.all (·.oneCell') = true) ∧ eqOK Try.prog 72 ti72 = true :=
  ⟨by kernel_rfl, by kernel_rfl, by kernel_rfl, by kernel_rfl, by kernel_rfl⟩
def ti73 : TInf := ⟨TypeDesc.func { toList := [70, 3, 70] } { toList := [70] } Bool.true, 1, 8, Value.nilFunc, none, false⟩
theorem ti73_ok : Try.prog.underlying 73 = some ti73.u ∧ (Try.prog.info? 73).map (fun i => (i.size, i.bytes, i.zero)) = some (ti73.size, ti73.bytes, some ti73.zero) ∧ ti73.zero.cells.size = ti73.size ∧ (ti73.zero.cells.all (·.oneCell') = true) ∧ eqOK Try.prog 73 ti73 = true :=
  ⟨by kernel_rfl, by kernel_rfl, by kernel_rfl, by kernel_rfl, by kernel_rfl⟩
abbrev ty74 : Ty := (.pair (.pair (.int .i64) (.pair (.int .i64) .unit)) (.pair (.int .i64) .unit))
def ti74 : TInf := ⟨TypeDesc.struct { toList := [{ name := "span", type := 32, offset := 0, embedded := Bool.false, tag := "", pkgPath := "mortise/regions", byteOffset := 0 }, { name := "x", type := 3, offset := 2, embedded := Bool.false, tag := "", pkgPath := "mortise/regions", byteOffset := 16 }] }, 3, 24, Value.agg { toList := [Value.int IntKind.i64 (Int.ofNat 0), Value.int IntKind.i64 (Int.ofNat 0), Value.int IntKind.i64 (Int.ofNat 0)] }, some ty74, true⟩
theorem ti74_ok : Try.prog.underlying 74 = some ti74.u ∧ (Try.prog.info? 74).map (fun i => (i.size, i.bytes, i.zero)) = some (ti74.size, ti74.bytes, some ti74.zero) ∧ ti74.zero.cells.size = ti74.size ∧ (ti74.zero.cells.all (·.oneCell') = true) ∧ eqOK Try.prog 74 ti74 = true :=
  ⟨by kernel_rfl, by kernel_rfl, by kernel_rfl, by kernel_rfl, by kernel_rfl⟩
abbrev ty75 : Ty := (.pair (.pair (.int .i64) (.pair (.int .i64) .unit)) (.pair (.int .i64) .unit))
def ti75 : TInf := ⟨TypeDesc.struct { toList := [{ name := "span", type := 32, offset := 0, embedded := Bool.false, tag := "", pkgPath := "mortise/regions", byteOffset := 0 }, { name := "x", type := 3, offset := 2, embedded := Bool.false, tag := "", pkgPath := "mortise/regions", byteOffset := 16 }] }, 3, 24, Value.agg { toList := [Value.int IntKind.i64 (Int.ofNat 0), Value.int IntKind.i64 (Int.ofNat 0), Value.int IntKind.i64 (Int.ofNat 0)] }, some ty75, true⟩
theorem ti75_ok : Try.prog.underlying 75 = some ti75.u ∧ (Try.prog.info? 75).map (fun i => (i.size, i.bytes, i.zero)) = some (ti75.size, ti75.bytes, some ti75.zero) ∧ ti75.zero.cells.size = ti75.size ∧ (ti75.zero.cells.all (·.oneCell') = true) ∧ eqOK Try.prog 75 ti75 = true :=
  ⟨by kernel_rfl, by kernel_rfl, by kernel_rfl, by kernel_rfl, by kernel_rfl⟩
def ti76 : TInf := ⟨TypeDesc.func { toList := [3] } { toList := [3] } Bool.false, 1, 8, Value.nilFunc, none, false⟩
theorem ti76_ok : Try.prog.underlying 76 = some ti76.u ∧ (Try.prog.info? 76).map (fun i => (i.size, i.bytes, i.zero)) = some (ti76.size, ti76.bytes, some ti76.zero) ∧ ti76.zero.cells.size = ti76.size ∧ (ti76.zero.cells.all (·.oneCell') = true) ∧ eqOK Try.prog 76 ti76 = true :=
  ⟨by kernel_rfl, by kernel_rfl, by kernel_rfl, by kernel_rfl, by kernel_rfl⟩
def ti77 : TInf := ⟨TypeDesc.func { toList := [] } { toList := [70] } Bool.false, 1, 8, Value.nilFunc, none, false⟩
theorem ti77_ok : Try.prog.underlying 77 = some ti77.u ∧ (Try.prog.info? 77).map (fun i => (i.size, i.bytes, i.zero)) = some (ti77.size, ti77.bytes, some ti77.zero) ∧ ti77.zero.cells.size = ti77.size ∧ (ti77.zero.cells.all (·.oneCell') = true) ∧ eqOK Try.prog 77 ti77 = true :=
  ⟨by kernel_rfl, by kernel_rfl, by kernel_rfl, by kernel_rfl, by kernel_rfl⟩
def ti79 : TInf := ⟨TypeDesc.func { toList := [3] } { toList := [32, 3, 4] } Bool.false, 1, 8, Value.nilFunc, none, false⟩
theorem ti79_ok : Try.prog.underlying 79 = some ti79.u ∧ (Try.prog.info? 79).map (fun i => (i.size, i.bytes, i.zero)) = some (ti79.size, ti79.bytes, some ti79.zero) ∧ ti79.zero.cells.size = ti79.size ∧ (ti79.zero.cells.all (·.oneCell') = true) ∧ eqOK Try.prog 79 ti79 = true :=
  ⟨by kernel_rfl, by kernel_rfl, by kernel_rfl, by kernel_rfl, by kernel_rfl⟩
abbrev ty80 : Ty := (.slice 32 (.pair (.pair (.int .i64) (.pair (.int .i64) .unit)) (.pair (.pair (.int .i64) (.pair (.int .i64) .unit)) .unit)))
def ti80 : TInf := ⟨TypeDesc.slice 85, 1, 24, Value.slice Option.none 0 0, some ty80, false⟩
theorem ti80_ok : Try.prog.underlying 80 = some ti80.u ∧ (Try.prog.info? 80).map (fun i => (i.size, i.bytes, i.zero)) = some (ti80.size, ti80.bytes, some ti80.zero) ∧ ti80.zero.cells.size = ti80.size ∧ (ti80.zero.cells.all (·.oneCell') = true) ∧ eqOK Try.prog 80 ti80 = true :=
  ⟨by kernel_rfl, by kernel_rfl, by kernel_rfl, by kernel_rfl, by kernel_rfl⟩
abbrev ty81 : Ty := (.pair (.slice 32 (.pair (.pair (.int .i64) (.pair (.int .i64) .unit)) (.pair (.pair (.int .i64) (.pair (.int .i64) .unit)) .unit))) .unit)
def ti81 : TInf := ⟨TypeDesc.struct { toList := [{ name := "items", type := 80, offset := 0, embedded := Bool.false, tag := "", pkgPath := "mortise/regions", byteOffset := 0 }] }, 1, 24, Value.agg { toList := [Value.slice Option.none 0 0] }, some ty81, false⟩
theorem ti81_ok : Try.prog.underlying 81 = some ti81.u ∧ (Try.prog.info? 81).map (fun i => (i.size, i.bytes, i.zero)) = some (ti81.size, ti81.bytes, some ti81.zero) ∧ ti81.zero.cells.size = ti81.size ∧ (ti81.zero.cells.all (·.oneCell') = true) ∧ eqOK Try.prog 81 ti81 = true :=
  ⟨by kernel_rfl, by kernel_rfl, by kernel_rfl, by kernel_rfl, by kernel_rfl⟩
abbrev ty82 : Ty := (.pair (.slice 32 (.pair (.pair (.int .i64) (.pair (.int .i64) .unit)) (.pair (.pair (.int .i64) (.pair (.int .i64) .unit)) .unit))) .unit)
def ti82 : TInf := ⟨TypeDesc.struct { toList := [{ name := "items", type := 80, offset := 0, embedded := Bool.false, tag := "", pkgPath := "mortise/regions", byteOffset := 0 }] }, 1, 24, Value.agg { toList := [Value.slice Option.none 0 0] }, some ty82, false⟩
theorem ti82_ok : Try.prog.underlying 82 = some ti82.u ∧ (Try.prog.info? 82).map (fun i => (i.size, i.bytes, i.zero)) = some (ti82.size, ti82.bytes, some ti82.zero) ∧ ti82.zero.cells.size = ti82.size ∧ (ti82.zero.cells.all (·.oneCell') = true) ∧ eqOK Try.prog 82 ti82 = true :=
  ⟨by kernel_rfl, by kernel_rfl, by kernel_rfl, by kernel_rfl, by kernel_rfl⟩
def ti83 : TInf := ⟨TypeDesc.func { toList := [80, 3, 80] } { toList := [80] } Bool.true, 1, 8, Value.nilFunc, none, false⟩
theorem ti83_ok : Try.prog.underlying 83 = some ti83.u ∧ (Try.prog.info? 83).map (fun i => (i.size, i.bytes, i.zero)) = some (ti83.size, ti83.bytes, some ti83.zero) ∧ ti83.zero.cells.size = ti83.size ∧ (ti83.zero.cells.all (·.oneCell') = true) ∧ eqOK Try.prog 83 ti83 = true :=
  ⟨by kernel_rfl, by kernel_rfl, by kernel_rfl, by kernel_rfl, by kernel_rfl⟩
abbrev ty84 : Ty := (.pair (.pair (.int .i64) (.pair (.int .i64) .unit)) (.pair (.pair (.int .i64) (.pair (.int .i64) .unit)) .unit))
def ti84 : TInf := ⟨TypeDesc.struct { toList := [{ name := "span", type := 32, offset := 0, embedded := Bool.false, tag := "", pkgPath := "mortise/regions", byteOffset := 0 }, { name := "x", type := 32, offset := 2, embedded := Bool.false, tag := "", pkgPath := "mortise/regions", byteOffset := 16 }] }, 4, 32, Value.agg { toList := [Value.int IntKind.i64 (Int.ofNat 0), Value.int IntKind.i64 (Int.ofNat 0), Value.int IntKind.i64 (Int.ofNat 0), Value.int IntKind.i64 (Int.ofNat 0)] }, some ty84, true⟩
theorem ti84_ok : Try.prog.underlying 84 = some ti84.u ∧ (Try.prog.info? 84).map (fun i => (i.size, i.bytes, i.zero)) = some (ti84.size, ti84.bytes, some ti84.zero) ∧ ti84.zero.cells.size = ti84.size ∧ (ti84.zero.cells.all (·.oneCell') = true) ∧ eqOK Try.prog 84 ti84 = true :=
  ⟨by kernel_rfl, by kernel_rfl, by kernel_rfl, by kernel_rfl, by kernel_rfl⟩
abbrev ty85 : Ty := (.pair (.pair (.int .i64) (.pair (.int .i64) .unit)) (.pair (.pair (.int .i64) (.pair (.int .i64) .unit)) .unit))
def ti85 : TInf := ⟨TypeDesc.struct { toList := [{ name := "span", type := 32, offset := 0, embedded := Bool.false, tag := "", pkgPath := "mortise/regions", byteOffset := 0 }, { name := "x", type := 32, offset := 2, embedded := Bool.false, tag := "", pkgPath := "mortise/regions", byteOffset := 16 }] }, 4, 32, Value.agg { toList := [Value.int IntKind.i64 (Int.ofNat 0), Value.int IntKind.i64 (Int.ofNat 0), Value.int IntKind.i64 (Int.ofNat 0), Value.int IntKind.i64 (Int.ofNat 0)] }, some ty85, true⟩
theorem ti85_ok : Try.prog.underlying 85 = some ti85.u ∧ (Try.prog.info? 85).map (fun i => (i.size, i.bytes, i.zero)) = some (ti85.size, ti85.bytes, some ti85.zero) ∧ ti85.zero.cells.size = ti85.size ∧ (ti85.zero.cells.all (·.oneCell') = true) ∧ eqOK Try.prog 85 ti85 = true :=
  ⟨by kernel_rfl, by kernel_rfl, by kernel_rfl, by kernel_rfl, by kernel_rfl⟩
def ti86 : TInf := ⟨TypeDesc.func { toList := [] } { toList := [80] } Bool.false, 1, 8, Value.nilFunc, none, false⟩
theorem ti86_ok : Try.prog.underlying 86 = some ti86.u ∧ (Try.prog.info? 86).map (fun i => (i.size, i.bytes, i.zero)) = some (ti86.size, ti86.bytes, some ti86.zero) ∧ ti86.zero.cells.size = ti86.size ∧ (ti86.zero.cells.all (·.oneCell') = true) ∧ eqOK Try.prog 86 ti86 = true :=
  ⟨by kernel_rfl, by kernel_rfl, by kernel_rfl, by kernel_rfl, by kernel_rfl⟩
abbrev ty87 : Ty := (.pair .str (.pair (.int .i64) .unit))
def ti87 : TInf := ⟨TypeDesc.struct { toList := [{ name := "text", type := 9, offset := 0, embedded := Bool.false, tag := "", pkgPath := "mortise/win", byteOffset := 0 }, { name := "base", type := 3, offset := 1, embedded := Bool.false, tag := "", pkgPath := "mortise/win", byteOffset := 16 }] }, 2, 24, Value.agg { toList := [Value.string { data := { toList := [] } }, Value.int IntKind.i64 (Int.ofNat 0)] }, some ty87, true⟩
theorem ti87_ok : Try.prog.underlying 87 = some ti87.u ∧ (Try.prog.info? 87).map (fun i => (i.size, i.bytes, i.zero)) = some (ti87.size, ti87.bytes, some ti87.zero) ∧ ti87.zero.cells.size = ti87.size ∧ (ti87.zero.cells.all (·.oneCell') = true) ∧ eqOK Try.prog 87 ti87 = true :=
  ⟨by kernel_rfl, by kernel_rfl, by kernel_rfl, by kernel_rfl, by kernel_rfl⟩
abbrev ty88 : Ty := (.pair .str (.pair (.int .i64) .unit))
def ti88 : TInf := ⟨TypeDesc.struct { toList := [{ name := "text", type := 9, offset := 0, embedded := Bool.false, tag := "", pkgPath := "mortise/win", byteOffset := 0 }, { name := "base", type := 3, offset := 1, embedded := Bool.false, tag := "", pkgPath := "mortise/win", byteOffset := 16 }] }, 2, 24, Value.agg { toList := [Value.string { data := { toList := [] } }, Value.int IntKind.i64 (Int.ofNat 0)] }, some ty88, true⟩
theorem ti88_ok : Try.prog.underlying 88 = some ti88.u ∧ (Try.prog.info? 88).map (fun i => (i.size, i.bytes, i.zero)) = some (ti88.size, ti88.bytes, some ti88.zero) ∧ ti88.zero.cells.size = ti88.size ∧ (ti88.zero.cells.all (·.oneCell') = true) ∧ eqOK Try.prog 88 ti88 = true :=
  ⟨by kernel_rfl, by kernel_rfl, by kernel_rfl, by kernel_rfl, by kernel_rfl⟩
def ti89 : TInf := ⟨TypeDesc.func { toList := [9] } { toList := [88] } Bool.false, 1, 8, Value.nilFunc, none, false⟩
theorem ti89_ok : Try.prog.underlying 89 = some ti89.u ∧ (Try.prog.info? 89).map (fun i => (i.size, i.bytes, i.zero)) = some (ti89.size, ti89.bytes, some ti89.zero) ∧ ti89.zero.cells.size = ti89.size ∧ (ti89.zero.cells.all (·.oneCell') = true) ∧ eqOK Try.prog 89 ti89 = true :=
  ⟨by kernel_rfl, by kernel_rfl, by kernel_rfl, by kernel_rfl, by kernel_rfl⟩
abbrev ty90 : Ty := (.int .u64)
def ti90 : TInf := ⟨TypeDesc.int IntKind.u64, 1, 8, Value.int IntKind.u64 (Int.ofNat 0), some ty90, false⟩
theorem ti90_ok : Try.prog.underlying 90 = some ti90.u ∧ (Try.prog.info? 90).map (fun i => (i.size, i.bytes, i.zero)) = some (ti90.size, ti90.bytes, some ti90.zero) ∧ ti90.zero.cells.size = ti90.size ∧ (ti90.zero.cells.all (·.oneCell') = true) ∧ eqOK Try.prog 90 ti90 = true :=
  ⟨by kernel_rfl, by kernel_rfl, by kernel_rfl, by kernel_rfl, by kernel_rfl⟩
def ti92 : TInf := ⟨TypeDesc.func { toList := [3, 3, 4] } { toList := [90, 29] } Bool.false, 1, 8, Value.nilFunc, none, false⟩
theorem ti92_ok : Try.prog.underlying 92 = some ti92.u ∧ (Try.prog.info? 92).map (fun i => (i.size, i.bytes, i.zero)) = some (ti92.size, ti92.bytes, some ti92.zero) ∧ ti92.zero.cells.size = ti92.size ∧ (ti92.zero.cells.all (·.oneCell') = true) ∧ eqOK Try.prog 92 ti92 = true :=
  ⟨by kernel_rfl, by kernel_rfl, by kernel_rfl, by kernel_rfl, by kernel_rfl⟩
def ti93 : TInf := ⟨TypeDesc.func { toList := [9, 9] } { toList := [4] } Bool.false, 1, 8, Value.nilFunc, none, false⟩
theorem ti93_ok : Try.prog.underlying 93 = some ti93.u ∧ (Try.prog.info? 93).map (fun i => (i.size, i.bytes, i.zero)) = some (ti93.size, ti93.bytes, some ti93.zero) ∧ ti93.zero.cells.size = ti93.size ∧ (ti93.zero.cells.all (·.oneCell') = true) ∧ eqOK Try.prog 93 ti93 = true :=
  ⟨by kernel_rfl, by kernel_rfl, by kernel_rfl, by kernel_rfl, by kernel_rfl⟩
def ti95 : TInf := ⟨TypeDesc.func { toList := [3, 3] } { toList := [88, 29] } Bool.false, 1, 8, Value.nilFunc, none, false⟩
theorem ti95_ok : Try.prog.underlying 95 = some ti95.u ∧ (Try.prog.info? 95).map (fun i => (i.size, i.bytes, i.zero)) = some (ti95.size, ti95.bytes, some ti95.zero) ∧ ti95.zero.cells.size = ti95.size ∧ (ti95.zero.cells.all (·.oneCell') = true) ∧ eqOK Try.prog 95 ti95 = true :=
  ⟨by kernel_rfl, by kernel_rfl, by kernel_rfl, by kernel_rfl, by kernel_rfl⟩
def ti96 : TInf := ⟨TypeDesc.func { toList := [] } { toList := [9] } Bool.false, 1, 8, Value.nilFunc, none, false⟩
theorem ti96_ok : Try.prog.underlying 96 = some ti96.u ∧ (Try.prog.info? 96).map (fun i => (i.size, i.bytes, i.zero)) = some (ti96.size, ti96.bytes, some ti96.zero) ∧ ti96.zero.cells.size = ti96.size ∧ (ti96.zero.cells.all (·.oneCell') = true) ∧ eqOK Try.prog 96 ti96 = true :=
  ⟨by kernel_rfl, by kernel_rfl, by kernel_rfl, by kernel_rfl, by kernel_rfl⟩
def ti97 : TInf := ⟨TypeDesc.func { toList := [9, 3, 3] } { toList := [3] } Bool.false, 1, 8, Value.nilFunc, none, false⟩
theorem ti97_ok : Try.prog.underlying 97 = some ti97.u ∧ (Try.prog.info? 97).map (fun i => (i.size, i.bytes, i.zero)) = some (ti97.size, ti97.bytes, some ti97.zero) ∧ ti97.zero.cells.size = ti97.size ∧ (ti97.zero.cells.all (·.oneCell') = true) ∧ eqOK Try.prog 97 ti97 = true :=
  ⟨by kernel_rfl, by kernel_rfl, by kernel_rfl, by kernel_rfl, by kernel_rfl⟩
def ti98 : TInf := ⟨TypeDesc.func { toList := [50] } { toList := [3, 4] } Bool.false, 1, 8, Value.nilFunc, none, false⟩
theorem ti98_ok : Try.prog.underlying 98 = some ti98.u ∧ (Try.prog.info? 98).map (fun i => (i.size, i.bytes, i.zero)) = some (ti98.size, ti98.bytes, some ti98.zero) ∧ ti98.zero.cells.size = ti98.size ∧ (ti98.zero.cells.all (·.oneCell') = true) ∧ eqOK Try.prog 98 ti98 = true :=
  ⟨by kernel_rfl, by kernel_rfl, by kernel_rfl, by kernel_rfl, by kernel_rfl⟩
def ti99 : TInf := ⟨TypeDesc.func { toList := [50, 100] } { toList := [4] } Bool.false, 1, 8, Value.nilFunc, none, false⟩
theorem ti99_ok : Try.prog.underlying 99 = some ti99.u ∧ (Try.prog.info? 99).map (fun i => (i.size, i.bytes, i.zero)) = some (ti99.size, ti99.bytes, some ti99.zero) ∧ ti99.zero.cells.size = ti99.size ∧ (ti99.zero.cells.all (·.oneCell') = true) ∧ eqOK Try.prog 99 ti99 = true :=
  ⟨by kernel_rfl, by kernel_rfl, by kernel_rfl, by kernel_rfl, by kernel_rfl⟩
def ti100 : TInf := ⟨TypeDesc.func { toList := [68] } { toList := [4] } Bool.false, 1, 8, Value.nilFunc, none, false⟩
theorem ti100_ok : Try.prog.underlying 100 = some ti100.u ∧ (Try.prog.info? 100).map (fun i => (i.size, i.bytes, i.zero)) = some (ti100.size, ti100.bytes, some ti100.zero) ∧ ti100.zero.cells.size = ti100.size ∧ (ti100.zero.cells.all (·.oneCell') = true) ∧ eqOK Try.prog 100 ti100 = true :=
  ⟨by kernel_rfl, by kernel_rfl, by kernel_rfl, by kernel_rfl, by kernel_rfl⟩
def ti101 : TInf := ⟨TypeDesc.pointer 104, 1, 8, Value.pointer Option.none, none, false⟩
theorem ti101_ok : Try.prog.underlying 101 = some ti101.u ∧ (Try.prog.info? 101).map (fun i => (i.size, i.bytes, i.zero)) = some (ti101.size, ti101.bytes, some ti101.zero) ∧ ti101.zero.cells.size = ti101.size ∧ (ti101.zero.cells.all (·.oneCell') = true) ∧ eqOK Try.prog 101 ti101 = true :=
  ⟨by kernel_rfl, by kernel_rfl, by kernel_rfl, by kernel_rfl, by kernel_rfl⟩
abbrev ty102 : Ty := (.slice 1 (.int .u8))
def ti102 : TInf := ⟨TypeDesc.slice 5, 1, 24, Value.slice Option.none 0 0, some ty102, false⟩
theorem ti102_ok : Try.prog.underlying 102 = some ti102.u ∧ (Try.prog.info? 102).map (fun i => (i.size, i.bytes, i.zero)) = some (ti102.size, ti102.bytes, some ti102.zero) ∧ ti102.zero.cells.size = ti102.size ∧ (ti102.zero.cells.all (·.oneCell') = true) ∧ eqOK Try.prog 102 ti102 = true :=
  ⟨by kernel_rfl, by kernel_rfl, by kernel_rfl, by kernel_rfl, by kernel_rfl⟩
def ti103 : TInf := ⟨TypeDesc.struct { toList := [{ name := "addr", type := 101, offset := 0, embedded := Bool.false, tag := "", pkgPath := "strings", byteOffset := 0 }, { name := "buf", type := 102, offset := 1, embedded := Bool.false, tag := "", pkgPath := "strings", byteOffset := 8 }] }, 2, 32, Value.agg { toList := [Value.pointer Option.none, Value.slice Option.none 0 0] }, none, false⟩
theorem ti103_ok : Try.prog.underlying 103 = some ti103.u ∧ (Try.prog.info? 103).map (fun i => (i.size, i.bytes, i.zero)) = some (ti103.size, ti103.bytes, some ti103.zero) ∧ ti103.zero.cells.size = ti103.size ∧ (ti103.zero.cells.all (·.oneCell') = true) ∧ eqOK Try.prog 103 ti103 = true :=
  ⟨by kernel_rfl, by kernel_rfl, by kernel_rfl, by kernel_rfl, by kernel_rfl⟩
def ti104 : TInf := ⟨TypeDesc.struct { toList := [{ name := "addr", type := 101, offset := 0, embedded := Bool.false, tag := "", pkgPath := "strings", byteOffset := 0 }, { name := "buf", type := 102, offset := 1, embedded := Bool.false, tag := "", pkgPath := "strings", byteOffset := 8 }] }, 2, 32, Value.agg { toList := [Value.pointer Option.none, Value.slice Option.none 0 0] }, none, false⟩
theorem ti104_ok : Try.prog.underlying 104 = some ti104.u ∧ (Try.prog.info? 104).map (fun i => (i.size, i.bytes, i.zero)) = some (ti104.size, ti104.bytes, some ti104.zero) ∧ ti104.zero.cells.size = ti104.size ∧ (ti104.zero.cells.all (·.oneCell') = true) ∧ eqOK Try.prog 104 ti104 = true :=
  ⟨by kernel_rfl, by kernel_rfl, by kernel_rfl, by kernel_rfl, by kernel_rfl⟩
def ti105 : TInf := ⟨TypeDesc.interface { toList := [("Error", 96)] }, 1, 16, Value.nilIface, none, false⟩
theorem ti105_ok : Try.prog.underlying 105 = some ti105.u ∧ (Try.prog.info? 105).map (fun i => (i.size, i.bytes, i.zero)) = some (ti105.size, ti105.bytes, some ti105.zero) ∧ ti105.zero.cells.size = ti105.size ∧ (ti105.zero.cells.all (·.oneCell') = true) ∧ eqOK Try.prog 105 ti105 = true :=
  ⟨by kernel_rfl, by kernel_rfl, by kernel_rfl, by kernel_rfl, by kernel_rfl⟩
def ti106 : TInf := ⟨TypeDesc.interface { toList := [("Error", 96)] }, 1, 16, Value.nilIface, none, false⟩
theorem ti106_ok : Try.prog.underlying 106 = some ti106.u ∧ (Try.prog.info? 106).map (fun i => (i.size, i.bytes, i.zero)) = some (ti106.size, ti106.bytes, some ti106.zero) ∧ ti106.zero.cells.size = ti106.size ∧ (ti106.zero.cells.all (·.oneCell') = true) ∧ eqOK Try.prog 106 ti106 = true :=
  ⟨by kernel_rfl, by kernel_rfl, by kernel_rfl, by kernel_rfl, by kernel_rfl⟩
def ti108 : TInf := ⟨TypeDesc.func { toList := [9] } { toList := [3, 106] } Bool.false, 1, 8, Value.nilFunc, none, false⟩
theorem ti108_ok : Try.prog.underlying 108 = some ti108.u ∧ (Try.prog.info? 108).map (fun i => (i.size, i.bytes, i.zero)) = some (ti108.size, ti108.bytes, some ti108.zero) ∧ ti108.zero.cells.size = ti108.size ∧ (ti108.zero.cells.all (·.oneCell') = true) ∧ eqOK Try.prog 108 ti108 = true :=
  ⟨by kernel_rfl, by kernel_rfl, by kernel_rfl, by kernel_rfl, by kernel_rfl⟩
def ti109 : TInf := ⟨TypeDesc.func { toList := [3, 3] } { toList := [9] } Bool.false, 1, 8, Value.nilFunc, none, false⟩
theorem ti109_ok : Try.prog.underlying 109 = some ti109.u ∧ (Try.prog.info? 109).map (fun i => (i.size, i.bytes, i.zero)) = some (ti109.size, ti109.bytes, some ti109.zero) ∧ ti109.zero.cells.size = ti109.size ∧ (ti109.zero.cells.all (·.oneCell') = true) ∧ eqOK Try.prog 109 ti109 = true :=
  ⟨by kernel_rfl, by kernel_rfl, by kernel_rfl, by kernel_rfl, by kernel_rfl⟩
def ti110 : TInf := ⟨TypeDesc.func { toList := [5] } { toList := [106] } Bool.false, 1, 8, Value.nilFunc, none, false⟩
theorem ti110_ok : Try.prog.underlying 110 = some ti110.u ∧ (Try.prog.info? 110).map (fun i => (i.size, i.bytes, i.zero)) = some (ti110.size, ti110.bytes, some ti110.zero) ∧ ti110.zero.cells.size = ti110.size ∧ (ti110.zero.cells.all (·.oneCell') = true) ∧ eqOK Try.prog 110 ti110 = true :=
  ⟨by kernel_rfl, by kernel_rfl, by kernel_rfl, by kernel_rfl, by kernel_rfl⟩
def ti111 : TInf := ⟨TypeDesc.func { toList := [50] } { toList := [3] } Bool.false, 1, 8, Value.nilFunc, none, false⟩
theorem ti111_ok : Try.prog.underlying 111 = some ti111.u ∧ (Try.prog.info? 111).map (fun i => (i.size, i.bytes, i.zero)) = some (ti111.size, ti111.bytes, some ti111.zero) ∧ ti111.zero.cells.size = ti111.size ∧ (ti111.zero.cells.all (·.oneCell') = true) ∧ eqOK Try.prog 111 ti111 = true :=
  ⟨by kernel_rfl, by kernel_rfl, by kernel_rfl, by kernel_rfl, by kernel_rfl⟩
def ti112 : TInf := ⟨TypeDesc.func { toList := [90, 3, 4] } { toList := [9, 29] } Bool.false, 1, 8, Value.nilFunc, none, false⟩
theorem ti112_ok : Try.prog.underlying 112 = some ti112.u ∧ (Try.prog.info? 112).map (fun i => (i.size, i.bytes, i.zero)) = some (ti112.size, ti112.bytes, some ti112.zero) ∧ ti112.zero.cells.size = ti112.size ∧ (ti112.zero.cells.all (·.oneCell') = true) ∧ eqOK Try.prog 112 ti112 = true :=
  ⟨by kernel_rfl, by kernel_rfl, by kernel_rfl, by kernel_rfl, by kernel_rfl⟩
def ti113 : TInf := ⟨TypeDesc.func { toList := [60] } { toList := [3] } Bool.false, 1, 8, Value.nilFunc, none, false⟩
theorem ti113_ok : Try.prog.underlying 113 = some ti113.u ∧ (Try.prog.info? 113).map (fun i => (i.size, i.bytes, i.zero)) = some (ti113.size, ti113.bytes, some ti113.zero) ∧ ti113.zero.cells.size = ti113.size ∧ (ti113.zero.cells.all (·.oneCell') = true) ∧ eqOK Try.prog 113 ti113 = true :=
  ⟨by kernel_rfl, by kernel_rfl, by kernel_rfl, by kernel_rfl, by kernel_rfl⟩
def ti114 : TInf := ⟨TypeDesc.func { toList := [60] } { toList := [9] } Bool.false, 1, 8, Value.nilFunc, none, false⟩
theorem ti114_ok : Try.prog.underlying 114 = some ti114.u ∧ (Try.prog.info? 114).map (fun i => (i.size, i.bytes, i.zero)) = some (ti114.size, ti114.bytes, some ti114.zero) ∧ ti114.zero.cells.size = ti114.size ∧ (ti114.zero.cells.all (·.oneCell') = true) ∧ eqOK Try.prog 114 ti114 = true :=
  ⟨by kernel_rfl, by kernel_rfl, by kernel_rfl, by kernel_rfl, by kernel_rfl⟩
def ti115 : TInf := ⟨TypeDesc.func { toList := [60] } { toList := [50] } Bool.false, 1, 8, Value.nilFunc, none, false⟩
theorem ti115_ok : Try.prog.underlying 115 = some ti115.u ∧ (Try.prog.info? 115).map (fun i => (i.size, i.bytes, i.zero)) = some (ti115.size, ti115.bytes, some ti115.zero) ∧ ti115.zero.cells.size = ti115.size ∧ (ti115.zero.cells.all (·.oneCell') = true) ∧ eqOK Try.prog 115 ti115 = true :=
  ⟨by kernel_rfl, by kernel_rfl, by kernel_rfl, by kernel_rfl, by kernel_rfl⟩
def ti116 : TInf := ⟨TypeDesc.map 9 3, 1, 8, Value.map Option.none, none, false⟩
theorem ti116_ok : Try.prog.underlying 116 = some ti116.u ∧ (Try.prog.info? 116).map (fun i => (i.size, i.bytes, i.zero)) = some (ti116.size, ti116.bytes, some ti116.zero) ∧ ti116.zero.cells.size = ti116.size ∧ (ti116.zero.cells.all (·.oneCell') = true) ∧ eqOK Try.prog 116 ti116 = true :=
  ⟨by kernel_rfl, by kernel_rfl, by kernel_rfl, by kernel_rfl, by kernel_rfl⟩
def ti117 : TInf := ⟨TypeDesc.func { toList := [41] } { toList := [] } Bool.false, 1, 8, Value.nilFunc, none, false⟩
theorem ti117_ok : Try.prog.underlying 117 = some ti117.u ∧ (Try.prog.info? 117).map (fun i => (i.size, i.bytes, i.zero)) = some (ti117.size, ti117.bytes, some ti117.zero) ∧ ti117.zero.cells.size = ti117.size ∧ (ti117.zero.cells.all (·.oneCell') = true) ∧ eqOK Try.prog 117 ti117 = true :=
  ⟨by kernel_rfl, by kernel_rfl, by kernel_rfl, by kernel_rfl, by kernel_rfl⟩
def ti118 : TInf := ⟨TypeDesc.func { toList := [41] } { toList := [] } Bool.false, 1, 8, Value.nilFunc, none, false⟩
theorem ti118_ok : Try.prog.underlying 118 = some ti118.u ∧ (Try.prog.info? 118).map (fun i => (i.size, i.bytes, i.zero)) = some (ti118.size, ti118.bytes, some ti118.zero) ∧ ti118.zero.cells.size = ti118.size ∧ (ti118.zero.cells.all (·.oneCell') = true) ∧ eqOK Try.prog 118 ti118 = true :=
  ⟨by kernel_rfl, by kernel_rfl, by kernel_rfl, by kernel_rfl, by kernel_rfl⟩
def ti119 : TInf := ⟨TypeDesc.func { toList := [9] } { toList := [118] } Bool.false, 1, 8, Value.nilFunc, none, false⟩
theorem ti119_ok : Try.prog.underlying 119 = some ti119.u ∧ (Try.prog.info? 119).map (fun i => (i.size, i.bytes, i.zero)) = some (ti119.size, ti119.bytes, some ti119.zero) ∧ ti119.zero.cells.size = ti119.size ∧ (ti119.zero.cells.all (·.oneCell') = true) ∧ eqOK Try.prog 119 ti119 = true :=
  ⟨by kernel_rfl, by kernel_rfl, by kernel_rfl, by kernel_rfl, by kernel_rfl⟩
def ti120 : TInf := ⟨TypeDesc.func { toList := [70, 70] } { toList := [4] } Bool.false, 1, 8, Value.nilFunc, none, false⟩
theorem ti120_ok : Try.prog.underlying 120 = some ti120.u ∧ (Try.prog.info? 120).map (fun i => (i.size, i.bytes, i.zero)) = some (ti120.size, ti120.bytes, some ti120.zero) ∧ ti120.zero.cells.size = ti120.size ∧ (ti120.zero.cells.all (·.oneCell') = true) ∧ eqOK Try.prog 120 ti120 = true :=
  ⟨by kernel_rfl, by kernel_rfl, by kernel_rfl, by kernel_rfl, by kernel_rfl⟩
def ti121 : TInf := ⟨TypeDesc.func { toList := [70, 3] } { toList := [] } Bool.false, 1, 8, Value.nilFunc, none, false⟩
theorem ti121_ok : Try.prog.underlying 121 = some ti121.u ∧ (Try.prog.info? 121).map (fun i => (i.size, i.bytes, i.zero)) = some (ti121.size, ti121.bytes, some ti121.zero) ∧ ti121.zero.cells.size = ti121.size ∧ (ti121.zero.cells.all (·.oneCell') = true) ∧ eqOK Try.prog 121 ti121 = true :=
  ⟨by kernel_rfl, by kernel_rfl, by kernel_rfl, by kernel_rfl, by kernel_rfl⟩
def ti122 : TInf := ⟨TypeDesc.func { toList := [3] } { toList := [4] } Bool.false, 1, 8, Value.nilFunc, none, false⟩
theorem ti122_ok : Try.prog.underlying 122 = some ti122.u ∧ (Try.prog.info? 122).map (fun i => (i.size, i.bytes, i.zero)) = some (ti122.size, ti122.bytes, some ti122.zero) ∧ ti122.zero.cells.size = ti122.size ∧ (ti122.zero.cells.all (·.oneCell') = true) ∧ eqOK Try.prog 122 ti122 = true :=
  ⟨by kernel_rfl, by kernel_rfl, by kernel_rfl, by kernel_rfl, by kernel_rfl⟩
def ti123 : TInf := ⟨TypeDesc.func { toList := [80, 80] } { toList := [4] } Bool.false, 1, 8, Value.nilFunc, none, false⟩
theorem ti123_ok : Try.prog.underlying 123 = some ti123.u ∧ (Try.prog.info? 123).map (fun i => (i.size, i.bytes, i.zero)) = some (ti123.size, ti123.bytes, some ti123.zero) ∧ ti123.zero.cells.size = ti123.size ∧ (ti123.zero.cells.all (·.oneCell') = true) ∧ eqOK Try.prog 123 ti123 = true :=
  ⟨by kernel_rfl, by kernel_rfl, by kernel_rfl, by kernel_rfl, by kernel_rfl⟩
def ti124 : TInf := ⟨TypeDesc.func { toList := [80, 3] } { toList := [] } Bool.false, 1, 8, Value.nilFunc, none, false⟩
theorem ti124_ok : Try.prog.underlying 124 = some ti124.u ∧ (Try.prog.info? 124).map (fun i => (i.size, i.bytes, i.zero)) = some (ti124.size, ti124.bytes, some ti124.zero) ∧ ti124.zero.cells.size = ti124.size ∧ (ti124.zero.cells.all (·.oneCell') = true) ∧ eqOK Try.prog 124 ti124 = true :=
  ⟨by kernel_rfl, by kernel_rfl, by kernel_rfl, by kernel_rfl, by kernel_rfl⟩
def ti125 : TInf := ⟨TypeDesc.func { toList := [3, 4] } { toList := [76] } Bool.false, 1, 8, Value.nilFunc, none, false⟩
theorem ti125_ok : Try.prog.underlying 125 = some ti125.u ∧ (Try.prog.info? 125).map (fun i => (i.size, i.bytes, i.zero)) = some (ti125.size, ti125.bytes, some ti125.zero) ∧ ti125.zero.cells.size = ti125.size ∧ (ti125.zero.cells.all (·.oneCell') = true) ∧ eqOK Try.prog 125 ti125 = true :=
  ⟨by kernel_rfl, by kernel_rfl, by kernel_rfl, by kernel_rfl, by kernel_rfl⟩
def ti126 : TInf := ⟨TypeDesc.func { toList := [9, 3, 3, 4] } { toList := [90, 29] } Bool.false, 1, 8, Value.nilFunc, none, false⟩
theorem ti126_ok : Try.prog.underlying 126 = some ti126.u ∧ (Try.prog.info? 126).map (fun i => (i.size, i.bytes, i.zero)) = some (ti126.size, ti126.bytes, some ti126.zero) ∧ ti126.zero.cells.size = ti126.size ∧ (ti126.zero.cells.all (·.oneCell') = true) ∧ eqOK Try.prog 126 ti126 = true :=
  ⟨by kernel_rfl, by kernel_rfl, by kernel_rfl, by kernel_rfl, by kernel_rfl⟩
def ti127 : TInf := ⟨TypeDesc.func { toList := [50, 100] } { toList := [3] } Bool.false, 1, 8, Value.nilFunc, none, false⟩
theorem ti127_ok : Try.prog.underlying 127 = some ti127.u ∧ (Try.prog.info? 127).map (fun i => (i.size, i.bytes, i.zero)) = some (ti127.size, ti127.bytes, some ti127.zero) ∧ ti127.zero.cells.size = ti127.size ∧ (ti127.zero.cells.all (·.oneCell') = true) ∧ eqOK Try.prog 127 ti127 = true :=
  ⟨by kernel_rfl, by kernel_rfl, by kernel_rfl, by kernel_rfl, by kernel_rfl⟩
def ti128 : TInf := ⟨TypeDesc.pointer 5, 1, 8, Value.pointer Option.none, none, false⟩
theorem ti128_ok : Try.prog.underlying 128 = some ti128.u ∧ (Try.prog.info? 128).map (fun i => (i.size, i.bytes, i.zero)) = some (ti128.size, ti128.bytes, some ti128.zero) ∧ ti128.zero.cells.size = ti128.size ∧ (ti128.zero.cells.all (·.oneCell') = true) ∧ eqOK Try.prog 128 ti128 = true :=
  ⟨by kernel_rfl, by kernel_rfl, by kernel_rfl, by kernel_rfl, by kernel_rfl⟩
abbrev ty129 : Ty := (.slice 16 (.pair (.int .i64) (.pair (.int .i64) .unit)))
def ti129 : TInf := ⟨TypeDesc.slice 132, 1, 24, Value.slice Option.none 0 0, some ty129, false⟩
theorem ti129_ok : Try.prog.underlying 129 = some ti129.u ∧ (Try.prog.info? 129).map (fun i => (i.size, i.bytes, i.zero)) = some (ti129.size, ti129.bytes, some ti129.zero) ∧ ti129.zero.cells.size = ti129.size ∧ (ti129.zero.cells.all (·.oneCell') = true) ∧ eqOK Try.prog 129 ti129 = true :=
  ⟨by kernel_rfl, by kernel_rfl, by kernel_rfl, by kernel_rfl, by kernel_rfl⟩
def ti130 : TInf := ⟨TypeDesc.func { toList := [60] } { toList := [129] } Bool.false, 1, 8, Value.nilFunc, none, false⟩
theorem ti130_ok : Try.prog.underlying 130 = some ti130.u ∧ (Try.prog.info? 130).map (fun i => (i.size, i.bytes, i.zero)) = some (ti130.size, ti130.bytes, some ti130.zero) ∧ ti130.zero.cells.size = ti130.size ∧ (ti130.zero.cells.all (·.oneCell') = true) ∧ eqOK Try.prog 130 ti130 = true :=
  ⟨by kernel_rfl, by kernel_rfl, by kernel_rfl, by kernel_rfl, by kernel_rfl⟩
abbrev ty131 : Ty := (.pair (.int .i64) (.pair (.int .i64) .unit))
def ti131 : TInf := ⟨TypeDesc.struct { toList := [{ name := "n", type := 3, offset := 0, embedded := Bool.false, tag := "", pkgPath := "mortise/wav", byteOffset := 0 }, { name := "width", type := 3, offset := 1, embedded := Bool.false, tag := "", pkgPath := "mortise/wav", byteOffset := 8 }] }, 2, 16, Value.agg { toList := [Value.int IntKind.i64 (Int.ofNat 0), Value.int IntKind.i64 (Int.ofNat 0)] }, some ty131, true⟩
theorem ti131_ok : Try.prog.underlying 131 = some ti131.u ∧ (Try.prog.info? 131).map (fun i => (i.size, i.bytes, i.zero)) = some (ti131.size, ti131.bytes, some ti131.zero) ∧ ti131.zero.cells.size = ti131.size ∧ (ti131.zero.cells.all (·.oneCell') = true) ∧ eqOK Try.prog 131 ti131 = true :=
  ⟨by kernel_rfl, by kernel_rfl, by kernel_rfl, by kernel_rfl, by kernel_rfl⟩
abbrev ty132 : Ty := (.pair (.int .i64) (.pair (.int .i64) .unit))
def ti132 : TInf := ⟨TypeDesc.struct { toList := [{ name := "n", type := 3, offset := 0, embedded := Bool.false, tag := "", pkgPath := "mortise/wav", byteOffset := 0 }, { name := "width", type := 3, offset := 1, embedded := Bool.false, tag := "", pkgPath := "mortise/wav", byteOffset := 8 }] }, 2, 16, Value.agg { toList := [Value.int IntKind.i64 (Int.ofNat 0), Value.int IntKind.i64 (Int.ofNat 0)] }, some ty132, true⟩
theorem ti132_ok : Try.prog.underlying 132 = some ti132.u ∧ (Try.prog.info? 132).map (fun i => (i.size, i.bytes, i.zero)) = some (ti132.size, ti132.bytes, some ti132.zero) ∧ ti132.zero.cells.size = ti132.size ∧ (ti132.zero.cells.all (·.oneCell') = true) ∧ eqOK Try.prog 132 ti132 = true :=
  ⟨by kernel_rfl, by kernel_rfl, by kernel_rfl, by kernel_rfl, by kernel_rfl⟩
def ti133 : TInf := ⟨TypeDesc.unsafePointer, 1, 8, Value.pointer Option.none, none, false⟩
theorem ti133_ok : Try.prog.underlying 133 = some ti133.u ∧ (Try.prog.info? 133).map (fun i => (i.size, i.bytes, i.zero)) = some (ti133.size, ti133.bytes, some ti133.zero) ∧ ti133.zero.cells.size = ti133.size ∧ (ti133.zero.cells.all (·.oneCell') = true) ∧ eqOK Try.prog 133 ti133 = true :=
  ⟨by kernel_rfl, by kernel_rfl, by kernel_rfl, by kernel_rfl, by kernel_rfl⟩
def ti134 : TInf := ⟨TypeDesc.func { toList := [133] } { toList := [133] } Bool.false, 1, 8, Value.nilFunc, none, false⟩
theorem ti134_ok : Try.prog.underlying 134 = some ti134.u ∧ (Try.prog.info? 134).map (fun i => (i.size, i.bytes, i.zero)) = some (ti134.size, ti134.bytes, some ti134.zero) ∧ ti134.zero.cells.size = ti134.size ∧ (ti134.zero.cells.all (·.oneCell') = true) ∧ eqOK Try.prog 134 ti134 = true :=
  ⟨by kernel_rfl, by kernel_rfl, by kernel_rfl, by kernel_rfl, by kernel_rfl⟩
def ti135 : TInf := ⟨TypeDesc.func { toList := [90] } { toList := [3] } Bool.false, 1, 8, Value.nilFunc, none, false⟩
theorem ti135_ok : Try.prog.underlying 135 = some ti135.u ∧ (Try.prog.info? 135).map (fun i => (i.size, i.bytes, i.zero)) = some (ti135.size, ti135.bytes, some ti135.zero) ∧ ti135.zero.cells.size = ti135.size ∧ (ti135.zero.cells.all (·.oneCell') = true) ∧ eqOK Try.prog 135 ti135 = true :=
  ⟨by kernel_rfl, by kernel_rfl, by kernel_rfl, by kernel_rfl, by kernel_rfl⟩
def ti136 : TInf := ⟨TypeDesc.func { toList := [70] } { toList := [] } Bool.false, 1, 8, Value.nilFunc, none, false⟩
theorem ti136_ok : Try.prog.underlying 136 = some ti136.u ∧ (Try.prog.info? 136).map (fun i => (i.size, i.bytes, i.zero)) = some (ti136.size, ti136.bytes, some ti136.zero) ∧ ti136.zero.cells.size = ti136.size ∧ (ti136.zero.cells.all (·.oneCell') = true) ∧ eqOK Try.prog 136 ti136 = true :=
  ⟨by kernel_rfl, by kernel_rfl, by kernel_rfl, by kernel_rfl, by kernel_rfl⟩
def ti137 : TInf := ⟨TypeDesc.func { toList := [80] } { toList := [] } Bool.false, 1, 8, Value.nilFunc, none, false⟩
theorem ti137_ok : Try.prog.underlying 137 = some ti137.u ∧ (Try.prog.info? 137).map (fun i => (i.size, i.bytes, i.zero)) = some (ti137.size, ti137.bytes, some ti137.zero) ∧ ti137.zero.cells.size = ti137.size ∧ (ti137.zero.cells.all (·.oneCell') = true) ∧ eqOK Try.prog 137 ti137 = true :=
  ⟨by kernel_rfl, by kernel_rfl, by kernel_rfl, by kernel_rfl, by kernel_rfl⟩
abbrev ty138 : Ty := (.int .u64)
def ti138 : TInf := ⟨TypeDesc.int IntKind.u64, 1, 8, Value.int IntKind.u64 (Int.ofNat 0), some ty138, false⟩
theorem ti138_ok : Try.prog.underlying 138 = some ti138.u ∧ (Try.prog.info? 138).map (fun i => (i.size, i.bytes, i.zero)) = some (ti138.size, ti138.bytes, some ti138.zero) ∧ ti138.zero.cells.size = ti138.size ∧ (ti138.zero.cells.all (·.oneCell') = true) ∧ eqOK Try.prog 138 ti138 = true :=
  ⟨by kernel_rfl, by kernel_rfl, by kernel_rfl, by kernel_rfl, by kernel_rfl⟩
def ti139 : TInf := ⟨TypeDesc.struct { toList := [{ name := "_interface", type := 17, offset := 0, embedded := Bool.false, tag := "", pkgPath := "runtime", byteOffset := 0 }, { name := "concrete", type := 17, offset := 1, embedded := Bool.false, tag := "", pkgPath := "runtime", byteOffset := 8 }, { name := "asserted", type := 17, offset := 2, embedded := Bool.false, tag := "", pkgPath := "runtime", byteOffset := 16 }, { name := "missingMethod", type := 9, offset := 3, embedded := Bool.false, tag := "", pkgPath := "runtime", byteOffset := 24 }] }, 4, 40, Value.agg { toList := [Value.pointer Option.none, Value.pointer Option.none, Value.pointer Option.none, Value.string { data := { toList := [] } }] }, none, false⟩
theorem ti139_ok : Try.prog.underlying 139 = some ti139.u ∧ (Try.prog.info? 139).map (fun i => (i.size, i.bytes, i.zero)) = some (ti139.size, ti139.bytes, some ti139.zero) ∧ ti139.zero.cells.size = ti139.size ∧ (ti139.zero.cells.all (·.oneCell') = true) ∧ eqOK Try.prog 139 ti139 = true :=
  ⟨by kernel_rfl, by kernel_rfl, by kernel_rfl, by kernel_rfl, by kernel_rfl⟩
def ti140 : TInf := ⟨TypeDesc.struct { toList := [{ name := "_interface", type := 17, offset := 0, embedded := Bool.false, tag := "", pkgPath := "runtime", byteOffset := 0 }, { name := "concrete", type := 17, offset := 1, embedded := Bool.false, tag := "", pkgPath := "runtime", byteOffset := 8 }, { name := "asserted", type := 17, offset := 2, embedded := Bool.false, tag := "", pkgPath := "runtime", byteOffset := 16 }, { name := "missingMethod", type := 9, offset := 3, embedded := Bool.false, tag := "", pkgPath := "runtime", byteOffset := 24 }] }, 4, 40, Value.agg { toList := [Value.pointer Option.none, Value.pointer Option.none, Value.pointer Option.none, Value.string { data := { toList := [] } }] }, none, false⟩
theorem ti140_ok : Try.prog.underlying 140 = some ti140.u ∧ (Try.prog.info? 140).map (fun i => (i.size, i.bytes, i.zero)) = some (ti140.size, ti140.bytes, some ti140.zero) ∧ ti140.zero.cells.size = ti140.size ∧ (ti140.zero.cells.all (·.oneCell') = true) ∧ eqOK Try.prog 140 ti140 = true :=
  ⟨by kernel_rfl, by kernel_rfl, by kernel_rfl, by kernel_rfl, by kernel_rfl⟩
def ti141 : TInf := ⟨TypeDesc.array 0 16, 0, 0, Value.agg { toList := [] }, none, false⟩
theorem ti141_ok : Try.prog.underlying 141 = some ti141.u ∧ (Try.prog.info? 141).map (fun i => (i.size, i.bytes, i.zero)) = some (ti141.size, ti141.bytes, some ti141.zero) ∧ ti141.zero.cells.size = ti141.size ∧ (ti141.zero.cells.all (·.oneCell') = true) ∧ eqOK Try.prog 141 ti141 = true :=
  ⟨by kernel_rfl, by kernel_rfl, by kernel_rfl, by kernel_rfl, by kernel_rfl⟩
def ti142 : TInf := ⟨TypeDesc.struct { toList := [{ name := "_", type := 141, offset := 0, embedded := Bool.false, tag := "", pkgPath := "runtime", byteOffset := 0 }] }, 0, 0, Value.agg { toList := [] }, none, false⟩
theorem ti142_ok : Try.prog.underlying 142 = some ti142.u ∧ (Try.prog.info? 142).map (fun i => (i.size, i.bytes, i.zero)) = some (ti142.size, ti142.bytes, some ti142.zero) ∧ ti142.zero.cells.size = ti142.size ∧ (ti142.zero.cells.all (·.oneCell') = true) ∧ eqOK Try.prog 142 ti142 = true :=
  ⟨by kernel_rfl, by kernel_rfl, by kernel_rfl, by kernel_rfl, by kernel_rfl⟩
def ti143 : TInf := ⟨TypeDesc.struct { toList := [{ name := "_", type := 141, offset := 0, embedded := Bool.false, tag := "", pkgPath := "runtime", byteOffset := 0 }] }, 0, 0, Value.agg { toList := [] }, none, false⟩
theorem ti143_ok : Try.prog.underlying 143 = some ti143.u ∧ (Try.prog.info? 143).map (fun i => (i.size, i.bytes, i.zero)) = some (ti143.size, ti143.bytes, some ti143.zero) ∧ ti143.zero.cells.size = ti143.size ∧ (ti143.zero.cells.all (·.oneCell') = true) ∧ eqOK Try.prog 143 ti143 = true :=
  ⟨by kernel_rfl, by kernel_rfl, by kernel_rfl, by kernel_rfl, by kernel_rfl⟩
abbrev ty144 : Ty := (.int .u32)
def ti144 : TInf := ⟨TypeDesc.int IntKind.u32, 1, 4, Value.int IntKind.u32 (Int.ofNat 0), some ty144, false⟩
theorem ti144_ok : Try.prog.underlying 144 = some ti144.u ∧ (Try.prog.info? 144).map (fun i => (i.size, i.bytes, i.zero)) = some (ti144.size, ti144.bytes, some ti144.zero) ∧ ti144.zero.cells.size = ti144.size ∧ (ti144.zero.cells.all (·.oneCell') = true) ∧ eqOK Try.prog 144 ti144 = true :=
  ⟨by kernel_rfl, by kernel_rfl, by kernel_rfl, by kernel_rfl, by kernel_rfl⟩
abbrev ty145 : Ty := (.int .u8)
def ti145 : TInf := ⟨TypeDesc.int IntKind.u8, 1, 1, Value.int IntKind.u8 (Int.ofNat 0), some ty145, false⟩
theorem ti145_ok : Try.prog.underlying 145 = some ti145.u ∧ (Try.prog.info? 145).map (fun i => (i.size, i.bytes, i.zero)) = some (ti145.size, ti145.bytes, some ti145.zero) ∧ ti145.zero.cells.size = ti145.size ∧ (ti145.zero.cells.all (·.oneCell') = true) ∧ eqOK Try.prog 145 ti145 = true :=
  ⟨by kernel_rfl, by kernel_rfl, by kernel_rfl, by kernel_rfl, by kernel_rfl⟩
abbrev ty146 : Ty := (.int .u8)
def ti146 : TInf := ⟨TypeDesc.int IntKind.u8, 1, 1, Value.int IntKind.u8 (Int.ofNat 0), some ty146, false⟩
theorem ti146_ok : Try.prog.underlying 146 = some ti146.u ∧ (Try.prog.info? 146).map (fun i => (i.size, i.bytes, i.zero)) = some (ti146.size, ti146.bytes, some ti146.zero) ∧ ti146.zero.cells.size = ti146.size ∧ (ti146.zero.cells.all (·.oneCell') = true) ∧ eqOK Try.prog 146 ti146 = true :=
  ⟨by kernel_rfl, by kernel_rfl, by kernel_rfl, by kernel_rfl, by kernel_rfl⟩
def ti147 : TInf := ⟨TypeDesc.func { toList := [133, 133] } { toList := [4] } Bool.false, 1, 8, Value.nilFunc, none, false⟩
theorem ti147_ok : Try.prog.underlying 147 = some ti147.u ∧ (Try.prog.info? 147).map (fun i => (i.size, i.bytes, i.zero)) = some (ti147.size, ti147.bytes, some ti147.zero) ∧ ti147.zero.cells.size = ti147.size ∧ (ti147.zero.cells.all (·.oneCell') = true) ∧ eqOK Try.prog 147 ti147 = true :=
  ⟨by kernel_rfl, by kernel_rfl, by kernel_rfl, by kernel_rfl, by kernel_rfl⟩
abbrev ty148 : Ty := (.int .i32)
def ti148 : TInf := ⟨TypeDesc.int IntKind.i32, 1, 4, Value.int IntKind.i32 (Int.ofNat 0), some ty148, false⟩
theorem ti148_ok : Try.prog.underlying 148 = some ti148.u ∧ (Try.prog.info? 148).map (fun i => (i.size, i.bytes, i.zero)) = some (ti148.size, ti148.bytes, some ti148.zero) ∧ ti148.zero.cells.size = ti148.size ∧ (ti148.zero.cells.all (·.oneCell') = true) ∧ eqOK Try.prog 148 ti148 = true :=
  ⟨by kernel_rfl, by kernel_rfl, by kernel_rfl, by kernel_rfl, by kernel_rfl⟩
abbrev ty149 : Ty := (.int .i32)
def ti149 : TInf := ⟨TypeDesc.int IntKind.i32, 1, 4, Value.int IntKind.i32 (Int.ofNat 0), some ty149, false⟩
theorem ti149_ok : Try.prog.underlying 149 = some ti149.u ∧ (Try.prog.info? 149).map (fun i => (i.size, i.bytes, i.zero)) = some (ti149.size, ti149.bytes, some ti149.zero) ∧ ti149.zero.cells.size = ti149.size ∧ (ti149.zero.cells.all (·.oneCell') = true) ∧ eqOK Try.prog 149 ti149 = true :=
  ⟨by kernel_rfl, by kernel_rfl, by kernel_rfl, by kernel_rfl, by kernel_rfl⟩
def ti150 : TInf := ⟨TypeDesc.struct { toList := [{ name := "Size_", type := 12, offset := 0, embedded := Bool.false, tag := "", pkgPath := "", byteOffset := 0 }, { name := "PtrBytes", type := 12, offset := 1, embedded := Bool.false, tag := "", pkgPath := "", byteOffset := 8 }, { name := "Hash", type := 144, offset := 2, embedded := Bool.false, tag := "", pkgPath := "", byteOffset := 16 }, { name := "TFlag", type := 145, offset := 3, embedded := Bool.false, tag := "", pkgPath := "", byteOffset := 20 }, { name := "Align_", type := 5, offset := 4, embedded := Bool.false, tag := "", pkgPath := "", byteOffset := 21 }, { name := "FieldAlign_", type := 5, offset := 5, embedded := Bool.false, tag := "", pkgPath := "", byteOffset := 22 }, { name := "Kind_", type := 146, offset := 6, embedded := Bool.false, tag := "", pkgPath := "", byteOffset := 23 }, { name := "Equal", type := 147, offset := 7, embedded := Bool.false, tag := "", pkgPath := "", byteOffset := 24 }, { name := "GCData", type := 128, offset := 8, embedded := Bool.false, tag := "", pkgPath := "", byteOffset := 32 }, { name := "Str", type := 148, offset := 9, embedded := Bool.false, tag := "", pkgPath := "", byteOffset := 40 }, { name := "PtrToThis", type := 149, offset := 10, embedded := Bool.false, tag := "", pkgPath := "", byteOffset := 44 }] }, 11, 48, Value.agg { toList := [Value.int IntKind.u64 (Int.ofNat 0), Value.int IntKind.u64 (Int.ofNat 0), Value.int IntKind.u32 (Int.ofNat 0), Value.int IntKind.u8 (Int.ofNat 0), Value.int IntKind.u8 (Int.ofNat 0), Value.int IntKind.u8 (Int.ofNat 0), Value.int IntKind.u8 (Int.ofNat 0), Value.nilFunc, Value.pointer Option.none, Value.int IntKind.i32 (Int.ofNat 0), Value.int IntKind.i32 (Int.ofNat 0)] }, none, false⟩
theorem ti150_ok : Try.prog.underlying 150 = some ti150.u ∧ (Try.prog.info? 150).map (fun i => (i.size, i.bytes, i.zero)) = some (ti150.size, ti150.bytes, some ti150.zero) ∧ ti150.zero.cells.size = ti150.size ∧ (ti150.zero.cells.all (·.oneCell') = true) ∧ eqOK Try.prog 150 ti150 = true :=
  ⟨by kernel_rfl, by kernel_rfl, by kernel_rfl, by kernel_rfl, by kernel_rfl⟩
def ti151 : TInf := ⟨TypeDesc.struct { toList := [{ name := "Size_", type := 12, offset := 0, embedded := Bool.false, tag := "", pkgPath := "", byteOffset := 0 }, { name := "PtrBytes", type := 12, offset := 1, embedded := Bool.false, tag := "", pkgPath := "", byteOffset := 8 }, { name := "Hash", type := 144, offset := 2, embedded := Bool.false, tag := "", pkgPath := "", byteOffset := 16 }, { name := "TFlag", type := 145, offset := 3, embedded := Bool.false, tag := "", pkgPath := "", byteOffset := 20 }, { name := "Align_", type := 5, offset := 4, embedded := Bool.false, tag := "", pkgPath := "", byteOffset := 21 }, { name := "FieldAlign_", type := 5, offset := 5, embedded := Bool.false, tag := "", pkgPath := "", byteOffset := 22 }, { name := "Kind_", type := 146, offset := 6, embedded := Bool.false, tag := "", pkgPath := "", byteOffset := 23 }, { name := "Equal", type := 147, offset := 7, embedded := Bool.false, tag := "", pkgPath := "", byteOffset := 24 }, { name := "GCData", type := 128, offset := 8, embedded := Bool.false, tag := "", pkgPath := "", byteOffset := 32 }, { name := "Str", type := 148, offset := 9, embedded := Bool.false, tag := "", pkgPath := "", byteOffset := 40 }, { name := "PtrToThis", type := 149, offset := 10, embedded := Bool.false, tag := "", pkgPath := "", byteOffset := 44 }] }, 11, 48, Value.agg { toList := [Value.int IntKind.u64 (Int.ofNat 0), Value.int IntKind.u64 (Int.ofNat 0), Value.int IntKind.u32 (Int.ofNat 0), Value.int IntKind.u8 (Int.ofNat 0), Value.int IntKind.u8 (Int.ofNat 0), Value.int IntKind.u8 (Int.ofNat 0), Value.int IntKind.u8 (Int.ofNat 0), Value.nilFunc, Value.pointer Option.none, Value.int IntKind.i32 (Int.ofNat 0), Value.int IntKind.i32 (Int.ofNat 0)] }, none, false⟩
theorem ti151_ok : Try.prog.underlying 151 = some ti151.u ∧ (Try.prog.info? 151).map (fun i => (i.size, i.bytes, i.zero)) = some (ti151.size, ti151.bytes, some ti151.zero) ∧ ti151.zero.cells.size = ti151.size ∧ (ti151.zero.cells.all (·.oneCell') = true) ∧ eqOK Try.prog 151 ti151 = true :=
  ⟨by kernel_rfl, by kernel_rfl, by kernel_rfl, by kernel_rfl, by kernel_rfl⟩
def ti152 : TInf := ⟨TypeDesc.func { toList := [3] } { toList := [32, 4] } Bool.false, 1, 8, Value.nilFunc, none, false⟩
theorem ti152_ok : Try.prog.underlying 152 = some ti152.u ∧ (Try.prog.info? 152).map (fun i => (i.size, i.bytes, i.zero)) = some (ti152.size, ti152.bytes, some ti152.zero) ∧ ti152.zero.cells.size = ti152.size ∧ (ti152.zero.cells.all (·.oneCell') = true) ∧ eqOK Try.prog 152 ti152 = true :=
  ⟨by kernel_rfl, by kernel_rfl, by kernel_rfl, by kernel_rfl, by kernel_rfl⟩
def ttL : List (Nat × TInf) := [(1, ti1), (2, ti2), (3, ti3), (4, ti4), (5, ti5), (6, ti6), (7, ti7), (8, ti8), (9, ti9), (10, ti10), (11, ti11), (12, ti12), (13, ti13), (14, ti14), (15, ti15), (16, ti16), (17, ti17), (18, ti18), (19, ti19), (20, ti20), (21, ti21), (22, ti22), (23, ti23), (24, ti24), (25, ti25), (26, ti26), (27, ti27), (28, ti28), (29, ti29), (30, ti30), (31, ti31), (32, ti32), (34, ti34), (35, ti35), (36, ti36), (37, ti37), (38, ti38), (39, ti39), (40, ti40), (41, ti41), (42, ti42), (43, ti43), (44, ti44), (45, ti45), (46, ti46), (48, ti48), (49, ti49), (50, ti50), (52, ti52), (53, ti53), (54, ti54), (55, ti55), (57, ti57), (58, ti58), (59, ti59), (60, ti60), (61, ti61), (62, ti62), (64, ti64), (65, ti65), (66, ti66), (67, ti67), (68, ti68), (69, ti69), (70, ti70), (71, ti71), (72, ti72), (73, ti73), (74, ti74), (75, ti75), (76, ti76), (77, ti77), (79, ti79), (80, ti80), (81, ti81), (82, ti82), (83, ti83), (84, ti84), (85, ti85), (86, ti86), (87, ti87), (88, ti88), (89, ti89), (90, ti90), (92, ti92), (93, ti93), (95, ti95), (96, ti96), (97, ti97), (98, ti98), (99, ti99), (100, ti100), (101, ti101), (102, ti102), (103, ti103), (104, ti104), (105, ti105), (106, ti106), (108, ti108), (109, ti109), (110, ti110), (111, ti111), (112, ti112), (113, ti113), (114, ti114), (115, ti115), (116, ti116), (117, ti117), (118, ti118), (119, ti119), (120, ti120), (121, ti121), (122, ti122), (123, ti123), (124, ti124), (125, ti125), (126, ti126), (127, ti127), (128, ti128), (129, ti129), (130, ti130), (131, ti131), (132, ti132), (133, ti133), (134, ti134), (135, ti135), (136, ti136), (137, ti137), (138, ti138), (139, ti139), (140, ti140), (141, ti141), (142, ti142), (143, ti143), (144, ti144), (145, ti145), (146, ti146), (147, ti147), (148, ti148), (149, ti149), (150, ti150), (151, ti151), (152, ti152)]
def tt (T : TypeId) : Option TInf := look T ttL
theorem ok_of {T : TypeId} {i : TInf} (h : Try.prog.underlying T = some i.u ∧ (Try.prog.info? T).map (fun j => (j.size, j.bytes, j.zero)) = some (i.size, i.bytes, some i.zero) ∧ i.zero.cells.size = i.size ∧ (i.zero.cells.all (·.oneCell') = true) ∧ eqOK Try.prog T i = true) (hc : ∀ t, i.code = some t → t.cells = i.size ∧ 0 < i.size ∧ 0 < i.bytes) :
    Try.prog.underlying T = some i.u ∧ (∃ j, Try.prog.info? T = some j ∧ j.size = i.size ∧ j.bytes = i.bytes ∧ j.zero = some i.zero) ∧ i.zero.cells.size = i.size ∧ (i.zero.cells.all (·.oneCell') = true) ∧ (∀ t, i.code = some t → t.cells = i.size ∧ 0 < i.size ∧ 0 < i.bytes) ∧ eqOK Try.prog T i = true := by
  obtain ⟨h1, h2, h3, h4, h5⟩ := h
  refine ⟨h1, ?_, h3, h4, hc, h5⟩
  cases e : Try.prog.info? T with
  | none => rw [e] at h2; cases h2
  | some j =>
    rw [e] at h2
    simp only [Option.map_some, Option.some.injEq, Prod.mk.injEq] at h2
    exact ⟨j, rfl, h2.1, h2.2.1, h2.2.2⟩
theorem look_cons {α : Type} {k i : Nat} {a b : α} {l : List (Nat × α)} (h : look k ((i, a) :: l) = some b) : (i = k ∧ a = b) ∨ look k l = some b := by
  simp only [look] at h
  split at h
  · rename_i hb
    injection h with h
    exact .inl ⟨Nat.eq_of_beq_eq_true hb, h⟩
  · exact .inr h
theorem tt_ok : TTok Try.prog tt := by
  intro T i h
  unfold tt ttL at h
  rcases look_cons h with ⟨rfl, rfl⟩ | h
  · exact ok_of ti1_ok (fun t h => by cases h)
  rcases look_cons h with ⟨rfl, rfl⟩ | h
  · exact ok_of ti2_ok (fun t h => by injection h with h; subst h; exact ⟨by decide +kernel, by decide +kernel, by decide +kernel⟩)
  rcases look_cons h with ⟨rfl, rfl⟩ | h
  · exact ok_of ti3_ok (fun t h => by injection h with h; subst h; exact ⟨by decide +kernel, by decide +kernel, by decide +kernel⟩)
  rcases look_cons h with ⟨rfl, rfl⟩ | h
  · exact ok_of ti4_ok (fun t h => by injection h with h; subst h; exact ⟨by decide +kernel, by decide +kernel, by decide +kernel⟩)
  rcases look_cons h with ⟨rfl, rfl⟩ | h
  · exact ok_of ti5_ok (fun t h => by injection h with h; subst h; exact ⟨by decide +kernel, by decide +kernel, by decide +kernel⟩)
  rcases look_cons h with ⟨rfl, rfl⟩ | h
  · exact ok_of ti6_ok (fun t h => by injection h with h; subst h; exact ⟨by decide +kernel, by decide +kernel, by decide +kernel⟩)
  rcases look_cons h with ⟨rfl, rfl⟩ | h
  · exact ok_of ti7_ok (fun t h => by injection h with h; subst h; exact ⟨by decide +kernel, by decide +kernel, by decide +kernel⟩)
  rcases look_cons h with ⟨rfl, rfl⟩ | h
  · exact ok_of ti8_ok (fun t h => by injection h with h; subst h; exact ⟨by decide +kernel, by decide +kernel, by decide +kernel⟩)
  rcases look_cons h with ⟨rfl, rfl⟩ | h
  · exact ok_of ti9_ok (fun t h => by injection h with h; subst h; exact ⟨by decide +kernel, by decide +kernel, by decide +kernel⟩)
  rcases look_cons h with ⟨rfl, rfl⟩ | h
  · exact ok_of ti10_ok (fun t h => by injection h with h; subst h; exact ⟨by decide +kernel, by decide +kernel, by decide +kernel⟩)
  rcases look_cons h with ⟨rfl, rfl⟩ | h
  · exact ok_of ti11_ok (fun t h => by injection h with h; subst h; exact ⟨by decide +kernel, by decide +kernel, by decide +kernel⟩)
  rcases look_cons h with ⟨rfl, rfl⟩ | h
  · exact ok_of ti12_ok (fun t h => by injection h with h; subst h; exact ⟨by decide +kernel, by decide +kernel, by decide +kernel⟩)
  rcases look_cons h with ⟨rfl, rfl⟩ | h
  · exact ok_of ti13_ok (fun t h => by injection h with h; subst h; exact ⟨by decide +kernel, by decide +kernel, by decide +kernel⟩)
  rcases look_cons h with ⟨rfl, rfl⟩ | h
  · exact ok_of ti14_ok (fun t h => by injection h with h; subst h; exact ⟨by decide +kernel, by decide +kernel, by decide +kernel⟩)
  rcases look_cons h with ⟨rfl, rfl⟩ | h
  · exact ok_of ti15_ok (fun t h => by cases h)
  rcases look_cons h with ⟨rfl, rfl⟩ | h
  · exact ok_of ti16_ok (fun t h => by cases h)
  rcases look_cons h with ⟨rfl, rfl⟩ | h
  · exact ok_of ti17_ok (fun t h => by cases h)
  rcases look_cons h with ⟨rfl, rfl⟩ | h
  · exact ok_of ti18_ok (fun t h => by cases h)
  rcases look_cons h with ⟨rfl, rfl⟩ | h
  · exact ok_of ti19_ok (fun t h => by cases h)
  rcases look_cons h with ⟨rfl, rfl⟩ | h
  · exact ok_of ti20_ok (fun t h => by cases h)
  rcases look_cons h with ⟨rfl, rfl⟩ | h
  · exact ok_of ti21_ok (fun t h => by injection h with h; subst h; exact ⟨by decide +kernel, by decide +kernel, by decide +kernel⟩)
  rcases look_cons h with ⟨rfl, rfl⟩ | h
  · exact ok_of ti22_ok (fun t h => by injection h with h; subst h; exact ⟨by decide +kernel, by decide +kernel, by decide +kernel⟩)
  rcases look_cons h with ⟨rfl, rfl⟩ | h
  · exact ok_of ti23_ok (fun t h => by cases h)
  rcases look_cons h with ⟨rfl, rfl⟩ | h
  · exact ok_of ti24_ok (fun t h => by cases h)
  rcases look_cons h with ⟨rfl, rfl⟩ | h
  · exact ok_of ti25_ok (fun t h => by cases h)
  rcases look_cons h with ⟨rfl, rfl⟩ | h
  · exact ok_of ti26_ok (fun t h => by injection h with h; subst h; exact ⟨by decide +kernel, by decide +kernel, by decide +kernel⟩)
  rcases look_cons h with ⟨rfl, rfl⟩ | h
  · exact ok_of ti27_ok (fun t h => by injection h with h; subst h; exact ⟨by decide +kernel, by decide +kernel, by decide +kernel⟩)
  rcases look_cons h with ⟨rfl, rfl⟩ | h
  · exact ok_of ti28_ok (fun t h => by injection h with h; subst h; exact ⟨by decide +kernel, by decide +kernel, by decide +kernel⟩)
  rcases look_cons h with ⟨rfl, rfl⟩ | h
  · exact ok_of ti29_ok (fun t h => by injection h with h; subst h; exact ⟨by decide +kernel, by decide +kernel, by decide +kernel⟩)
  rcases look_cons h with ⟨rfl, rfl⟩ | h
  · exact ok_of ti30_ok (fun t h => by cases h)
  rcases look_cons h with ⟨rfl, rfl⟩ | h
  · exact ok_of ti31_ok (fun t h => by injection h with h; subst h; exact ⟨by decide +kernel, by decide +kernel, by decide +kernel⟩)
  rcases look_cons h with ⟨rfl, rfl⟩ | h
  · exact ok_of ti32_ok (fun t h => by injection h with h; subst h; exact ⟨by decide +kernel, by decide +kernel, by decide +kernel⟩)
  rcases look_cons h with ⟨rfl, rfl⟩ | h
  · exact ok_of ti34_ok (fun t h => by cases h)
  rcases look_cons h with ⟨rfl, rfl⟩ | h
  · exact ok_of ti35_ok (fun t h => by cases h)
  rcases look_cons h with ⟨rfl, rfl⟩ | h
  · exact ok_of ti36_ok (fun t h => by cases h)
  rcases look_cons h with ⟨rfl, rfl⟩ | h
  · exact ok_of ti37_ok (fun t h => by cases h)
  rcases look_cons h with ⟨rfl, rfl⟩ | h
  · exact ok_of ti38_ok (fun t h => by cases h)
  rcases look_cons h with ⟨rfl, rfl⟩ | h
  · exact ok_of ti39_ok (fun t h => by cases h)
  rcases look_cons h with ⟨rfl, rfl⟩ | h
  · exact ok_of ti40_ok (fun t h => by cases h)
  rcases look_cons h with ⟨rfl, rfl⟩ | h
  · exact ok_of ti41_ok (fun t h => by cases h)
  rcases look_cons h with ⟨rfl, rfl⟩ | h
  · exact ok_of ti42_ok (fun t h => by cases h)
  rcases look_cons h with ⟨rfl, rfl⟩ | h
  · exact ok_of ti43_ok (fun t h => by cases h)
  rcases look_cons h with ⟨rfl, rfl⟩ | h
  · exact ok_of ti44_ok (fun t h => by cases h)
  rcases look_cons h with ⟨rfl, rfl⟩ | h
  · exact ok_of ti45_ok (fun t h => by cases h)
  rcases look_cons h with ⟨rfl, rfl⟩ | h
  · exact ok_of ti46_ok (fun t h => by cases h)
  rcases look_cons h with ⟨rfl, rfl⟩ | h
  · exact ok_of ti48_ok (fun t h => by cases h)
  rcases look_cons h with ⟨rfl, rfl⟩ | h
  · exact ok_of ti49_ok (fun t h => by cases h)
  rcases look_cons h with ⟨rfl, rfl⟩ | h
  · exact ok_of ti50_ok (fun t h => by injection h with h; subst h; exact ⟨by decide +kernel, by decide +kernel, by decide +kernel⟩)
  rcases look_cons h with ⟨rfl, rfl⟩ | h
  · exact ok_of ti52_ok (fun t h => by cases h)
  rcases look_cons h with ⟨rfl, rfl⟩ | h
  · exact ok_of ti53_ok (fun t h => by cases h)
  rcases look_cons h with ⟨rfl, rfl⟩ | h
  · exact ok_of ti54_ok (fun t h => by cases h)
  rcases look_cons h with ⟨rfl, rfl⟩ | h
  · exact ok_of ti55_ok (fun t h => by cases h)
  rcases look_cons h with ⟨rfl, rfl⟩ | h
  · exact ok_of ti57_ok (fun t h => by cases h)
  rcases look_cons h with ⟨rfl, rfl⟩ | h
  · exact ok_of ti58_ok (fun t h => by cases h)
  rcases look_cons h with ⟨rfl, rfl⟩ | h
  · exact ok_of ti59_ok (fun t h => by injection h with h; subst h; exact ⟨by decide +kernel, by decide +kernel, by decide +kernel⟩)
  rcases look_cons h with ⟨rfl, rfl⟩ | h
  · exact ok_of ti60_ok (fun t h => by injection h with h; subst h; exact ⟨by decide +kernel, by decide +kernel, by decide +kernel⟩)
  rcases look_cons h with ⟨rfl, rfl⟩ | h
  · exact ok_of ti61_ok (fun t h => by cases h)
  rcases look_cons h with ⟨rfl, rfl⟩ | h
  · exact ok_of ti62_ok (fun t h => by cases h)
  rcases look_cons h with ⟨rfl, rfl⟩ | h
  · exact ok_of ti64_ok (fun t h => by cases h)
  rcases look_cons h with ⟨rfl, rfl⟩ | h
  · exact ok_of ti65_ok (fun t h => by cases h)
  rcases look_cons h with ⟨rfl, rfl⟩ | h
  · exact ok_of ti66_ok (fun t h => by cases h)
  rcases look_cons h with ⟨rfl, rfl⟩ | h
  · exact ok_of ti67_ok (fun t h => by injection h with h; subst h; exact ⟨by decide +kernel, by decide +kernel, by decide +kernel⟩)
  rcases look_cons h with ⟨rfl, rfl⟩ | h
  · exact ok_of ti68_ok (fun t h => by injection h with h; subst h; exact ⟨by decide +kernel, by decide +kernel, by decide +kernel⟩)
  rcases look_cons h with ⟨rfl, rfl⟩ | h
  · exact ok_of ti69_ok (fun t h => by cases h)
  rcases look_cons h with ⟨rfl, rfl⟩ | h
  · exact ok_of ti70_ok (fun t h => by injection h with h; subst h; exact ⟨by decide +kernel, by decide +kernel, by decide +kernel⟩)
  rcases look_cons h with ⟨rfl, rfl⟩ | h
  · exact ok_of ti71_ok (fun t h => by injection h with h; subst h; exact ⟨by decide +kernel, by decide +kernel, by decide +kernel⟩)
  rcases look_cons h with ⟨rfl, rfl⟩ | h
  · exact ok_of ti72_ok (fun t h => by injection h with h; subst h; exact ⟨by decide +kernel, by decide +kernel, by decide +kernel⟩)
  rcases look_cons h with ⟨rfl, rfl⟩ | h
  · exact ok_of ti73_ok (fun t h => by cases h)
  rcases look_cons h with ⟨rfl, rfl⟩ | h
  · exact ok_of ti74_ok (fun t h => by injection h with h; subst h; exact ⟨by decide +kernel, by decide +kernel, by decide +kernel⟩)
  rcases look_cons h with ⟨rfl, rfl⟩ | h
  · exact ok_of ti75_ok (fun t h => by injection h with h; subst h; exact ⟨by decide +kernel, by decide +kernel, by decide +kernel⟩)
  rcases look_cons h with ⟨rfl, rfl⟩ | h
  · exact ok_of ti76_ok (fun t h => by cases h)
  rcases look_cons h with ⟨rfl, rfl⟩ | h
  · exact ok_of ti77_ok (fun t h => by cases h)
  rcases look_cons h with ⟨rfl, rfl⟩ | h
  · exact ok_of ti79_ok (fun t h => by cases h)
  rcases look_cons h with ⟨rfl, rfl⟩ | h
  · exact ok_of ti80_ok (fun t h => by injection h with h; subst h; exact ⟨by decide +kernel, by decide +kernel, by decide +kernel⟩)
  rcases look_cons h with ⟨rfl, rfl⟩ | h
  · exact ok_of ti81_ok (fun t h => by injection h with h; subst h; exact ⟨by decide +kernel, by decide +kernel, by decide +kernel⟩)
  rcases look_cons h with ⟨rfl, rfl⟩ | h
  · exact ok_of ti82_ok (fun t h => by injection h with h; subst h; exact ⟨by decide +kernel, by decide +kernel, by decide +kernel⟩)
  rcases look_cons h with ⟨rfl, rfl⟩ | h
  · exact ok_of ti83_ok (fun t h => by cases h)
  rcases look_cons h with ⟨rfl, rfl⟩ | h
  · exact ok_of ti84_ok (fun t h => by injection h with h; subst h; exact ⟨by decide +kernel, by decide +kernel, by decide +kernel⟩)
  rcases look_cons h with ⟨rfl, rfl⟩ | h
  · exact ok_of ti85_ok (fun t h => by injection h with h; subst h; exact ⟨by decide +kernel, by decide +kernel, by decide +kernel⟩)
  rcases look_cons h with ⟨rfl, rfl⟩ | h
  · exact ok_of ti86_ok (fun t h => by cases h)
  rcases look_cons h with ⟨rfl, rfl⟩ | h
  · exact ok_of ti87_ok (fun t h => by injection h with h; subst h; exact ⟨by decide +kernel, by decide +kernel, by decide +kernel⟩)
  rcases look_cons h with ⟨rfl, rfl⟩ | h
  · exact ok_of ti88_ok (fun t h => by injection h with h; subst h; exact ⟨by decide +kernel, by decide +kernel, by decide +kernel⟩)
  rcases look_cons h with ⟨rfl, rfl⟩ | h
  · exact ok_of ti89_ok (fun t h => by cases h)
  rcases look_cons h with ⟨rfl, rfl⟩ | h
  · exact ok_of ti90_ok (fun t h => by injection h with h; subst h; exact ⟨by decide +kernel, by decide +kernel, by decide +kernel⟩)
  rcases look_cons h with ⟨rfl, rfl⟩ | h
  · exact ok_of ti92_ok (fun t h => by cases h)
  rcases look_cons h with ⟨rfl, rfl⟩ | h
  · exact ok_of ti93_ok (fun t h => by cases h)
  rcases look_cons h with ⟨rfl, rfl⟩ | h
  · exact ok_of ti95_ok (fun t h => by cases h)
  rcases look_cons h with ⟨rfl, rfl⟩ | h
  · exact ok_of ti96_ok (fun t h => by cases h)
  rcases look_cons h with ⟨rfl, rfl⟩ | h
  · exact ok_of ti97_ok (fun t h => by cases h)
  rcases look_cons h with ⟨rfl, rfl⟩ | h
  · exact ok_of ti98_ok (fun t h => by cases h)
  rcases look_cons h with ⟨rfl, rfl⟩ | h
  · exact ok_of ti99_ok (fun t h => by cases h)
  rcases look_cons h with ⟨rfl, rfl⟩ | h
  · exact ok_of ti100_ok (fun t h => by cases h)
  rcases look_cons h with ⟨rfl, rfl⟩ | h
  · exact ok_of ti101_ok (fun t h => by cases h)
  rcases look_cons h with ⟨rfl, rfl⟩ | h
  · exact ok_of ti102_ok (fun t h => by injection h with h; subst h; exact ⟨by decide +kernel, by decide +kernel, by decide +kernel⟩)
  rcases look_cons h with ⟨rfl, rfl⟩ | h
  · exact ok_of ti103_ok (fun t h => by cases h)
  rcases look_cons h with ⟨rfl, rfl⟩ | h
  · exact ok_of ti104_ok (fun t h => by cases h)
  rcases look_cons h with ⟨rfl, rfl⟩ | h
  · exact ok_of ti105_ok (fun t h => by cases h)
  rcases look_cons h with ⟨rfl, rfl⟩ | h
  · exact ok_of ti106_ok (fun t h => by cases h)
  rcases look_cons h with ⟨rfl, rfl⟩ | h
  · exact ok_of ti108_ok (fun t h => by cases h)
  rcases look_cons h with ⟨rfl, rfl⟩ | h
  · exact ok_of ti109_ok (fun t h => by cases h)
  rcases look_cons h with ⟨rfl, rfl⟩ | h
  · exact ok_of ti110_ok (fun t h => by cases h)
  rcases look_cons h with ⟨rfl, rfl⟩ | h
  · exact ok_of ti111_ok (fun t h => by cases h)
  rcases look_cons h with ⟨rfl, rfl⟩ | h
  · exact ok_of ti112_ok (fun t h => by cases h)
  rcases look_cons h with ⟨rfl, rfl⟩ | h
  · exact ok_of ti113_ok (fun t h => by cases h)
  rcases look_cons h with ⟨rfl, rfl⟩ | h
  · exact ok_of ti114_ok (fun t h => by cases h)
  rcases look_cons h with ⟨rfl, rfl⟩ | h
  · exact ok_of ti115_ok (fun t h => by cases h)
  rcases look_cons h with ⟨rfl, rfl⟩ | h
  · exact ok_of ti116_ok (fun t h => by cases h)
  rcases look_cons h with ⟨rfl, rfl⟩ | h
  · exact ok_of ti117_ok (fun t h => by cases h)
  rcases look_cons h with ⟨rfl, rfl⟩ | h
  · exact ok_of ti118_ok (fun t h => by cases h)
  rcases look_cons h with ⟨rfl, rfl⟩ | h
  · exact ok_of ti119_ok (fun t h => by cases h)
  rcases look_cons h with ⟨rfl, rfl⟩ | h
  · exact ok_of ti120_ok (fun t h => by cases h)
  rcases look_cons h with ⟨rfl, rfl⟩ | h
  · exact ok_of ti121_ok (fun t h => by cases h)
  rcases look_cons h with ⟨rfl, rfl⟩ | h
  · exact ok_of ti122_ok (fun t h => by cases h)
  rcases look_cons h with ⟨rfl, rfl⟩ | h
  · exact ok_of ti123_ok (fun t h => by cases h)
  rcases look_cons h with ⟨rfl, rfl⟩ | h
  · exact ok_of ti124_ok (fun t h => by cases h)
  rcases look_cons h with ⟨rfl, rfl⟩ | h
  · exact ok_of ti125_ok (fun t h => by cases h)
  rcases look_cons h with ⟨rfl, rfl⟩ | h
  · exact ok_of ti126_ok (fun t h => by cases h)
  rcases look_cons h with ⟨rfl, rfl⟩ | h
  · exact ok_of ti127_ok (fun t h => by cases h)
  rcases look_cons h with ⟨rfl, rfl⟩ | h
  · exact ok_of ti128_ok (fun t h => by cases h)
  rcases look_cons h with ⟨rfl, rfl⟩ | h
  · exact ok_of ti129_ok (fun t h => by injection h with h; subst h; exact ⟨by decide +kernel, by decide +kernel, by decide +kernel⟩)
  rcases look_cons h with ⟨rfl, rfl⟩ | h
  · exact ok_of ti130_ok (fun t h => by cases h)
  rcases look_cons h with ⟨rfl, rfl⟩ | h
  · exact ok_of ti131_ok (fun t h => by injection h with h; subst h; exact ⟨by decide +kernel, by decide +kernel, by decide +kernel⟩)
  rcases look_cons h with ⟨rfl, rfl⟩ | h
  · exact ok_of ti132_ok (fun t h => by injection h with h; subst h; exact ⟨by decide +kernel, by decide +kernel, by decide +kernel⟩)
  rcases look_cons h with ⟨rfl, rfl⟩ | h
  · exact ok_of ti133_ok (fun t h => by cases h)
  rcases look_cons h with ⟨rfl, rfl⟩ | h
  · exact ok_of ti134_ok (fun t h => by cases h)
  rcases look_cons h with ⟨rfl, rfl⟩ | h
  · exact ok_of ti135_ok (fun t h => by cases h)
  rcases look_cons h with ⟨rfl, rfl⟩ | h
  · exact ok_of ti136_ok (fun t h => by cases h)
  rcases look_cons h with ⟨rfl, rfl⟩ | h
  · exact ok_of ti137_ok (fun t h => by cases h)
  rcases look_cons h with ⟨rfl, rfl⟩ | h
  · exact ok_of ti138_ok (fun t h => by injection h with h; subst h; exact ⟨by decide +kernel, by decide +kernel, by decide +kernel⟩)
  rcases look_cons h with ⟨rfl, rfl⟩ | h
  · exact ok_of ti139_ok (fun t h => by cases h)
  rcases look_cons h with ⟨rfl, rfl⟩ | h
  · exact ok_of ti140_ok (fun t h => by cases h)
  rcases look_cons h with ⟨rfl, rfl⟩ | h
  · exact ok_of ti141_ok (fun t h => by cases h)
  rcases look_cons h with ⟨rfl, rfl⟩ | h
  · exact ok_of ti142_ok (fun t h => by cases h)
  rcases look_cons h with ⟨rfl, rfl⟩ | h
  · exact ok_of ti143_ok (fun t h => by cases h)
  rcases look_cons h with ⟨rfl, rfl⟩ | h
  · exact ok_of ti144_ok (fun t h => by injection h with h; subst h; exact ⟨by decide +kernel, by decide +kernel, by decide +kernel⟩)
  rcases look_cons h with ⟨rfl, rfl⟩ | h
  · exact ok_of ti145_ok (fun t h => by injection h with h; subst h; exact ⟨by decide +kernel, by decide +kernel, by decide +kernel⟩)
  rcases look_cons h with ⟨rfl, rfl⟩ | h
  · exact ok_of ti146_ok (fun t h => by injection h with h; subst h; exact ⟨by decide +kernel, by decide +kernel, by decide +kernel⟩)
  rcases look_cons h with ⟨rfl, rfl⟩ | h
  · exact ok_of ti147_ok (fun t h => by cases h)
  rcases look_cons h with ⟨rfl, rfl⟩ | h
  · exact ok_of ti148_ok (fun t h => by injection h with h; subst h; exact ⟨by decide +kernel, by decide +kernel, by decide +kernel⟩)
  rcases look_cons h with ⟨rfl, rfl⟩ | h
  · exact ok_of ti149_ok (fun t h => by injection h with h; subst h; exact ⟨by decide +kernel, by decide +kernel, by decide +kernel⟩)
  rcases look_cons h with ⟨rfl, rfl⟩ | h
  · exact ok_of ti150_ok (fun t h => by cases h)
  rcases look_cons h with ⟨rfl, rfl⟩ | h
  · exact ok_of ti151_ok (fun t h => by cases h)
  rcases look_cons h with ⟨rfl, rfl⟩ | h
  · exact ok_of ti152_ok (fun t h => by cases h)
  cases h
end Go.Proofs.Ytmkbigaofhionaa
