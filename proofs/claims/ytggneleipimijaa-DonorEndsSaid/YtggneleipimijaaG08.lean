/- Texts put together: EC, ED, PA, F12, F13, RB, SL. -/
import Derived.Test.YtggneleipimijaaG01
import Derived.Test.YtggneleipimijaaProg
import Derived.Test.YtggneleipimijaaG06
import Derived.KernelRfl
import Derived.Test.YtggneleipimijaaG07
import Derived.Shelf.Sort.Plain
import Derived.Ground.Names2Prog
import Derived.Shelf.Slices.SearchI
/- The tables of this seat, as the engine wants them: printed by gen.py out of the translation. -/
namespace Go.Proofs.Ytggneleipimijaa.En
open Go Go.Proofs
def ti1 : TI := ⟨1, 8, [.nilFunc], .fn, false, []⟩
def ti2 : TI := ⟨1, 8, [.int .i64 0], .int .i64, false, []⟩
def ti3 : TI := ⟨1, 8, [.int .i64 0], .int .i64, false, []⟩
def ti4 : TI := ⟨1, 1, [.bool false], .bool, false, []⟩
def ti5 : TI := ⟨1, 1, [.int .u8 0], .int .u8, false, []⟩
def ti6 : TI := ⟨1, 1, [.int .u8 0], .int .u8, false, []⟩
def ti7 : TI := ⟨4, 24, [.int .i64 0, .int .i64 0, .bool false, .int .u8 0], .struct [(0, 1, 2, false), (1, 1, 3, false), (2, 1, 4, false), (3, 1, 6, false)], true, [1, 1, 0, 1]⟩
def ti8 : TI := ⟨4, 24, [.int .i64 0, .int .i64 0, .bool false, .int .u8 0], .struct [(0, 1, 2, false), (1, 1, 3, false), (2, 1, 4, false), (3, 1, 6, false)], true, [1, 1, 0, 1]⟩
def ti9 : TI := ⟨1, 16, [.string ⟨#[]⟩], .str, false, []⟩
def ti10 : TI := ⟨1, 16, [.string ⟨#[]⟩], .str, false, []⟩
def ti11 : TI := ⟨1, 16, [.string ⟨#[]⟩], .str, false, []⟩
def ti12 : TI := ⟨1, 8, [.int .u64 0], .int .u64, false, []⟩
def ti13 : TI := ⟨2, 24, [.string ⟨#[]⟩, .int .u64 0], .struct [(0, 1, 9, false), (1, 1, 12, false)], true, []⟩
def ti14 : TI := ⟨2, 24, [.string ⟨#[]⟩, .int .u64 0], .struct [(0, 1, 9, false), (1, 1, 12, false)], true, []⟩
def ti15 : TI := ⟨1, 8, [.pointer none], .ptr 92, false, []⟩
def ti16 : TI := ⟨1, 8, [.pointer none], .ptr 95, false, []⟩
def ti17 : TI := ⟨1, 8, [.pointer none], .ptr 104, false, []⟩
def ti18 : TI := ⟨1, 8, [.pointer none], .struct [(0, 1, 17, false)], true, []⟩
def ti19 : TI := ⟨1, 8, [.pointer none], .struct [(0, 1, 17, false)], true, []⟩
def ti21 : TI := ⟨1, 4, [.int .i32 0], .int .i32, false, []⟩
def ti22 : TI := ⟨1, 24, [.slice none 0 0], .slice 3, false, []⟩
def ti23 : TI := ⟨1, 8, [.map none], .map 3 4, false, []⟩
def ti24 : TI := ⟨1, 8, [.nilFunc], .fn, false, []⟩
def ti25 : TI := ⟨1, 8, [.nilFunc], .fn, false, []⟩
def ti26 : TI := ⟨1, 8, [.nilFunc], .fn, false, []⟩
def ti27 : TI := ⟨1, 8, [.nilFunc], .fn, false, []⟩
def ti28 : TI := ⟨5, 40, [.int .i64 0, .int .i64 0, .int .i64 0, .int .i64 0, .bool false], .struct [(0, 1, 3, false), (1, 1, 3, false), (2, 1, 3, false), (3, 1, 3, false), (4, 1, 4, false)], true, [1, 1, 1, 1, 0]⟩
def ti29 : TI := ⟨5, 40, [.int .i64 0, .int .i64 0, .int .i64 0, .int .i64 0, .bool false], .struct [(0, 1, 3, false), (1, 1, 3, false), (2, 1, 3, false), (3, 1, 3, false), (4, 1, 4, false)], true, [1, 1, 1, 1, 0]⟩
def ti30 : TI := ⟨1, 24, [.slice none 0 0], .slice 29, false, []⟩
def ti31 : TI := ⟨1, 8, [.nilFunc], .fn, false, []⟩
def ti32 : TI := ⟨1, 8, [.nilFunc], .fn, false, []⟩
def ti33 : TI := ⟨1, 24, [.slice none 0 0], .slice 59, false, []⟩
def ti34 : TI := ⟨1, 8, [.nilFunc], .fn, false, []⟩
def ti35 : TI := ⟨1, 8, [.nilFunc], .fn, false, []⟩
def ti36 : TI := ⟨1, 8, [.nilFunc], .fn, false, []⟩
def ti37 : TI := ⟨1, 8, [.nilFunc], .fn, false, []⟩
def ti38 : TI := ⟨1, 8, [.nilFunc], .fn, false, []⟩
def ti39 : TI := ⟨4, 32, [.int .i64 0, .int .i64 0, .int .i64 0, .int .i64 0], .struct [(0, 1, 3, false), (1, 1, 3, false), (2, 1, 3, false), (3, 1, 3, false)], true, [1, 1, 1, 1]⟩
def ti40 : TI := ⟨4, 32, [.int .i64 0, .int .i64 0, .int .i64 0, .int .i64 0], .struct [(0, 1, 3, false), (1, 1, 3, false), (2, 1, 3, false), (3, 1, 3, false)], true, [1, 1, 1, 1]⟩
def ti42 : TI := ⟨1, 8, [.nilFunc], .fn, false, []⟩
def ti43 : TI := ⟨1, 8, [.map none], .map 3 3, false, []⟩
def ti44 : TI := ⟨1, 8, [.nilFunc], .fn, false, []⟩
def ti45 : TI := ⟨4, 32, [.int .i64 0, .int .i64 0, .int .i64 0, .int .i64 0], .struct [(0, 1, 3, false), (1, 1, 3, false), (2, 1, 3, false), (3, 1, 3, false)], true, [1, 1, 1, 1]⟩
def ti47 : TI := ⟨1, 8, [.nilFunc], .fn, false, []⟩
def ti48 : TI := ⟨1, 8, [.nilFunc], .fn, false, []⟩
def ti49 : TI := ⟨1, 8, [.nilFunc], .fn, false, []⟩
def ti51 : TI := ⟨1, 8, [.nilFunc], .fn, false, []⟩
def ti52 : TI := ⟨1, 8, [.nilFunc], .fn, false, []⟩
def ti53 : TI := ⟨1, 8, [.nilFunc], .fn, false, []⟩
def ti54 : TI := ⟨1, 8, [.nilFunc], .fn, false, []⟩
def ti55 : TI := ⟨1, 8, [.nilFunc], .fn, false, []⟩
def ti56 : TI := ⟨1, 8, [.nilFunc], .fn, false, []⟩
def ti57 : TI := ⟨1, 8, [.nilFunc], .fn, false, []⟩
def ti58 : TI := ⟨1, 8, [.nilFunc], .fn, false, []⟩
def ti59 : TI := ⟨5, 40, [.int .i64 0, .int .i64 0, .int .i64 0, .int .i64 0, .bool false], .struct [(0, 1, 3, false), (1, 1, 3, false), (2, 1, 3, false), (3, 1, 3, false), (4, 1, 4, false)], true, [1, 1, 1, 1, 0]⟩
def ti60 : TI := ⟨1, 8, [.nilFunc], .fn, false, []⟩
def ti61 : TI := ⟨1, 8, [.nilFunc], .fn, false, []⟩
def ti62 : TI := ⟨1, 8, [.nilFunc], .fn, false, []⟩
def ti63 : TI := ⟨1, 8, [.nilFunc], .fn, false, []⟩
def ti64 : TI := ⟨1, 8, [.nilFunc], .fn, false, []⟩
def ti65 : TI := ⟨1, 8, [.int .u64 0], .int .u64, false, []⟩
def ti66 : TI := ⟨1, 8, [.nilFunc], .fn, false, []⟩
def ti67 : TI := ⟨1, 8, [.nilFunc], .fn, false, []⟩
def ti68 : TI := ⟨1, 8, [.nilFunc], .fn, false, []⟩
def ti69 : TI := ⟨1, 8, [.int .i64 0], .int .i64, false, []⟩
def ti71 : TI := ⟨1, 8, [.nilFunc], .fn, false, []⟩
def ti72 : TI := ⟨1, 8, [.nilFunc], .fn, false, []⟩
def ti73 : TI := ⟨1, 8, [.nilFunc], .fn, false, []⟩
def ti74 : TI := ⟨1, 8, [.nilFunc], .fn, false, []⟩
def ti75 : TI := ⟨1, 8, [.nilFunc], .fn, false, []⟩
def ti76 : TI := ⟨1, 4, [.int .u32 0], .int .u32, false, []⟩
def ti77 : TI := ⟨1, 8, [.nilFunc], .fn, false, []⟩
def ti78 : TI := ⟨1, 8, [.int .u64 0], .int .u64, false, []⟩
def ti79 : TI := ⟨1, 8, [.nilFunc], .fn, false, []⟩
def ti80 : TI := ⟨1, 8, [.nilFunc], .fn, false, []⟩
def ti81 : TI := ⟨1, 8, [.int .u64 0], .int .u64, false, []⟩
def ti82 : TI := ⟨1, 8, [.nilFunc], .fn, false, []⟩
def ti83 : TI := ⟨1, 8, [.nilFunc], .fn, false, []⟩
def ti84 : TI := ⟨1, 8, [.nilFunc], .fn, false, []⟩
def ti85 : TI := ⟨1, 8, [.pointer none], .ptr 3, false, []⟩
def ti86 : TI := ⟨1, 8, [.nilFunc], .fn, false, []⟩
def ti87 : TI := ⟨1, 8, [.pointer none], .ptr 81, false, []⟩
def ti89 : TI := ⟨1, 8, [.nilFunc], .fn, false, []⟩
def ti90 : TI := ⟨1, 8, [.nilFunc], .fn, false, []⟩
def ti91 : TI := ⟨4, 40, [.pointer none, .pointer none, .pointer none, .string ⟨#[]⟩], .struct [(0, 1, 17, false), (1, 1, 17, false), (2, 1, 17, false), (3, 1, 9, false)], true, []⟩
def ti92 : TI := ⟨4, 40, [.pointer none, .pointer none, .pointer none, .string ⟨#[]⟩], .struct [(0, 1, 17, false), (1, 1, 17, false), (2, 1, 17, false), (3, 1, 9, false)], true, []⟩
def ti93 : TI := ⟨0, 0, [], .array 0 16, true, []⟩
def ti94 : TI := ⟨0, 0, [], .struct [(0, 0, 93, true)], true, []⟩
def ti95 : TI := ⟨0, 0, [], .struct [(0, 0, 93, true)], true, []⟩
def ti96 : TI := ⟨1, 8, [.nilFunc], .fn, false, []⟩
def ti97 : TI := ⟨1, 1, [.int .u8 0], .int .u8, false, []⟩
def ti98 : TI := ⟨1, 1, [.int .u8 0], .int .u8, false, []⟩
def ti99 : TI := ⟨1, 8, [.nilFunc], .fn, false, []⟩
def ti100 : TI := ⟨1, 8, [.pointer none], .ptr 5, false, []⟩
def ti101 : TI := ⟨1, 4, [.int .i32 0], .int .i32, false, []⟩
def ti102 : TI := ⟨1, 4, [.int .i32 0], .int .i32, false, []⟩
def ti103 : TI := ⟨11, 48, [.int .u64 0, .int .u64 0, .int .u32 0, .int .u8 0, .int .u8 0, .int .u8 0, .int .u8 0, .nilFunc, .pointer none, .int .i32 0, .int .i32 0], .struct [(0, 1, 12, false), (1, 1, 12, false), (2, 1, 76, false), (3, 1, 97, false), (4, 1, 5, false), (5, 1, 5, false), (6, 1, 98, false), (7, 1, 99, false), (8, 1, 100, false), (9, 1, 101, false), (10, 1, 102, false)], true, []⟩
def ti104 : TI := ⟨11, 48, [.int .u64 0, .int .u64 0, .int .u32 0, .int .u8 0, .int .u8 0, .int .u8 0, .int .u8 0, .nilFunc, .pointer none, .int .i32 0, .int .i32 0], .struct [(0, 1, 12, false), (1, 1, 12, false), (2, 1, 76, false), (3, 1, 97, false), (4, 1, 5, false), (5, 1, 5, false), (6, 1, 98, false), (7, 1, 99, false), (8, 1, 100, false), (9, 1, 101, false), (10, 1, 102, false)], true, []⟩
def tiTab : Tab TI := (.node 54 ti54 (.node 26 ti26 (.node 13 ti13 (.node 7 ti7 (.node 4 ti4 (.node 2 ti2 (.node 1 ti1 .leaf .leaf) (.node 3 ti3 .leaf .leaf)) (.node 6 ti6 (.node 5 ti5 .leaf .leaf) .leaf)) (.node 10 ti10 (.node 9 ti9 (.node 8 ti8 .leaf .leaf) .leaf) (.node 12 ti12 (.node 11 ti11 .leaf .leaf) .leaf))) (.node 19 ti19 (.node 16 ti16 (.node 15 ti15 (.node 14 ti14 .leaf .leaf) .leaf) (.node 18 ti18 (.node 17 ti17 .leaf .leaf) .leaf)) (.node 23 ti23 (.node 22 ti22 (.node 21 ti21 .leaf .leaf) .leaf) (.node 25 ti25 (.node 24 ti24 .leaf .leaf) .leaf)))) (.node 39 ti39 (.node 33 ti33 (.node 30 ti30 (.node 28 ti28 (.node 27 ti27 .leaf .leaf) (.node 29 ti29 .leaf .leaf)) (.node 32 ti32 (.node 31 ti31 .leaf .leaf) .leaf)) (.node 36 ti36 (.node 35 ti35 (.node 34 ti34 .leaf .leaf) .leaf) (.node 38 ti38 (.node 37 ti37 .leaf .leaf) .leaf))) (.node 47 ti47 (.node 43 ti43 (.node 42 ti42 (.node 40 ti40 .leaf .leaf) .leaf) (.node 45 ti45 (.node 44 ti44 .leaf .leaf) .leaf)) (.node 51 ti51 (.node 49 ti49 (.node 48 ti48 .leaf .leaf) .leaf) (.node 53 ti53 (.node 52 ti52 .leaf .leaf) .leaf))))) (.node 80 ti80 (.node 67 ti67 (.node 61 ti61 (.node 58 ti58 (.node 56 ti56 (.node 55 ti55 .leaf .leaf) (.node 57 ti57 .leaf .leaf)) (.node 60 ti60 (.node 59 ti59 .leaf .leaf) .leaf)) (.node 64 ti64 (.node 63 ti63 (.node 62 ti62 .leaf .leaf) .leaf) (.node 66 ti66 (.node 65 ti65 .leaf .leaf) .leaf))) (.node 74 ti74 (.node 71 ti71 (.node 69 ti69 (.node 68 ti68 .leaf .leaf) .leaf) (.node 73 ti73 (.node 72 ti72 .leaf .leaf) .leaf)) (.node 77 ti77 (.node 76 ti76 (.node 75 ti75 .leaf .leaf) .leaf) (.node 79 ti79 (.node 78 ti78 .leaf .leaf) .leaf)))) (.node 93 ti93 (.node 86 ti86 (.node 83 ti83 (.node 82 ti82 (.node 81 ti81 .leaf .leaf) .leaf) (.node 85 ti85 (.node 84 ti84 .leaf .leaf) .leaf)) (.node 90 ti90 (.node 89 ti89 (.node 87 ti87 .leaf .leaf) .leaf) (.node 92 ti92 (.node 91 ti91 .leaf .leaf) .leaf))) (.node 99 ti99 (.node 96 ti96 (.node 95 ti95 (.node 94 ti94 .leaf .leaf) .leaf) (.node 98 ti98 (.node 97 ti97 .leaf .leaf) .leaf)) (.node 102 ti102 (.node 101 ti101 (.node 100 ti100 .leaf .leaf) .leaf) (.node 104 ti104 (.node 103 ti103 .leaf .leaf) .leaf))))))
noncomputable def fiTab : Tab Func := (.node 35 Try.f35 (.node 19 Try.f19 (.node 11 Try.f11 (.node 7 Try.f7 (.node 5 Try.f5 (.node 4 Try.f4 (.node 3 Try.f3 .leaf .leaf) .leaf) (.node 6 Try.f6 .leaf .leaf)) (.node 9 Try.f9 (.node 8 Try.f8 .leaf .leaf) (.node 10 Try.f10 .leaf .leaf))) (.node 15 Try.f15 (.node 13 Try.f13 (.node 12 Try.f12 .leaf .leaf) (.node 14 Try.f14 .leaf .leaf)) (.node 17 Try.f17 (.node 16 Try.f16 .leaf .leaf) (.node 18 Try.f18 .leaf .leaf)))) (.node 27 Try.f27 (.node 23 Try.f23 (.node 21 Try.f21 (.node 20 Try.f20 .leaf .leaf) (.node 22 Try.f22 .leaf .leaf)) (.node 25 Try.f25 (.node 24 Try.f24 .leaf .leaf) (.node 26 Try.f26 .leaf .leaf))) (.node 31 Try.f31 (.node 29 Try.f29 (.node 28 Try.f28 .leaf .leaf) (.node 30 Try.f30 .leaf .leaf)) (.node 33 Try.f33 (.node 32 Try.f32 .leaf .leaf) (.node 34 Try.f34 .leaf .leaf))))) (.node 52 Try.f52 (.node 44 Try.f44 (.node 40 Try.f40 (.node 38 Try.f38 (.node 37 Try.f37 (.node 36 Try.f36 .leaf .leaf) .leaf) (.node 39 Try.f39 .leaf .leaf)) (.node 42 Try.f42 (.node 41 Try.f41 .leaf .leaf) (.node 43 Try.f43 .leaf .leaf))) (.node 48 Try.f48 (.node 46 Try.f46 (.node 45 Try.f45 .leaf .leaf) (.node 47 Try.f47 .leaf .leaf)) (.node 50 Try.f50 (.node 49 Try.f49 .leaf .leaf) (.node 51 Try.f51 .leaf .leaf)))) (.node 60 Try.f60 (.node 56 Try.f56 (.node 54 Try.f54 (.node 53 Try.f53 .leaf .leaf) (.node 55 Try.f55 .leaf .leaf)) (.node 58 Try.f58 (.node 57 Try.f57 .leaf .leaf) (.node 59 Try.f59 .leaf .leaf))) (.node 64 Try.f64 (.node 62 Try.f62 (.node 61 Try.f61 .leaf .leaf) (.node 63 Try.f63 .leaf .leaf)) (.node 66 Try.f66 (.node 65 Try.f65 .leaf .leaf) (.node 67 Try.f67 .leaf .leaf))))))
noncomputable def GC : Ctx := ⟨tiTab.get, fiTab.get, false, fun _ => none, fun _ _ => none, fun _ _ => none⟩
noncomputable def GS : Ctx := ⟨tiTab.get, fiTab.get, true, fun _ => none, fun _ _ => none, fun _ _ => none⟩
end Go.Proofs.Ytggneleipimijaa.En
/- The tables of this seat are those of the program: printed by gen.py. -/
namespace Go.Proofs.Ytggneleipimijaa.En
open Go Go.Proofs
theorem tok1 : TIOk Try.prog 1 ti1 := ⟨by kernel_rfl, by kernel_rfl, by kernel_rfl, by kernel_rfl, by kernel_rfl, .inl rfl⟩
theorem tok2 : TIOk Try.prog 2 ti2 := ⟨by kernel_rfl, by kernel_rfl, by kernel_rfl, by kernel_rfl, by kernel_rfl, .inl rfl⟩
theorem tok3 : TIOk Try.prog 3 ti3 := ⟨by kernel_rfl, by kernel_rfl, by kernel_rfl, by kernel_rfl, by kernel_rfl, .inl rfl⟩
theorem tok4 : TIOk Try.prog 4 ti4 := ⟨by kernel_rfl, by kernel_rfl, by kernel_rfl, by kernel_rfl, by kernel_rfl, .inl rfl⟩
theorem tok5 : TIOk Try.prog 5 ti5 := ⟨by kernel_rfl, by kernel_rfl, by kernel_rfl, by kernel_rfl, by kernel_rfl, .inl rfl⟩
theorem tok6 : TIOk Try.prog 6 ti6 := ⟨by kernel_rfl, by kernel_rfl, by kernel_rfl, by kernel_rfl, by kernel_rfl, .inl rfl⟩
theorem tok7 : TIOk Try.prog 7 ti7 := ⟨by kernel_rfl, by kernel_rfl, by kernel_rfl, by kernel_rfl, by kernel_rfl, .inr ⟨by kernel_rfl, by kernel_rfl⟩⟩
theorem tok8 : TIOk Try.prog 8 ti8 := ⟨by kernel_rfl, by kernel_rfl, by kernel_rfl, by kernel_rfl, by kernel_rfl, .inr ⟨by kernel_rfl, by kernel_rfl⟩⟩
theorem tok9 : TIOk Try.prog 9 ti9 := ⟨by kernel_rfl, by kernel_rfl, by kernel_rfl, by kernel_rfl, by kernel_rfl, .inl rfl⟩
theorem tok10 : TIOk Try.prog 10 ti10 := ⟨by kernel_rfl, by kernel_rfl, by kernel_rfl, by kernel_rfl, by kernel_rfl, .inl rfl⟩
theorem tok11 : TIOk Try.prog 11 ti11 := ⟨by kernel_rfl, by kernel_rfl, by kernel_rfl, by kernel_rfl, by kernel_rfl, .inl rfl⟩
theorem tok12 : TIOk Try.prog 12 ti12 := ⟨by kernel_rfl, by kernel_rfl, by kernel_rfl, by kernel_rfl, by kernel_rfl, .inl rfl⟩
theorem tok13 : TIOk Try.prog 13 ti13 := ⟨by kernel_rfl, by kernel_rfl, by kernel_rfl, by kernel_rfl, by kernel_rfl, .inl rfl⟩
theorem tok14 : TIOk Try.prog 14 ti14 := ⟨by kernel_rfl, by kernel_rfl, by kernel_rfl, by kernel_rfl, by kernel_rfl, .inl rfl⟩
theorem tok15 : TIOk Try.prog 15 ti15 := ⟨by kernel_rfl, by kernel_rfl, by kernel_rfl, by kernel_rfl, by kernel_rfl, .inl rfl⟩
theorem tok16 : TIOk Try.prog 16 ti16 := ⟨by kernel_rfl, by kernel_rfl, by kernel_rfl, by kernel_rfl, by kernel_rfl, .inl rfl⟩
theorem tok17 : TIOk Try.prog 17 ti17 := ⟨by kernel_rfl, by kernel_rfl, by kernel_rfl, by kernel_rfl, by kernel_rfl, .inl rfl⟩
theorem tok18 : TIOk Try.prog 18 ti18 := ⟨by kernel_rfl, by kernel_rfl, by kernel_rfl, by kernel_rfl, by kernel_rfl, .inl rfl⟩
theorem tok19 : TIOk Try.prog 19 ti19 := ⟨by kernel_rfl, by kernel_rfl, by kernel_rfl, by kernel_rfl, by kernel_rfl, .inl rfl⟩
theorem tok21 : TIOk Try.prog 21 ti21 := ⟨by kernel_rfl, by kernel_rfl, by kernel_rfl, by kernel_rfl, by kernel_rfl, .inl rfl⟩
theorem tok22 : TIOk Try.prog 22 ti22 := ⟨by kernel_rfl, by kernel_rfl, by kernel_rfl, by kernel_rfl, by kernel_rfl, .inl rfl⟩
theorem tok23 : TIOk Try.prog 23 ti23 := ⟨by kernel_rfl, by kernel_rfl, by kernel_rfl, by kernel_rfl, by kernel_rfl, .inl rfl⟩
theorem tok24 : TIOk Try.prog 24 ti24 := ⟨by kernel_rfl, by kernel_rfl, by kernel_rfl, by kernel_rfl, by kernel_rfl, .inl rfl⟩
theorem tok25 : TIOk Try.prog 25 ti25 := ⟨by kernel_rfl, by kernel_rfl, by kernel_rfl, by kernel_rfl, by kernel_rfl, .inl rfl⟩
theorem tok26 : TIOk Try.prog 26 ti26 := ⟨by kernel_rfl, by kernel_rfl, by kernel_rfl, by kernel_rfl, by kernel_rfl, .inl rfl⟩
theorem tok27 : TIOk Try.prog 27 ti27 := ⟨by kernel_rfl, by kernel_rfl, by kernel_rfl, by kernel_rfl, by kernel_rfl, .inl rfl⟩
theorem tok28 : TIOk Try.prog 28 ti28 := ⟨by kernel_rfl, by kernel_rfl, by kernel_rfl, by kernel_rfl, by kernel_rfl, .inr ⟨by kernel_rfl, by kernel_rfl⟩⟩
theorem tok29 : TIOk Try.prog 29 ti29 := ⟨by kernel_rfl, by kernel_rfl, by kernel_rfl, by kernel_rfl, by kernel_rfl, .inr ⟨by kernel_rfl, by kernel_rfl⟩⟩
theorem tok30 : TIOk Try.prog 30 ti30 := ⟨by kernel_rfl, by kernel_rfl, by kernel_rfl, by kernel_rfl, by kernel_rfl, .inl rfl⟩
theorem tok31 : TIOk Try.prog 31 ti31 := ⟨by kernel_rfl, by kernel_rfl, by kernel_rfl, by kernel_rfl, by kernel_rfl, .inl rfl⟩
theorem tok32 : TIOk Try.prog 32 ti32 := ⟨by kernel_rfl, by kernel_rfl, by kernel_rfl, by kernel_rfl, by kernel_rfl, .inl rfl⟩
theorem tok33 : TIOk Try.prog 33 ti33 := ⟨by kernel_rfl, by kernel_rfl, by kernel_rfl, by kernel_rfl, by kernel_rfl, .inl rfl⟩
theorem tok34 : TIOk Try.prog 34 ti34 := ⟨by kernel_rfl, by kernel_rfl, by kernel_rfl, by kernel_rfl, by kernel_rfl, .inl rfl⟩
theorem tok35 : TIOk Try.prog 35 ti35 := ⟨by kernel_rfl, by kernel_rfl, by kernel_rfl, by kernel_rfl, by kernel_rfl, .inl rfl⟩
theorem tok36 : TIOk Try.prog 36 ti36 := ⟨by kernel_rfl, by kernel_rfl, by kernel_rfl, by kernel_rfl, by kernel_rfl, .inl rfl⟩
theorem tok37 : TIOk Try.prog 37 ti37 := ⟨by kernel_rfl, by kernel_rfl, by kernel_rfl, by kernel_rfl, by kernel_rfl, .inl rfl⟩
theorem tok38 : TIOk Try.prog 38 ti38 := ⟨by kernel_rfl, by kernel_rfl, by kernel_rfl, by kernel_rfl, by kernel_rfl, .inl rfl⟩
theorem tok39 : TIOk Try.prog 39 ti39 := ⟨by kernel_rfl, by kernel_rfl, by kernel_rfl, by kernel_rfl, by kernel_rfl, .inr ⟨by kernel_rfl, by kernel_rfl⟩⟩
theorem tok40 : TIOk Try.prog 40 ti40 := ⟨by kernel_rfl, by kernel_rfl, by kernel_rfl, by kernel_rfl, by kernel_rfl, .inr ⟨by kernel_rfl, by kernel_rfl⟩⟩
theorem tok42 : TIOk Try.prog 42 ti42 := ⟨by kernel_rfl, by kernel_rfl, by kernel_rfl, by kernel_rfl, by kernel_rfl, .inl rfl⟩
theorem tok43 : TIOk Try.prog 43 ti43 := ⟨by kernel_rfl, by kernel_rfl, by kernel_rfl, by kernel_rfl, by kernel_rfl, .inl rfl⟩
theorem tok44 : TIOk Try.prog 44 ti44 := ⟨by kernel_rfl, by kernel_rfl, by kernel_rfl, by kernel_rfl, by kernel_rfl, .inl rfl⟩
theorem tok45 : TIOk Try.prog 45 ti45 := ⟨by kernel_rfl, by kernel_rfl, by kernel_rfl, by kernel_rfl, by kernel_rfl, .inr ⟨by kernel_rfl, by kernel_rfl⟩⟩
theorem tok47 : TIOk Try.prog 47 ti47 := ⟨by kernel_rfl, by kernel_rfl, by kernel_rfl, by kernel_rfl, by kernel_rfl, .inl rfl⟩
theorem tok48 : TIOk Try.prog 48 ti48 := ⟨by kernel_rfl, by kernel_rfl, by kernel_rfl, by kernel_rfl, by kernel_rfl, .inl rfl⟩
theorem tok49 : TIOk Try.prog 49 ti49 := ⟨by kernel_rfl, by kernel_rfl, by kernel_rfl, by kernel_rfl, by kernel_rfl, .inl rfl⟩
theorem tok51 : TIOk Try.prog 51 ti51 := ⟨by kernel_rfl, by kernel_rfl, by kernel_rfl, by kernel_rfl, by kernel_rfl, .inl rfl⟩
theorem tok52 : TIOk Try.prog 52 ti52 := ⟨by kernel_rfl, by kernel_rfl, by kernel_rfl, by kernel_rfl, by kernel_rfl, .inl rfl⟩
theorem tok53 : TIOk Try.prog 53 ti53 := ⟨by kernel_rfl, by kernel_rfl, by kernel_rfl, by kernel_rfl, by kernel_rfl, .inl rfl⟩
theorem tok54 : TIOk Try.prog 54 ti54 := ⟨by kernel_rfl, by kernel_rfl, by kernel_rfl, by kernel_rfl, by kernel_rfl, .inl rfl⟩
theorem tok55 : TIOk Try.prog 55 ti55 := ⟨by kernel_rfl, by kernel_rfl, by kernel_rfl, by kernel_rfl, by kernel_rfl, .inl rfl⟩
theorem tok56 : TIOk Try.prog 56 ti56 := ⟨by kernel_rfl, by kernel_rfl, by kernel_rfl, by kernel_rfl, by kernel_rfl, .inl rfl⟩
theorem tok57 : TIOk Try.prog 57 ti57 := ⟨by kernel_rfl, by kernel_rfl, by kernel_rfl, by kernel_rfl, by kernel_rfl, .inl rfl⟩
theorem tok58 : TIOk Try.prog 58 ti58 := ⟨by kernel_rfl, by kernel_rfl, by kernel_rfl, by kernel_rfl, by kernel_rfl, .inl rfl⟩
theorem tok59 : TIOk Try.prog 59 ti59 := ⟨by kernel_rfl, by kernel_rfl, by kernel_rfl, by kernel_rfl, by kernel_rfl, .inr ⟨by kernel_rfl, by kernel_rfl⟩⟩
theorem tok60 : TIOk Try.prog 60 ti60 := ⟨by kernel_rfl, by kernel_rfl, by kernel_rfl, by kernel_rfl, by kernel_rfl, .inl rfl⟩
theorem tok61 : TIOk Try.prog 61 ti61 := ⟨by kernel_rfl, by kernel_rfl, by kernel_rfl, by kernel_rfl, by kernel_rfl, .inl rfl⟩
theorem tok62 : TIOk Try.prog 62 ti62 := ⟨by kernel_rfl, by kernel_rfl, by kernel_rfl, by kernel_rfl, by kernel_rfl, .inl rfl⟩
theorem tok63 : TIOk Try.prog 63 ti63 := ⟨by kernel_rfl, by kernel_rfl, by kernel_rfl, by kernel_rfl, by kernel_rfl, .inl rfl⟩
theorem tok64 : TIOk Try.prog 64 ti64 := ⟨by kernel_rfl, by kernel_rfl, by kernel_rfl, by kernel_rfl, by kernel_rfl, .inl rfl⟩
theorem tok65 : TIOk Try.prog 65 ti65 := ⟨by kernel_rfl, by kernel_rfl, by kernel_rfl, by kernel_rfl, by kernel_rfl, .inl rfl⟩
theorem tok66 : TIOk Try.prog 66 ti66 := ⟨by kernel_rfl, by kernel_rfl, by kernel_rfl, by kernel_rfl, by kernel_rfl, .inl rfl⟩
theorem tok67 : TIOk Try.prog 67 ti67 := ⟨by kernel_rfl, by kernel_rfl, by kernel_rfl, by kernel_rfl, by kernel_rfl, .inl rfl⟩
theorem tok68 : TIOk Try.prog 68 ti68 := ⟨by kernel_rfl, by kernel_rfl, by kernel_rfl, by kernel_rfl, by kernel_rfl, .inl rfl⟩
theorem tok69 : TIOk Try.prog 69 ti69 := ⟨by kernel_rfl, by kernel_rfl, by kernel_rfl, by kernel_rfl, by kernel_rfl, .inl rfl⟩
theorem tok71 : TIOk Try.prog 71 ti71 := ⟨by kernel_rfl, by kernel_rfl, by kernel_rfl, by kernel_rfl, by kernel_rfl, .inl rfl⟩
theorem tok72 : TIOk Try.prog 72 ti72 := ⟨by kernel_rfl, by kernel_rfl, by kernel_rfl, by kernel_rfl, by kernel_rfl, .inl rfl⟩
theorem tok73 : TIOk Try.prog 73 ti73 := ⟨by kernel_rfl, by kernel_rfl, by kernel_rfl, by kernel_rfl, by kernel_rfl, .inl rfl⟩
theorem tok74 : TIOk Try.prog 74 ti74 := ⟨by kernel_rfl, by kernel_rfl, by kernel_rfl, by kernel_rfl, by kernel_rfl, .inl rfl⟩
theorem tok75 : TIOk Try.prog 75 ti75 := ⟨by kernel_rfl, by kernel_rfl, by kernel_rfl, by kernel_rfl, by kernel_rfl, .inl rfl⟩
theorem tok76 : TIOk Try.prog 76 ti76 := ⟨by kernel_rfl, by kernel_rfl, by kernel_rfl, by kernel_rfl, by kernel_rfl, .inl rfl⟩
theorem tok77 : TIOk Try.prog 77 ti77 := ⟨by kernel_rfl, by kernel_rfl, by kernel_rfl, by kernel_rfl, by kernel_rfl, .inl rfl⟩
theorem tok78 : TIOk Try.prog 78 ti78 := ⟨by kernel_rfl, by kernel_rfl, by kernel_rfl, by kernel_rfl, by kernel_rfl, .inl rfl⟩
theorem tok79 : TIOk Try.prog 79 ti79 := ⟨by kernel_rfl, by kernel_rfl, by kernel_rfl, by kernel_rfl, by kernel_rfl, .inl rfl⟩
theorem tok80 : TIOk Try.prog 80 ti80 := ⟨by kernel_rfl, by kernel_rfl, by kernel_rfl, by kernel_rfl, by kernel_rfl, .inl rfl⟩
theorem tok81 : TIOk Try.prog 81 ti81 := ⟨by kernel_rfl, by kernel_rfl, by kernel_rfl, by kernel_rfl, by kernel_rfl, .inl rfl⟩
theorem tok82 : TIOk Try.prog 82 ti82 := ⟨by kernel_rfl, by kernel_rfl, by kernel_rfl, by kernel_rfl, by kernel_rfl, .inl rfl⟩
theorem tok83 : TIOk Try.prog 83 ti83 := ⟨by kernel_rfl, by kernel_rfl, by kernel_rfl, by kernel_rfl, by kernel_rfl, .inl rfl⟩
theorem tok84 : TIOk Try.prog 84 ti84 := ⟨by kernel_rfl, by kernel_rfl, by kernel_rfl, by kernel_rfl, by kernel_rfl, .inl rfl⟩
theorem tok85 : TIOk Try.prog 85 ti85 := ⟨by kernel_rfl, by kernel_rfl, by kernel_rfl, by kernel_rfl, by kernel_rfl, .inl rfl⟩
theorem tok86 : TIOk Try.prog 86 ti86 := ⟨by kernel_rfl, by kernel_rfl, by kernel_rfl, by kernel_rfl, by kernel_rfl, .inl rfl⟩
theorem tok87 : TIOk Try.prog 87 ti87 := ⟨by kernel_rfl, by kernel_rfl, by kernel_rfl, by kernel_rfl, by kernel_rfl, .inl rfl⟩
theorem tok89 : TIOk Try.prog 89 ti89 := ⟨by kernel_rfl, by kernel_rfl, by kernel_rfl, by kernel_rfl, by kernel_rfl, .inl rfl⟩
theorem tok90 : TIOk Try.prog 90 ti90 := ⟨by kernel_rfl, by kernel_rfl, by kernel_rfl, by kernel_rfl, by kernel_rfl, .inl rfl⟩
theorem tok91 : TIOk Try.prog 91 ti91 := ⟨by kernel_rfl, by kernel_rfl, by kernel_rfl, by kernel_rfl, by kernel_rfl, .inl rfl⟩
theorem tok92 : TIOk Try.prog 92 ti92 := ⟨by kernel_rfl, by kernel_rfl, by kernel_rfl, by kernel_rfl, by kernel_rfl, .inl rfl⟩
theorem tok93 : TIOk Try.prog 93 ti93 := ⟨by kernel_rfl, by kernel_rfl, by kernel_rfl, by kernel_rfl, by kernel_rfl, .inl rfl⟩
theorem tok94 : TIOk Try.prog 94 ti94 := ⟨by kernel_rfl, by kernel_rfl, by kernel_rfl, by kernel_rfl, by kernel_rfl, .inl rfl⟩
theorem tok95 : TIOk Try.prog 95 ti95 := ⟨by kernel_rfl, by kernel_rfl, by kernel_rfl, by kernel_rfl, by kernel_rfl, .inl rfl⟩
theorem tok96 : TIOk Try.prog 96 ti96 := ⟨by kernel_rfl, by kernel_rfl, by kernel_rfl, by kernel_rfl, by kernel_rfl, .inl rfl⟩
theorem tok97 : TIOk Try.prog 97 ti97 := ⟨by kernel_rfl, by kernel_rfl, by kernel_rfl, by kernel_rfl, by kernel_rfl, .inl rfl⟩
theorem tok98 : TIOk Try.prog 98 ti98 := ⟨by kernel_rfl, by kernel_rfl, by kernel_rfl, by kernel_rfl, by kernel_rfl, .inl rfl⟩
theorem tok99 : TIOk Try.prog 99 ti99 := ⟨by kernel_rfl, by kernel_rfl, by kernel_rfl, by kernel_rfl, by kernel_rfl, .inl rfl⟩
theorem tok100 : TIOk Try.prog 100 ti100 := ⟨by kernel_rfl, by kernel_rfl, by kernel_rfl, by kernel_rfl, by kernel_rfl, .inl rfl⟩
theorem tok101 : TIOk Try.prog 101 ti101 := ⟨by kernel_rfl, by kernel_rfl, by kernel_rfl, by kernel_rfl, by kernel_rfl, .inl rfl⟩
theorem tok102 : TIOk Try.prog 102 ti102 := ⟨by kernel_rfl, by kernel_rfl, by kernel_rfl, by kernel_rfl, by kernel_rfl, .inl rfl⟩
theorem tok103 : TIOk Try.prog 103 ti103 := ⟨by kernel_rfl, by kernel_rfl, by kernel_rfl, by kernel_rfl, by kernel_rfl, .inl rfl⟩
theorem tok104 : TIOk Try.prog 104 ti104 := ⟨by kernel_rfl, by kernel_rfl, by kernel_rfl, by kernel_rfl, by kernel_rfl, .inl rfl⟩
theorem tiTab_ok : tiTab.Every (TIOk Try.prog) := ⟨tok54, ⟨tok26, ⟨tok13, ⟨tok7, ⟨tok4, ⟨tok2, ⟨tok1, trivial, trivial⟩, ⟨tok3, trivial, trivial⟩⟩, ⟨tok6, ⟨tok5, trivial, trivial⟩, trivial⟩⟩, ⟨tok10, ⟨tok9, ⟨tok8, trivial, trivial⟩, trivial⟩, ⟨tok12, ⟨tok11, trivial, trivial⟩, trivial⟩⟩⟩, ⟨tok19, ⟨tok16, ⟨tok15, ⟨tok14, trivial, trivial⟩, trivial⟩, ⟨tok18, ⟨tok17, trivial, trivial⟩, trivial⟩⟩, ⟨tok23, ⟨tok22, ⟨tok21, trivial, trivial⟩, trivial⟩, ⟨tok25, ⟨tok24, trivial, trivial⟩, trivial⟩⟩⟩⟩, ⟨tok39, ⟨tok33, ⟨tok30, ⟨tok28, ⟨tok27, trivial, trivial⟩, ⟨tok29, trivial, trivial⟩⟩, ⟨tok32, ⟨tok31, trivial, trivial⟩, trivial⟩⟩, ⟨tok36, ⟨tok35, ⟨tok34, trivial, trivial⟩, trivial⟩, ⟨tok38, ⟨tok37, trivial, trivial⟩, trivial⟩⟩⟩, ⟨tok47, ⟨tok43, ⟨tok42, ⟨tok40, trivial, trivial⟩, trivial⟩, ⟨tok45, ⟨tok44, trivial, trivial⟩, trivial⟩⟩, ⟨tok51, ⟨tok49, ⟨tok48, trivial, trivial⟩, trivial⟩, ⟨tok53, ⟨tok52, trivial, trivial⟩, trivial⟩⟩⟩⟩⟩, ⟨tok80, ⟨tok67, ⟨tok61, ⟨tok58, ⟨tok56, ⟨tok55, trivial, trivial⟩, ⟨tok57, trivial, trivial⟩⟩, ⟨tok60, ⟨tok59, trivial, trivial⟩, trivial⟩⟩, ⟨tok64, ⟨tok63, ⟨tok62, trivial, trivial⟩, trivial⟩, ⟨tok66, ⟨tok65, trivial, trivial⟩, trivial⟩⟩⟩, ⟨tok74, ⟨tok71, ⟨tok69, ⟨tok68, trivial, trivial⟩, trivial⟩, ⟨tok73, ⟨tok72, trivial, trivial⟩, trivial⟩⟩, ⟨tok77, ⟨tok76, ⟨tok75, trivial, trivial⟩, trivial⟩, ⟨tok79, ⟨tok78, trivial, trivial⟩, trivial⟩⟩⟩⟩, ⟨tok93, ⟨tok86, ⟨tok83, ⟨tok82, ⟨tok81, trivial, trivial⟩, trivial⟩, ⟨tok85, ⟨tok84, trivial, trivial⟩, trivial⟩⟩, ⟨tok90, ⟨tok89, ⟨tok87, trivial, trivial⟩, trivial⟩, ⟨tok92, ⟨tok91, trivial, trivial⟩, trivial⟩⟩⟩, ⟨tok99, ⟨tok96, ⟨tok95, ⟨tok94, trivial, trivial⟩, trivial⟩, ⟨tok98, ⟨tok97, trivial, trivial⟩, trivial⟩⟩, ⟨tok102, ⟨tok101, ⟨tok100, trivial, trivial⟩, trivial⟩, ⟨tok104, ⟨tok103, trivial, trivial⟩, trivial⟩⟩⟩⟩⟩⟩
def FnOk (f : Nat) (fn : Func) : Prop := Try.prog.funcs[f]? = some fn ∧ fn.body.isSome = true ∧ (fn.name == "runtime.NumGoroutine") = false
theorem fok3 : FnOk 3 Try.f3 := ⟨Try.func3, by kernel_rfl, by kernel_rfl⟩
theorem fok4 : FnOk 4 Try.f4 := ⟨Try.func4, by kernel_rfl, by kernel_rfl⟩
theorem fok5 : FnOk 5 Try.f5 := ⟨Try.func5, by kernel_rfl, by kernel_rfl⟩
theorem fok6 : FnOk 6 Try.f6 := ⟨Try.func6, by kernel_rfl, by kernel_rfl⟩
theorem fok7 : FnOk 7 Try.f7 := ⟨Try.func7, by kernel_rfl, by kernel_rfl⟩
theorem fok8 : FnOk 8 Try.f8 := ⟨Try.func8, by kernel_rfl, by kernel_rfl⟩
theorem fok9 : FnOk 9 Try.f9 := ⟨Try.func9, by kernel_rfl, by kernel_rfl⟩
theorem fok10 : FnOk 10 Try.f10 := ⟨Try.func10, by kernel_rfl, by kernel_rfl⟩
theorem fok11 : FnOk 11 Try.f11 := ⟨Try.func11, by kernel_rfl, by kernel_rfl⟩
theorem fok12 : FnOk 12 Try.f12 := ⟨Try.func12, by kernel_rfl, by kernel_rfl⟩
theorem fok13 : FnOk 13 Try.f13 := ⟨Try.func13, by kernel_rfl, by kernel_rfl⟩
theorem fok14 : FnOk 14 Try.f14 := ⟨Try.func14, by kernel_rfl, by kernel_rfl⟩
theorem fok15 : FnOk 15 Try.f15 := ⟨Try.func15, by kernel_rfl, by kernel_rfl⟩
theorem fok16 : FnOk 16 Try.f16 := ⟨Try.func16, by kernel_rfl, by kernel_rfl⟩
theorem fok17 : FnOk 17 Try.f17 := ⟨Try.func17, by kernel_rfl, by kernel_rfl⟩
theorem fok18 : FnOk 18 Try.f18 := ⟨Try.func18, by kernel_rfl, by kernel_rfl⟩
theorem fok19 : FnOk 19 Try.f19 := ⟨Try.func19, by kernel_rfl, by kernel_rfl⟩
theorem fok20 : FnOk 20 Try.f20 := ⟨Try.func20, by kernel_rfl, by kernel_rfl⟩
theorem fok21 : FnOk 21 Try.f21 := ⟨Try.func21, by kernel_rfl, by kernel_rfl⟩
theorem fok22 : FnOk 22 Try.f22 := ⟨Try.func22, by kernel_rfl, by kernel_rfl⟩
theorem fok23 : FnOk 23 Try.f23 := ⟨Try.func23, by kernel_rfl, by kernel_rfl⟩
theorem fok24 : FnOk 24 Try.f24 := ⟨Try.func24, by kernel_rfl, by kernel_rfl⟩
theorem fok25 : FnOk 25 Try.f25 := ⟨Try.func25, by kernel_rfl, by kernel_rfl⟩
theorem fok26 : FnOk 26 Try.f26 := ⟨Try.func26, by kernel_rfl, by kernel_rfl⟩
theorem fok27 : FnOk 27 Try.f27 := ⟨Try.func27, by kernel_rfl, by kernel_rfl⟩
theorem fok28 : FnOk 28 Try.f28 := ⟨Try.func28, by kernel_rfl, by kernel_rfl⟩
theorem fok29 : FnOk 29 Try.f29 := ⟨Try.func29, by kernel_rfl, by kernel_rfl⟩
theorem fok30 : FnOk 30 Try.f30 := ⟨Try.func30, by kernel_rfl, by kernel_rfl⟩
theorem fok31 : FnOk 31 Try.f31 := ⟨Try.func31, by kernel_rfl, by kernel_rfl⟩
theorem fok32 : FnOk 32 Try.f32 := ⟨Try.func32, by kernel_rfl, by kernel_rfl⟩
theorem fok33 : FnOk 33 Try.f33 := ⟨Try.func33, by kernel_rfl, by kernel_rfl⟩
theorem fok34 : FnOk 34 Try.f34 := ⟨Try.func34, by kernel_rfl, by kernel_rfl⟩
theorem fok35 : FnOk 35 Try.f35 := ⟨Try.func35, by kernel_rfl, by kernel_rfl⟩
theorem fok36 : FnOk 36 Try.f36 := ⟨Try.func36, by kernel_rfl, by kernel_rfl⟩
theorem fok37 : FnOk 37 Try.f37 := ⟨Try.func37, by kernel_rfl, by kernel_rfl⟩
theorem fok38 : FnOk 38 Try.f38 := ⟨Try.func38, by kernel_rfl, by kernel_rfl⟩
theorem fok39 : FnOk 39 Try.f39 := ⟨Try.func39, by kernel_rfl, by kernel_rfl⟩
theorem fok40 : FnOk 40 Try.f40 := ⟨Try.func40, by kernel_rfl, by kernel_rfl⟩
theorem fok41 : FnOk 41 Try.f41 := ⟨Try.func41, by kernel_rfl, by kernel_rfl⟩
theorem fok42 : FnOk 42 Try.f42 := ⟨Try.func42, by kernel_rfl, by kernel_rfl⟩
theorem fok43 : FnOk 43 Try.f43 := ⟨Try.func43, by kernel_rfl, by kernel_rfl⟩
theorem fok44 : FnOk 44 Try.f44 := ⟨Try.func44, by kernel_rfl, by kernel_rfl⟩
theorem fok45 : FnOk 45 Try.f45 := ⟨Try.func45, by kernel_rfl, by kernel_rfl⟩
theorem fok46 : FnOk 46 Try.f46 := ⟨Try.func46, by kernel_rfl, by kernel_rfl⟩
theorem fok47 : FnOk 47 Try.f47 := ⟨Try.func47, by kernel_rfl, by kernel_rfl⟩
theorem fok48 : FnOk 48 Try.f48 := ⟨Try.func48, by kernel_rfl, by kernel_rfl⟩
theorem fok49 : FnOk 49 Try.f49 := ⟨Try.func49, by kernel_rfl, by kernel_rfl⟩
theorem fok50 : FnOk 50 Try.f50 := ⟨Try.func50, by kernel_rfl, by kernel_rfl⟩
theorem fok51 : FnOk 51 Try.f51 := ⟨Try.func51, by kernel_rfl, by kernel_rfl⟩
theorem fok52 : FnOk 52 Try.f52 := ⟨Try.func52, by kernel_rfl, by kernel_rfl⟩
theorem fok53 : FnOk 53 Try.f53 := ⟨Try.func53, by kernel_rfl, by kernel_rfl⟩
theorem fok54 : FnOk 54 Try.f54 := ⟨Try.func54, by kernel_rfl, by kernel_rfl⟩
theorem fok55 : FnOk 55 Try.f55 := ⟨Try.func55, by kernel_rfl, by kernel_rfl⟩
theorem fok56 : FnOk 56 Try.f56 := ⟨Try.func56, by kernel_rfl, by kernel_rfl⟩
theorem fok57 : FnOk 57 Try.f57 := ⟨Try.func57, by kernel_rfl, by kernel_rfl⟩
theorem fok58 : FnOk 58 Try.f58 := ⟨Try.func58, by kernel_rfl, by kernel_rfl⟩
theorem fok59 : FnOk 59 Try.f59 := ⟨Try.func59, by kernel_rfl, by kernel_rfl⟩
theorem fok60 : FnOk 60 Try.f60 := ⟨Try.func60, by kernel_rfl, by kernel_rfl⟩
theorem fok61 : FnOk 61 Try.f61 := ⟨Try.func61, by kernel_rfl, by kernel_rfl⟩
theorem fok62 : FnOk 62 Try.f62 := ⟨Try.func62, by kernel_rfl, by kernel_rfl⟩
theorem fok63 : FnOk 63 Try.f63 := ⟨Try.func63, by kernel_rfl, by kernel_rfl⟩
theorem fok64 : FnOk 64 Try.f64 := ⟨Try.func64, by kernel_rfl, by kernel_rfl⟩
theorem fok65 : FnOk 65 Try.f65 := ⟨Try.func65, by kernel_rfl, by kernel_rfl⟩
theorem fok66 : FnOk 66 Try.f66 := ⟨Try.func66, by kernel_rfl, by kernel_rfl⟩
theorem fok67 : FnOk 67 Try.f67 := ⟨Try.func67, by kernel_rfl, by kernel_rfl⟩
theorem fiTab_ok : fiTab.Every FnOk := ⟨fok35, ⟨fok19, ⟨fok11, ⟨fok7, ⟨fok5, ⟨fok4, ⟨fok3, trivial, trivial⟩, trivial⟩, ⟨fok6, trivial, trivial⟩⟩, ⟨fok9, ⟨fok8, trivial, trivial⟩, ⟨fok10, trivial, trivial⟩⟩⟩, ⟨fok15, ⟨fok13, ⟨fok12, trivial, trivial⟩, ⟨fok14, trivial, trivial⟩⟩, ⟨fok17, ⟨fok16, trivial, trivial⟩, ⟨fok18, trivial, trivial⟩⟩⟩⟩, ⟨fok27, ⟨fok23, ⟨fok21, ⟨fok20, trivial, trivial⟩, ⟨fok22, trivial, trivial⟩⟩, ⟨fok25, ⟨fok24, trivial, trivial⟩, ⟨fok26, trivial, trivial⟩⟩⟩, ⟨fok31, ⟨fok29, ⟨fok28, trivial, trivial⟩, ⟨fok30, trivial, trivial⟩⟩, ⟨fok33, ⟨fok32, trivial, trivial⟩, ⟨fok34, trivial, trivial⟩⟩⟩⟩⟩, ⟨fok52, ⟨fok44, ⟨fok40, ⟨fok38, ⟨fok37, ⟨fok36, trivial, trivial⟩, trivial⟩, ⟨fok39, trivial, trivial⟩⟩, ⟨fok42, ⟨fok41, trivial, trivial⟩, ⟨fok43, trivial, trivial⟩⟩⟩, ⟨fok48, ⟨fok46, ⟨fok45, trivial, trivial⟩, ⟨fok47, trivial, trivial⟩⟩, ⟨fok50, ⟨fok49, trivial, trivial⟩, ⟨fok51, trivial, trivial⟩⟩⟩⟩, ⟨fok60, ⟨fok56, ⟨fok54, ⟨fok53, trivial, trivial⟩, ⟨fok55, trivial, trivial⟩⟩, ⟨fok58, ⟨fok57, trivial, trivial⟩, ⟨fok59, trivial, trivial⟩⟩⟩, ⟨fok64, ⟨fok62, ⟨fok61, trivial, trivial⟩, ⟨fok63, trivial, trivial⟩⟩, ⟨fok66, ⟨fok65, trivial, trivial⟩, ⟨fok67, trivial, trivial⟩⟩⟩⟩⟩⟩
theorem GC_ok : CtxOk Try.prog GC := ⟨fun _ _ h => tiTab_ok.get h, fun _ _ h => fiTab_ok.get h, by kernel_rfl⟩
theorem GS_ok : CtxOk Try.prog GS := ⟨fun _ _ h => tiTab_ok.get h, fun _ _ h => fiTab_ok.get h, by kernel_rfl⟩
end Go.Proofs.Ytggneleipimijaa.En
/- What the smallest functions come to: Pick, Num, May, Entry, the order of entries. -/
namespace Go.Proofs.Ytggneleipimijaa.En
open Go
set_option linter.unusedVariables false
set_option linter.unusedSimpArgs false
set_option maxRecDepth 20000
set_option maxHeartbeats 1000000
noncomputable def ss0 : List (Nat × SumF) := []
noncomputable def ll0 : List (Nat × Nat × LoopF) := []
theorem ss0_ok : ∀ x ∈ ss0, SumOk Try.prog x.1 x.2 := fun x h => absurd h List.not_mem_nil
theorem ll0_ok : ∀ x ∈ ll0, LoopOk Try.prog x.2.2 := fun x h => absurd h List.not_mem_nil
theorem pick_eq (n m : Int) (h : 0 < m) : n % m = if n.tmod m < 0 then n.tmod m + m else n.tmod m := by
  have h1 := Int.emod_nonneg n (by omega : m ≠ 0)
  have h2 := Int.emod_lt_of_pos n h
  rw [Int.tmod_eq_emod]
  split <;> split <;> omega
def cmpI (a b : Int) : Int := if a < b then -1 else if b < a then 1 else 0
def orI (a b c d e : Int) : Int := if a ≠ 0 then a else if b ≠ 0 then b else if c ≠ 0 then c else if d ≠ 0 then d else if e ≠ 0 then e else 0

noncomputable def GPA1 : Ctx := GS.with ss0 ll0
noncomputable def tgt_Pick (n m : Int) : T CallOut := evCallW [] GPA1 300 12 [AI n, AI m] [] 0
noncomputable def tgt_Compare (a b : Int) : T CallOut := evCallW [] GPA1 300 34 [AI a, AI b] [] 0
theorem GKPA1 : KnownOk Try.prog GPA1 := KnownOk.lists ss0_ok ll0_ok
theorem GOPA1 : CtxOk Try.prog GPA1 := GS_ok.with _ _
theorem tree_Pick (n m : Int) : (tgt_Pick n m).over (.br .skip (.br .leaf .leaf)) = T.br (decide (m = (0 : Int))) T.bad (T.br (decide (Int.tmod n m < (0 : Int))) (T.ret (out0 (SV.v (AI (IntKind.wrap IntKind.i64 (Int.tmod n m + m)))))) (T.ret (out0 (SV.v (AI (Int.tmod n m)))))) := by kernel_rfl
theorem res_Pick (n m : Int) (h : 0 < m ∧ m ≤ 9223372036854775807) : (tgt_Pick n m).res = some (out0 (.v (AI (n % m)))) := by
  refine T.over_eq _ (tree_Pick n m) ?_
  simp only [T.res_br, T.res_ret, T.res_bad]
  have h0 : decide (m = 0) = false := by simp; omega
  have h1 := Int.tmod_lt_of_pos n h.1
  have h2 : -m < n.tmod m := by have := Int.lt_tmod_of_pos n h.1; omega
  rw [h0, pick_eq n m h.1]
  simp only [Bool.false_eq_true, if_false, decide_eq_true_eq]
  split
  · rw [wrapI (by omega)]
  · rfl
noncomputable def F_Pick : SumF
  | [.one (.f (.lit (.int .i64 n))), .one (.f (.lit (.int .i64 m)))], [], 0 => .need (decide (0 < m ∧ m ≤ 9223372036854775807)) (.ret (out0 (.v (AI (n % m)))))
  | _, _, _ => .bad
theorem sum_Pick : SumOk Try.prog 12 F_Pick := by
  refine ⟨fun args H nx r hr => ?_, fun args H nx => ?_⟩
  · unfold F_Pick at hr
    split at hr
    · obtain ⟨h, hr⟩ := T.need_some hr
      have := T.ret_some hr
      subst this
      exact evCallW_ok GOPA1 GKPA1 (res_Pick _ _ (of_decide_eq_true h))
    · exact (T.bad_some hr).elim
  · unfold F_Pick
    split
    · exact T.Every.need ⟨Nat.zero_le _, fun b hb hw => absurd hb (Nat.not_lt_zero b)⟩
    · trivial
noncomputable def sm_Pick : SumF := canonSum F_Pick
theorem sm_Pick_ok : SumOk Try.prog 12 sm_Pick := canonSum_ok sum_Pick
noncomputable def ss_Pick : List (Nat × SumF) := (12, sm_Pick) :: ss0
theorem ss_Pick_ok : ∀ x ∈ ss_Pick, SumOk Try.prog x.1 x.2 := List.forall_mem_cons.2 ⟨sm_Pick_ok, ss0_ok⟩
theorem tree_Compare (a b : Int) : (tgt_Compare a b).over (.br (.br .leaf .leaf) (.br .leaf (.br .leaf (.br .leaf .leaf)))) = T.br (a != a) (T.br (b != b) (T.ret (out0 (SV.v (AI (0 : Int))))) (T.ret (out0 (SV.v (AI (-1 : Int)))))) (T.br (b != b) (T.ret (out0 (SV.v (AI (1 : Int))))) (T.br (decide (a < b)) (T.ret (out0 (SV.v (AI (-1 : Int))))) (T.br (decide (a > b)) (T.ret (out0 (SV.v (AI (1 : Int))))) (T.ret (out0 (SV.v (AI (0 : Int)))))))) := by kernel_rfl
theorem res_Compare (a b : Int) : (tgt_Compare a b).res = some (out0 (.v (AI (cmpI a b)))) := by
  refine T.over_eq _ (tree_Compare a b) ?_
  simp only [T.res_br, T.res_ret, T.res_bad]
  simp only [cmpI, bne_self_eq_false, Bool.false_eq_true, if_false, decide_eq_true_eq, gt_iff_lt]
  repeat' split
  all_goals rfl
noncomputable def F_Compare : SumF
  | [.one (.f (.lit (.int .i64 a))), .one (.f (.lit (.int .i64 b)))], [], 0 => .ret (out0 (.v (AI (cmpI a b))))
  | _, _, _ => .bad
theorem sum_Compare : SumOk Try.prog 34 F_Compare := by
  refine ⟨fun args H nx r hr => ?_, fun args H nx => ?_⟩
  · unfold F_Compare at hr
    split at hr
    · have := T.ret_some hr
      subst this
      exact evCallW_ok GOPA1 GKPA1 (res_Compare _ _)
    · exact (T.bad_some hr).elim
  · unfold F_Compare
    split
    · exact ⟨Nat.zero_le _, fun b hb hw => absurd hb (Nat.not_lt_zero b)⟩
    · trivial
noncomputable def sm_Compare : SumF := canonSum F_Compare
theorem sm_Compare_ok : SumOk Try.prog 34 sm_Compare := canonSum_ok sum_Compare
noncomputable def ss_Compare : List (Nat × SumF) := (34, sm_Compare) :: ss_Pick
theorem ss_Compare_ok : ∀ x ∈ ss_Compare, SumOk Try.prog x.1 x.2 := List.forall_mem_cons.2 ⟨sm_Compare_ok, ss_Pick_ok⟩
structure Ent where
  inc : Int
  st : Int
  stamp : Int
  load : Int
  dr : Bool
abbrev Ent.cv (a : Ent) : List CV := [I a.inc, I a.st, I a.stamp, I a.load, Bo a.dr]
abbrev Ent.fs (a : Ent) : List FV := [.lit (.int .i64 a.inc), .lit (.int .i64 a.st), .lit (.int .i64 a.stamp), .lit (.int .i64 a.load), .lit (.bool a.dr)]
def compI (a b : Ent) : Int := orI (cmpI a.inc b.inc) (cmpI a.st b.st) (cmpI a.stamp b.stamp) (cmpI a.load b.load) (cmpI (cond a.dr 1 0) (cond b.dr 1 0))
def lessB (a b : Ent) : Bool := decide (compI a b < 0)

def numI (n : Int) : Int :=
  if n % 7 = 0 ∨ n % 7 = 1 ∨ n % 7 = 2 then IntKind.wrap IntKind.i64 (Int.tdiv n 7) % 40
  else if n % 7 = 3 then IntKind.wrap IntKind.i64 (IntKind.wrap IntKind.i64 (1 * 2 ^ min (Int.toNat (IntKind.wrap IntKind.u64 (IntKind.wrap IntKind.i64 (Int.tdiv n 7) % 63))) 64) - IntKind.wrap IntKind.i64 (Int.tdiv n 441) % 3)
  else if n % 7 = 4 then IntKind.wrap IntKind.i64 (4611686018427387903 - IntKind.wrap IntKind.i64 (Int.tdiv n 7) % 3)
  else if n % 7 = 5 then IntKind.wrap IntKind.i64 (Int.tdiv n 7) % 1000 else n
theorem wrap_u64_pos (n : Int) : ¬ IntKind.wrap IntKind.u64 n < 0 := by simp only [IntKind.wrap, IntKind.bits, IntKind.signed]; simp; omega
def mayI (n : Int) : Int := max 0 (min (numI n) 4611686018427387903)

noncomputable def GPA2 : Ctx := GS.with ss_Compare ll0
noncomputable def tgt_Num (n : Int) : T CallOut := evCallW [] GPA2 300 59 [AI n] [] 0
theorem GKPA2 : KnownOk Try.prog GPA2 := KnownOk.lists ss_Compare_ok ll0_ok
theorem GOPA2 : CtxOk Try.prog GPA2 := GS_ok.with _ _
theorem tree_Num (n : Int) : (tgt_Num n).over (.tt (.br (.tt (.ff (.tt .leaf))) (.br (.tt (.ff (.tt .leaf))) (.br (.ff (.tt .leaf)) (.br (.ff (.tt (.br .skip (.ff (.tt .leaf))))) (.br (.ff (.tt .leaf)) (.br (.ff (.tt .leaf)) .leaf))))))) = T.br (n % (7 : Int) == (0 : Int)) (T.ret (out0 (SV.v (AI (IntKind.wrap IntKind.i64 (Int.tdiv n (7 : Int)) % (40 : Int)))))) (T.br (n % (7 : Int) == (1 : Int)) (T.ret (out0 (SV.v (AI (IntKind.wrap IntKind.i64 (Int.tdiv n (7 : Int)) % (40 : Int)))))) (T.br (n % (7 : Int) == (2 : Int)) (T.ret (out0 (SV.v (AI (IntKind.wrap IntKind.i64 (Int.tdiv n (7 : Int)) % (40 : Int)))))) (T.br (n % (7 : Int) == (3 : Int)) (T.br (decide (IntKind.wrap IntKind.u64 (IntKind.wrap IntKind.i64 (Int.tdiv n (7 : Int)) % (63 : Int)) < (0 : Int))) T.bad (T.ret (out0 (SV.v (AI (IntKind.wrap IntKind.i64 (IntKind.wrap IntKind.i64 ((1 : Int) * (2 : Int) ^ min (Int.toNat (IntKind.wrap IntKind.u64 (IntKind.wrap IntKind.i64 (Int.tdiv n (7 : Int)) % (63 : Int)))) 64) - IntKind.wrap IntKind.i64 (Int.tdiv n (441 : Int)) % (3 : Int)))))))) (T.br (n % (7 : Int) == (4 : Int)) (T.ret (out0 (SV.v (AI (IntKind.wrap IntKind.i64 ((4611686018427387903 : Int) - IntKind.wrap IntKind.i64 (Int.tdiv n (7 : Int)) % (3 : Int))))))) (T.br (n % (7 : Int) == (5 : Int)) (T.ret (out0 (SV.v (AI (IntKind.wrap IntKind.i64 (Int.tdiv n (7 : Int)) % (1000 : Int)))))) (T.ret (out0 (SV.v (AI n))))))))) := by kernel_rfl
theorem res_Num (n : Int) : (tgt_Num n).res = some (out0 (.v (AI (numI n)))) := by
  refine T.over_eq _ (tree_Num n) ?_
  simp only [T.res_br, T.res_ret, T.res_bad]
  simp only [numI, beq_iff_eq, decide_eq_true_eq, wrap_u64_pos, if_false]
  repeat' split
  all_goals first | rfl | (exfalso; omega)
noncomputable def F_Num : SumF
  | [.one (.f (.lit (.int .i64 n)))], [], 0 => .ret (out0 (.v (AI (numI n))))
  | _, _, _ => .bad
theorem sum_Num : SumOk Try.prog 59 F_Num := by
  refine ⟨fun args H nx r hr => ?_, fun args H nx => ?_⟩
  · unfold F_Num at hr
    split at hr
    · have := T.ret_some hr
      subst this
      exact evCallW_ok GOPA2 GKPA2 (res_Num _)
    · exact (T.bad_some hr).elim
  · unfold F_Num
    split
    · exact ⟨Nat.zero_le _, fun b hb hw => absurd hb (Nat.not_lt_zero b)⟩
    · trivial
noncomputable def sm_Num : SumF := canonSum F_Num
theorem sm_Num_ok : SumOk Try.prog 59 sm_Num := canonSum_ok sum_Num
noncomputable def ss_Num : List (Nat × SumF) := (59, sm_Num) :: ss_Compare
theorem ss_Num_ok : ∀ x ∈ ss_Num, SumOk Try.prog x.1 x.2 := List.forall_mem_cons.2 ⟨sm_Num_ok, ss_Compare_ok⟩
theorem cmpI_ne {a b : Int} : cmpI a b ≠ 0 ↔ a ≠ b := by
  unfold cmpI
  repeat' split
  all_goals omega
theorem cmpI_lt {a b : Int} : cmpI a b < 0 ↔ a < b := by
  unfold cmpI
  repeat' split
  all_goals omega
theorem lessB_eq (a b : Ent) : lessB a b = if a.inc ≠ b.inc then decide (a.inc < b.inc) else if a.st ≠ b.st then decide (a.st < b.st) else if a.stamp ≠ b.stamp then decide (a.stamp < b.stamp) else if a.load ≠ b.load then decide (a.load < b.load) else !a.dr && b.dr := by
  obtain ⟨a1, a2, a3, a4, a5⟩ := a
  obtain ⟨b1, b2, b3, b4, b5⟩ := b
  simp only [lessB, compI, orI, cmpI_ne]
  by_cases h1 : a1 = b1 <;> by_cases h2 : a2 = b2 <;> by_cases h3 : a3 = b3 <;> by_cases h4 : a4 = b4 <;> simp only [h1, h2, h3, h4, ne_eq, not_true, not_false_eq_true, if_true, if_false, cmpI_lt]
  cases a5 <;> cases b5 <;> simp [cmpI]
def entR (a : Ent) : Ent := ⟨a.inc % 4, a.st % 3, if a.inc % 19 = 18 then mayI a.stamp else a.stamp % 5, a.load % 12, a.dr⟩

noncomputable def GPA3 : Ctx := GS.with ss_Num ll0
noncomputable def tgt_May (n : Int) : T CallOut := evCallW [] GPA3 300 46 [AI n] [] 0
theorem GKPA3 : KnownOk Try.prog GPA3 := KnownOk.lists ss_Num_ok ll0_ok
theorem GOPA3 : CtxOk Try.prog GPA3 := GS_ok.with _ _
theorem tree_May (n : Int) : (tgt_May n).over .leaf = T.ret (out0 (SV.v (AI (if (if (4611686018427387903 : Int) < numI n then (4611686018427387903 : Int) else numI n) > (0 : Int) then if (4611686018427387903 : Int) < numI n then (4611686018427387903 : Int) else numI n else (0 : Int))))) := by kernel_rfl
theorem res_May (n : Int) : (tgt_May n).res = some (out0 (.v (AI (mayI n)))) := by
  refine T.over_eq _ (tree_May n) ?_
  simp only [T.res_br, T.res_ret, T.res_bad]
  refine congrArg (fun x => some (out0 (SV.v (AI x)))) ?_
  simp only [mayI]
  repeat' split
  all_goals omega
noncomputable def F_May : SumF
  | [.one (.f (.lit (.int .i64 n)))], [], 0 => .ret (out0 (.v (AI (mayI n))))
  | _, _, _ => .bad
theorem sum_May : SumOk Try.prog 46 F_May := by
  refine ⟨fun args H nx r hr => ?_, fun args H nx => ?_⟩
  · unfold F_May at hr
    split at hr
    · have := T.ret_some hr
      subst this
      exact evCallW_ok GOPA3 GKPA3 (res_May _)
    · exact (T.bad_some hr).elim
  · unfold F_May
    split
    · exact ⟨Nat.zero_le _, fun b hb hw => absurd hb (Nat.not_lt_zero b)⟩
    · trivial
noncomputable def sm_May : SumF := canonSum F_May
theorem sm_May_ok : SumOk Try.prog 46 sm_May := canonSum_ok sum_May
noncomputable def ss_May : List (Nat × SumF) := (46, sm_May) :: ss_Num
theorem ss_May_ok : ∀ x ∈ ss_May, SumOk Try.prog x.1 x.2 := List.forall_mem_cons.2 ⟨sm_May_ok, ss_Num_ok⟩
noncomputable def GPA4 : Ctx := GS.with ss_May ll0
noncomputable def tgt_Entry (a : Ent) : T CallOut := evCallW [] GPA4 300 35 [.agg a.cv] [] 0
theorem GKPA4 : KnownOk Try.prog GPA4 := KnownOk.lists ss_May_ok ll0_ok
theorem GOPA4 : CtxOk Try.prog GPA4 := GS_ok.with _ _
theorem tree_Entry (a : Ent) : (tgt_Entry a).over (.tt (.tt (.tt (.tt (.tt (.br .leaf .leaf)))))) = T.br (Ent.inc a % (19 : Int) == (18 : Int)) (T.ret (out0 (SV.v (AV.agg [I (Ent.inc a % (4 : Int)), I (Ent.st a % (3 : Int)), I (mayI (Ent.stamp a)), I (Ent.load a % (12 : Int)), Bo (Ent.dr a)])))) (T.ret (out0 (SV.v (AV.agg [I (Ent.inc a % (4 : Int)), I (Ent.st a % (3 : Int)), I (Ent.stamp a % (5 : Int)), I (Ent.load a % (12 : Int)), Bo (Ent.dr a)])))) := by kernel_rfl
theorem res_Entry (a : Ent) : (tgt_Entry a).res = some (out0 (.v (.agg (entR a).cv))) := by
  refine T.over_eq _ (tree_Entry a) ?_
  simp only [T.res_br, T.res_ret, T.res_bad]
  simp only [beq_iff_eq]
  by_cases h : a.inc % 19 = 18 <;> simp only [h, entR, if_true, if_false]
noncomputable def F_Entry : SumF
  | [.agg [.f (.lit (.int .i64 a_0)), .f (.lit (.int .i64 a_1)), .f (.lit (.int .i64 a_2)), .f (.lit (.int .i64 a_3)), .f (.lit (.bool a_4))]], [], 0 => .ret (out0 (.v (.agg (entR (⟨a_0, a_1, a_2, a_3, a_4⟩ : Ent)).cv)))
  | _, _, _ => .bad
theorem sum_Entry : SumOk Try.prog 35 F_Entry := by
  refine ⟨fun args H nx r hr => ?_, fun args H nx => ?_⟩
  · unfold F_Entry at hr
    split at hr
    · rename_i a_0 a_1 a_2 a_3 a_4
      have := T.ret_some hr
      subst this
      exact evCallW_ok GOPA4 GKPA4 (res_Entry (⟨a_0, a_1, a_2, a_3, a_4⟩ : Ent))
    · exact (T.bad_some hr).elim
  · unfold F_Entry
    split
    · exact ⟨Nat.zero_le _, fun b hb hw => absurd hb (Nat.not_lt_zero b)⟩
    · trivial
noncomputable def sm_Entry : SumF := canonSum F_Entry
theorem sm_Entry_ok : SumOk Try.prog 35 sm_Entry := canonSum_ok sum_Entry
noncomputable def ss_Entry : List (Nat × SumF) := (35, sm_Entry) :: ss_May
theorem ss_Entry_ok : ∀ x ∈ ss_Entry, SumOk Try.prog x.1 x.2 := List.forall_mem_cons.2 ⟨sm_Entry_ok, ss_May_ok⟩
end Go.Proofs.Ytggneleipimijaa.En
/- The engine, part 35: patterns without numerals. -/
namespace Go.Proofs.Ytggneleipimijaa.En
open Go
set_option linter.unusedVariables false
set_option linter.unusedSimpArgs false

/-- the values under just these keys -/
def keyed {α : Type} : List Nat → List (Nat × α) → Option (List α)
  | [], [] => some []
  | k :: ks, (j, x) :: r => match Nat.beq j k with
    | true => match keyed ks r with
      | some l => some (x :: l)
      | none => none
    | false => none
  | _, _ => none

theorem keyed_eq {α : Type} : ∀ {ks : List Nat} {l : List (Nat × α)} {vs : List α}, keyed ks l = some vs → l = ks.zip vs
  | [], [], vs, h => by cases h; rfl
  | [], _ :: _, vs, h => by cases h
  | _ :: _, [], vs, h => by cases h
  | k :: ks, (j, x) :: r, vs, h => by
    simp only [keyed] at h
    split at h
    · rename_i hj
      split at h
      · rename_i l hl
        cases h
        have := Nat.eq_of_beq_eq_true hj
        subst this
        rw [keyed_eq hl]; rfl
      · cases h
    · cases h

theorem nbeq_iff {a b : Nat} : Nat.beq a b = true ↔ a = b := ⟨Nat.eq_of_beq_eq_true, fun h => h ▸ Nat.beq_refl a⟩

theorem pb_no {p : Prop} (h : pb p = false) : ¬ p := fun k => by rw [pb_true k] at h; cases h

/-- where a truth holds -/
def onlyB {α : Type} (b : Bool) (t : T α) : T α := match b with | true => t | false => .bad
theorem onlyB_some {α : Type} {b : Bool} {t : T α} {a : α} (h : (onlyB b t).res = some a) : b = true ∧ t.res = some a := by
  cases b with
  | true => exact ⟨rfl, h⟩
  | false => exact (T.bad_some h).elim
theorem onlyB_every {α : Type} {b : Bool} {t : T α} {p : α → Prop} (h : T.Every p t) : T.Every p (onlyB b t) := by
  cases b with
  | true => exact h
  | false => trivial

end Go.Proofs.Ytggneleipimijaa.En
/- The engine, part 36: rows that a call of the library's has put otherwise: what the kit's own contracts say, told of own blocks. -/
namespace Go.Proofs.Ytggneleipimijaa.En
open Go
set_option linter.unusedVariables false
set_option linter.unusedSimpArgs false

/-- as Post.write2, of a world behind that is told by its cells -/
theorem Post.row {f : Fn} {nx : Nat} {z : Z} {w w' : World} {H : Heap} {b : Nat} {o' : Ob} {vs : List CV} {us : List Value} {S : Nat → Prop} (hS : S b) (hr : Rel S f nx z w H)
    {B : Nat} (hl : (H.get b).live) (hnm : ¬ o'.isMap) (hroom : ∀ q, q < us.length → B + q < (f b).t)
    (hat : ∀ m' i' j' x, o'.at m' i' j' = some x → (∃ q, i' * m' + j' = B + q ∧ vs[q]? = some x) ∨ ((H.get b).at m' i' j' = some x ∧ ∀ q, q < us.length → i' * m' + j' ≠ B + q))
    (hcl : ∀ l, o' ≠ .cells l) (hu : RL f nx z vs us)
    (hfr : Fr (fun k => k = (f b).k) w w')
    (hin : ∀ q (hq : q < us.length), w'.cell? ⟨(f b).k, (f b).d + B + q, none⟩ = some us[q])
    (hout : ∀ p, (p < (f b).d + B ∨ (f b).d + B + us.length ≤ p) → w'.cell? ⟨(f b).k, p, none⟩ = w.cell? ⟨(f b).k, p, none⟩)
    (hfz : ∀ p, w'.frozen? ⟨(f b).k, p, none⟩ = w.frozen? ⟨(f b).k, p, none⟩) (hno : ∀ b, nx ≤ b → ¬ (H.get b).live) {esc : Bool} :
    Post S f nx z w H f nx z w' (H.put b o') esc := by
  obtain ⟨hb, hok⟩ := hr.own b hS hl
  have hlen := hu.1
  have hbk : ∀ k, k < w.heap.size → k ≠ (f b).k → w'.heap[k]? = w.heap[k]? := fun k hk hne => hfr.block k hk hne
  have hother : ∀ k p, k < w.heap.size → k ≠ (f b).k → w'.cell? ⟨k, p, none⟩ = w.cell? ⟨k, p, none⟩ := fun k p hs hk => World.cell?_of_block (w := w) (hbk k hs hk)
  have hotherf : ∀ k p, k < w.heap.size → k ≠ (f b).k → w'.frozen? ⟨k, p, none⟩ = w.frozen? ⟨k, p, none⟩ := fun k p hs hk => World.frozen?_of_block (w := w) (hbk k hs hk)
  have hget : ∀ c, (H.put b o').get c = if b = c then o' else H.get c := Heap.get_put H b o'
  have hlive : ∀ c, ((H.put b o').get c).live → (H.get c).live := fun c hc => by
    rw [hget] at hc
    by_cases e : b = c
    · subst e; exact hl
    · simpa [e] using hc
  have hnot : ∀ c, S c → (H.get c).live → c ≠ b → (f c).k ≠ (f b).k := fun c hc hcl hne => hr.inj c b hc hS hcl hl hne
  refine ⟨Nat.le_refl _, fun _ _ => rfl, fun _ _ _ h => h, fun _ _ _ h => .inl h, fun c _ hc => ?_, fun c _ hc => hlive c hc, ⟨fun c hc hcl => ?_, fun c d hc hd hcl hdl hne => ?_, fun k p v hv => ?_⟩, fun c hc hcl => ?_, ?_, fun he mm hm hN c l hc hg x hx => ?_⟩
  · left; rw [hget]; rw [if_neg (fun (e : b = c) => hc (e ▸ hS))]
  · have hc' : S c := hc.resolve_right fun e => hno c e (hlive c hcl)
    refine ⟨(hr.own c hc' (hlive c hcl)).1, ?_⟩
    by_cases e : b = c
    · subst e
      rw [hget, if_pos rfl]
      refine ⟨Nat.lt_of_lt_of_le hok.lt hfr.size, hok.own, fun p hp => ?_, fun m' i' j' x hx => ?_, fun es he => absurd (by rw [he]; trivial) hnm⟩
      · rw [hfz]
        refine ⟨?_, (hok.room p hp).2⟩
        by_cases hinn : B ≤ p ∧ p < B + us.length
        · have := hin (p - B) (by omega)
          rw [show (f b).d + B + (p - B) = (f b).d + p by omega] at this
          exact ⟨_, this, hu.all _ (List.getElem_mem _)⟩
        · rw [hout _ (by omega)]
          exact (hok.room p hp).1
      · rcases hat m' i' j' x hx with ⟨q, hq, hv⟩ | ⟨ho, hne⟩
        · have hq' : q < us.length := by
            have := (List.getElem?_eq_some_iff.1 hv).1
            omega
          refine ⟨by rw [hq]; exact hroom q hq', us[q]'hq', ?_, hu.2 q x (us[q]'hq') hv (List.getElem?_eq_getElem hq')⟩
          have := hin q hq'
          simp only [ad, hq]
          rw [show (f b).d + (B + q) = (f b).d + B + q by omega]
          exact this
        · obtain ⟨h1, v, h2, h3⟩ := hok.cell m' i' j' x ho
          refine ⟨h1, v, ?_, h3⟩
          simp only [ad] at h2 ⊢
          rw [hout _ ?_]
          · exact h2
          · rcases Nat.lt_or_ge (i' * m' + j') B with h | h
            · exact .inl (by omega)
            · rcases Nat.lt_or_ge (i' * m' + j') (B + us.length) with h4 | h4
              · exact absurd (by omega) (hne (i' * m' + j' - B) (by omega))
              · exact .inr (by omega)
    · rw [hget, if_neg e]
      have hcl0 := hlive c hcl
      have hk := hnot c hc' hcl0 (Ne.symm e)
      obtain ⟨_, hc0⟩ := hr.own c hc' hcl0
      refine ⟨Nat.lt_of_lt_of_le hc0.lt hfr.size, hc0.own, fun p hp => ?_, fun m' i' j' x hx => ?_, fun es he => by rw [hbk _ hc0.lt hk]; exact hc0.map es he⟩
      · rw [hotherf _ _ hc0.lt hk, hother _ _ hc0.lt hk]; exact hc0.room p hp
      · obtain ⟨h1, v, h2, h3⟩ := hc0.cell m' i' j' x hx
        exact ⟨h1, v, by simp only [ad]; rw [hother _ _ hc0.lt hk]; exact h2, h3⟩
  · have hc' : S c := hc.resolve_right fun e => hno c e (hlive c hcl)
    have hd' : S d := hd.resolve_right fun e => hno d e (hlive d hdl)
    exact hr.inj c d hc' hd' (hlive c hcl) (hlive d hdl) hne
  · have hv' := hr.zok k p v hv
    have hk : k ≠ (f b).k := fun e => by rw [e, hok.own] at hv; cases hv
    rw [hother _ _ (block_lt_of_cell hv') hk]; exact hv'
  · exact absurd (hlive c hcl) (hno c hc)
  · exact ⟨hfr.size, hfr.os, hfr.tape, hfr.output, fun k hs hk => hbk k hs fun e => hk ⟨b, hS, hl, e.symm⟩⟩
  · rw [hget] at hg
    by_cases e : b = c
    · subst e
      rw [if_pos rfl] at hg
      exact absurd hg (hcl l)
    · rw [if_neg e] at hg
      exact hN c l hc hg x hx

/-- a row of numbers -/
abbrev intE (x : Nat → Int) : Nat → List FV := fun i => [.lit (.int .i64 (x i))]
def IntE (e : Nat → List FV) : Prop := ∃ x, e = intE x
def intOf (e : Nat → List FV) : Nat → Int := fun i => match e i with | [.lit (.int _ a)] => a | _ => 0
theorem intOf_intE (x : Nat → Int) : intOf (intE x) = x := rfl
theorem IntE_ok (x : Nat → Int) : IntE (intE x) := ⟨x, rfl⟩
/-- its numbers, n from a on -/
def rowL (x : Nat → Int) (a n : Nat) : List Int := (List.range n).map fun i => x (a + i)
/-- others in their place -/
def putL (x : Nat → Int) (a : Nat) (l : List Int) : Nat → Int := fun i => if a ≤ i ∧ i < a + l.length then l.getD (i - a) 0 else x i
theorem rowL_length (x : Nat → Int) (a n : Nat) : (rowL x a n).length = n := by simp [rowL]
theorem rowL_get (x : Nat → Int) (a n i : Nat) (h : i < n) : (rowL x a n)[i]? = some (x (a + i)) := by simp [rowL, h]

open Go.Sort in
theorem fr_putRow (w : World) (n k o : Nat) (d : Array Int) (os : Array Obj) : Fr (fun x => x = k) w (grow (putRow (Value.int .i64) (Sort.ahead w n) k o d) os) := by
  refine ⟨?_, rfl, rfl, rfl, fun x hx hne => ?_⟩
  · simp [grow, putRow, mapBlock, Sort.ahead]
  · have h1 : x < (putRow (Value.int .i64) (Sort.ahead w n) k o d).heap.size := by simpa [putRow, mapBlock, Sort.ahead] using hx
    rw [heap_grow_old _ _ h1]
    simp only [putRow, mapBlock, Sort.ahead]
    rw [Array.getElem?_modify, if_neg (fun e => hne e.symm)]

open Go.Sort in
/-- a call that leaves other numbers in an own row -/
theorem row_to {P : Program} {g b a n cap N nx : Nat} {ex : Bool} {x : Nat → Int} {H : Heap} {ys : List Int} {vr : SV} (hH : H.get b = .arr true 1 N (intE x)) (hn : a + n ≤ N) (hys : ys.length = n)
    (hC : ∀ (k o c : Nat) (w : World), n ≤ c → Holds (Value.int .i64) w k o (rowL x a n).toArray → k < w.heap.size → Calls P g #[.slice (some ⟨k, o, none⟩) n c] w fun e w' =>
      (∃ v, e = .returned v ∧ ∀ (f : Fn) (z : Z), (⟨k, o, none⟩ : Addr) = ad f b 1 a 0 → b < nx → (ex = true → c = cap) → cap ≤ c → (a * 1 + 0) + c * 1 ≤ (f b).t → RS f nx z vr v) ∧ ∃ q os, w' = grow (putRow (Value.int .i64) (Sort.ahead w q) k o ys.toArray) os) :
    CallTo P g [.one (.sl false b 1 a 0 n cap ex 1)] H nx ⟨vr, H.put b (.arr true 1 N (intE (putL x a ys))), nx, false, [b]⟩ := by
  intro f z w vs hr ha R hR
  obtain ⟨v, rfl⟩ : ∃ v, vs = #[v] := by
    have := ha.1
    simp only [List.length_cons, List.length_nil, Array.length_toList] at this
    match vs, this with
    | ⟨[v]⟩, _ => exact ⟨v, rfl⟩
  have hv : RA f nx z (.one (.sl false b 1 a 0 n cap ex 1)) v := ha.2 0 _ _ rfl rfl
  obtain ⟨hb, _, hX⟩ := hv
  obtain ⟨c, rfl, c1, c2, c3, c4⟩ := hX rfl
  have hl : (H.get b).live := by rw [hH]; rfl
  obtain ⟨_, hok⟩ := hr.own b trivial hl
  have hcell : ∀ i, i < N → i < (f b).t ∧ w.cell? ⟨(f b).k, (f b).d + i, none⟩ = some (.int .i64 (x i)) := fun i hi => by
    have hat : (H.get b).at 1 i 0 = some (.f (.lit (.int .i64 (x i)))) := by rw [hH]; simp [Ob.at, hi, intE]
    obtain ⟨h1, v, h2, h3⟩ := hok.cell 1 i 0 _ hat
    obtain rfl : v = Value.int .i64 (x i) := by cases h3 with | lit _ _ => rfl
    simp only [ad, Nat.mul_one, Nat.add_zero] at h1 h2
    exact ⟨h1, h2⟩
  have hk := hok.lt
  have hx : ∀ j, j < n → (rowL x a n).toArray[j]! = x (a + j) := fun j hj => by
    rw [List.getElem!_toArray, List.getElem!_eq_getElem?_getD, rowL_get x a n j hj]; rfl
  have hrow : Holds (Value.int .i64) w (f b).k ((f b).d + a) (rowL x a n).toArray := fun j hj => by
    have hj : j < n := by simpa [rowL_length] using hj
    obtain ⟨h1, h2⟩ := hcell (a + j) (by omega)
    refine ⟨?_, ?_⟩
    · rw [Nat.add_assoc, h2, hx j hj]
    · rw [Nat.add_assoc]; exact (hok.room _ h1).2
  have hadr : (⟨(f b).k, (f b).d + a, none⟩ : Addr) = ad f b 1 a 0 := by simp [ad]
  have := hC (f b).k ((f b).d + a) c w c1 hrow hk
  rw [hadr] at this
  refine this.mono fun e w' hq => ?_
  obtain ⟨⟨v, rfl, hvr⟩, q, os, hw'⟩ := hq
  refine hR f z w' v ?_ (hvr f z rfl hb c3 c2 c4)
  have hin : ∀ q (hq : q < (ys.map fun y => Value.int .i64 y).length), w'.cell? ⟨(f b).k, (f b).d + a + q, none⟩ = some (ys.map fun y => Value.int .i64 y)[q] := fun q hq => by
    have hq' : q < ys.length := by simpa using hq
    rw [hw', cell?_grow _ _ _ (by simpa [putRow, mapBlock, Sort.ahead] using hk), putRow_ahead]
    show (putRow (Value.int .i64) w (f b).k ((f b).d + a) ys.toArray).cell? ⟨(f b).k, (f b).d + a + q, none⟩ = _
    rw [cell?_putRow _ _ _ _ _ _ hrow (by simp [rowL_length, hys]) q (by simpa using hq')]
    simp [hq']
  refine Post.row (o' := .arr true 1 N (intE (putL x a ys))) (vs := ys.map fun y => .f (.lit (.int .i64 y))) (us := ys.map fun y => Value.int .i64 y) (B := a) trivial hr hl (fun h => h) (fun q hq => ?_) (fun m' i' j' y hy => ?_) (fun l h => by cases h) ?_ (hw' ▸ fr_putRow w q (f b).k _ _ os) hin (fun p hp => ?_) (fun p => ?_) hr.noLive
  · have := (hcell (a + q) (by simp at hq; omega)).1
    exact this
  · simp only [Ob.at] at hy
    split at hy
    · rename_i hc
      obtain ⟨_, rfl, hi, hj⟩ := hc
      obtain rfl : j' = 0 := by omega
      simp only [intE, List.getElem?_cons_zero, Option.map_some, Option.some.injEq] at hy
      subst hy
      by_cases hin' : a ≤ i' ∧ i' < a + ys.length
      · refine .inl ⟨i' - a, by omega, ?_⟩
        have : i' - a < ys.length := by omega
        simp [putL, hin', this]
      · refine .inr ⟨?_, fun q hq => ?_⟩
        · rw [hH]; simp [Ob.at, hi, intE, putL, hin']
        · simp at hq; omega
    · cases hy
  · refine ⟨by simp, fun i y u h1 h2 => ?_⟩
    simp only [List.getElem?_map, Option.map_eq_some_iff] at h1 h2
    obtain ⟨y1, e1, rfl⟩ := h1
    obtain ⟨y2, e2, rfl⟩ := h2
    rw [e1] at e2
    cases e2
    exact RF.lit _ rfl
  · rw [hw', cell?_grow _ _ _ (by simpa [putRow, mapBlock, Sort.ahead] using hk), putRow_ahead]
    show (putRow (Value.int .i64) w (f b).k ((f b).d + a) ys.toArray).cell? ⟨(f b).k, p, none⟩ = _
    rw [cell?_putRow_other]
    refine .inr ?_
    simp at hp
    simp
    omega
  · rw [hw', frozen?_grow _ _ _ (by simpa [putRow, mapBlock, Sort.ahead] using hk)]
    exact frozen?_mapBlock _ _ _ _

end Go.Proofs.Ytggneleipimijaa.En
/- Tables of raw entries. -/
namespace Go.Proofs.Ytggneleipimijaa.En
open Go
set_option linter.unusedVariables false
set_option linter.unusedSimpArgs false
set_option maxRecDepth 20000
set_option maxHeartbeats 1000000
instance : Inhabited Ent := ⟨⟨0, 0, 0, 0, false⟩⟩
abbrev entE (x : Nat → Ent) : Nat → List FV := fun i => (x i).fs
def EntE (e : Nat → List FV) : Prop := ∃ x, e = entE x
def entOf (e : Nat → List FV) : Nat → Ent := fun i => match e i with | [.lit (.int _ a), .lit (.int _ b), .lit (.int _ c), .lit (.int _ d), .lit (.bool f)] => ⟨a, b, c, d, f⟩ | _ => default
theorem entOf_entE (x : Nat → Ent) : entOf (entE x) = x := rfl
theorem EntE_ok (x : Nat → Ent) : EntE (entE x) := ⟨x, rfl⟩

/-- a list that may be there -/
def LnOk (nl : Bool) (n : Nat) : Prop := (n : Int) ≤ 9223372036854775807 ∧ (nl = true → n = 0)
def EntN (n : Nat) (e : Nat → List FV) : Prop := ∀ i, i < n → e i = (entOf e i).fs
def EntL (nl : Bool) (n : Nat) (e : Nat → List FV) : Prop := EntN n e ∧ LnOk nl n
def EntS (nl : Bool) (n : Nat) (e : Nat → List FV) : Prop := EntE e ∧ LnOk nl n
theorem entN (n : Nat) (x : Nat → Ent) : EntN n (entE x) := fun _ _ => rfl

def S_tb (nl : Bool) (n : Nat) (x : Nat → Ent) (m : Nat) (i : Nat) (a : Unit) : St :=
  ⟨[(0, .v (.one (.f (.fs nl 5 n (entE x))))), (1, .v (AI m)), (5, .v (.one (.sl (Nat.beq i 0) 0 5 0 0 i i false 5))), (6, .v (AI i))], [(0, .arr (!(Nat.beq i 0)) 5 i (entE fun j => entR (x j)))], 1, false, 0, []⟩

noncomputable def GRB1 : Ctx := GS.with ss_Entry ll0
noncomputable def tgt_tb (nl : Bool) (n : Nat) (x : Nat → Ent) (m : Nat) (i : Nat) (a : Unit) : T (Ex × St) := evRound GRB1 300 17 Try.f17.ntmps (loopOf Try.f17 3) 0 [0, 1, 5, 6] [5] (S_tb nl n x m i a)
theorem GKRB1 : KnownOk Try.prog GRB1 := KnownOk.lists ss_Entry_ok ll0_ok
theorem GORB1 : CtxOk Try.prog GRB1 := GS_ok.with _ _
theorem tree_tb (nl : Bool) (n : Nat) (x : Nat → Ent) (m : Nat) (i : Nat) (a : Unit) : (tgt_tb nl n x m i a).over (.br (.tt (.tt (.tt (.br (.br (.br (.tt (.ff (.br (.br .skip .skip) (.br (.br .leaf .skip) .skip)))) .skip) .skip) .leaf)))) (.ff (.ff (.ff (.ff .leaf))))) = T.br (decide ((↑i : Int) < (↑n : Int))) (T.br (decide ((↑i : Int) < (↑m : Int))) (T.br (!nl) (T.br (decide ((0 : Int) ≤ (↑i : Int) ∧ (↑i : Int) < (↑n : Int))) (T.br (Nat.ble (i + 1) i) (T.br (!Nat.beq i 0) T.bad T.bad) (T.br (smallB (i + 1) 40) (T.br ((Nat.beq i 0 || !Nat.beq i 0) && Nat.ble (0 + i) i) (T.ret (Ex.normal, ⟨[(0, SV.v (AV.one (CV.f (FV.fs nl 5 n fun a => [FV.lit (.int .i64 (Ent.inc (x a))), FV.lit (.int .i64 (Ent.st (x a))), FV.lit (.int .i64 (Ent.stamp (x a))), FV.lit (.int .i64 (Ent.load (x a))), FV.lit (Value.bool (Ent.dr (x a)))])))), (1, SV.v (AI (↑m : Int))), (5, SV.v (AV.one (CV.sl false 0 5 0 0 (i + 1) (i + 1) false 5))), (6, SV.v (AI (IntKind.wrap IntKind.i64 ((↑i : Int) + (1 : Int)))))], [(0, Ob.arr true 5 (i + 1) fun i_1 => [FV.lit (.int .i64 (bif Nat.ble (i_1 + 1) i then Ent.inc (entR (x (0 + i_1))) else Ent.inc (entR (x i)))), FV.lit (.int .i64 (bif Nat.ble (i_1 + 1) i then Ent.st (entR (x (0 + i_1))) else Ent.st (entR (x i)))), FV.lit (.int .i64 (bif Nat.ble (i_1 + 1) i then Ent.stamp (entR (x (0 + i_1))) else Ent.stamp (entR (x i)))), FV.lit (.int .i64 (bif Nat.ble (i_1 + 1) i then Ent.load (entR (x (0 + i_1))) else Ent.load (entR (x i)))), FV.lit (Value.bool (bif Nat.ble (i_1 + 1) i then Ent.dr (entR (x (0 + i_1))) else Ent.dr (entR (x i))))])], 1, false, 0, []⟩)) T.bad) T.bad)) T.bad) T.bad) (T.ret (Ex.exit 0, ⟨[(5, SV.v (AV.one (CV.sl (Nat.beq i 0) 0 5 0 0 i i false 5)))], [(0, Ob.arr (!Nat.beq i 0) 5 i fun a => [FV.lit (.int .i64 (Ent.inc (entR (x a)))), FV.lit (.int .i64 (Ent.st (entR (x a)))), FV.lit (.int .i64 (Ent.stamp (entR (x a)))), FV.lit (.int .i64 (Ent.load (entR (x a)))), FV.lit (Value.bool (Ent.dr (entR (x a))))])], 1, false, 0, []⟩))) (T.ret (Ex.exit 0, ⟨[(5, SV.v (AV.one (CV.sl (Nat.beq i 0) 0 5 0 0 i i false 5)))], [(0, Ob.arr (!Nat.beq i 0) 5 i fun a => [FV.lit (.int .i64 (Ent.inc (entR (x a)))), FV.lit (.int .i64 (Ent.st (entR (x a)))), FV.lit (.int .i64 (Ent.stamp (entR (x a)))), FV.lit (.int .i64 (Ent.load (entR (x a)))), FV.lit (Value.bool (Ent.dr (entR (x a))))])], 1, false, 0, []⟩)) := by kernel_rfl
theorem round_tb (nl : Bool) (n : Nat) (x : Nat → Ent) (m : Nat) (hb : (n : Int) ≤ 9223372036854775807) (hnl : nl = true → n = 0) (hm : m ≤ 1000) (i : Nat) (a : Unit) (hi : i < min n m) (hI : (fun (i : Nat) (a : Unit) => (True : Prop)) i a) : ∃ st', (tgt_tb nl n x m i a).res = some (.normal, st') ∧ StLe 0 st' (S_tb nl n x m (i + 1) ((fun (i : Nat) (a : Unit) => (())) i a)) ∧ (fun (i : Nat) (a : Unit) => (True : Prop)) (i + 1) ((fun (i : Nat) (a : Unit) => (())) i a) := by
  refine T.over_exP (g := fun s => (Ex.normal, s)) (tree_tb nl n x m i a) ?_
  have e1 : ((i : Int) < (n : Int)) := by omega
  have e1' : ((i : Int) < (m : Int)) := by omega
  have e2 : (0 : Int) ≤ (i : Int) ∧ (i : Int) < (n : Int) := by omega
  have e3 : IntKind.wrap .i64 ((i : Int) + 1) = ((i + 1 : Nat) : Int) := by rw [wrapI (by omega)]; rfl
  obtain rfl : nl = false := by cases nl <;> simp_all <;> omega
  have e4 : Nat.ble (i + 1) i = false := ble_false (by omega)
  have e5 : smallB (i + 1) 40 = true := smallB_le (by omega) (by omega)
  have e6 : Nat.ble (0 + i) i = true := ble_tt (by omega)
  simp only [T.res_br, T.res_ret, T.res_bad, decide_eq_true_eq, e1, e1', e2, e3, e4, e5, e6, beq_or, Bool.and_self, Bool.not_false, Bool.false_eq_true, reduceIte, and_self]
  refine ⟨_, rfl, StLe.less (Nat.zero_le _) (fun t => .inr (.inl rfl)) (fun b => ?_), trivial⟩
  rcases b with _ | b
  · refine Ob.le.arr fun j hj => ?_
    rcases Nat.lt_or_ge j i with h | h
    · simp only [ble_tt (show j + 1 ≤ i by omega), cond_true, Nat.zero_add]
    · obtain rfl : j = i := by omega
      simp only [ble_false (show ¬ j + 1 ≤ j by omega), cond_false]
  · exact .inl rfl
theorem end_tb (nl : Bool) (n : Nat) (x : Nat → Ent) (m : Nat) (hb : (n : Int) ≤ 9223372036854775807) (hnl : nl = true → n = 0) (hm : m ≤ 1000) (a : Unit) (hI : (fun (i : Nat) (a : Unit) => (True : Prop)) (min n m) a) : ∃ st', (tgt_tb nl n x m (min n m) a).res = some (.exit 0, st') ∧ StLe 0 st' (⟨[(5, .v (.one (.sl (Nat.beq (min n m) 0) 0 5 0 0 (min n m) (min n m) false 5)))], [(0, .arr (!(Nat.beq (min n m) 0)) 5 (min n m) (entE fun j => entR (x j)))], 1, false, 0, []⟩) := by
  refine T.over_exP (g := fun s => (.exit 0, s)) (tree_tb nl n x m (min n m) a) ?_
  rcases Nat.lt_or_ge m n with h | h
  · have e0 : min n m = m := by omega
    have e1 : ((m : Int) < (n : Int)) := by omega
    simp only [e0, T.res_br, T.res_ret, T.res_bad, decide_eq_true_eq, e1, Int.lt_irrefl, reduceIte]
    exact ⟨_, rfl, StLe.refl (Nat.zero_le _)⟩
  · have e0 : min n m = n := by omega
    simp only [e0, T.res_br, T.res_ret, T.res_bad, decide_eq_true_eq, Int.lt_irrefl, reduceIte]
    exact ⟨_, rfl, StLe.refl (Nat.zero_le _)⟩
theorem loop_tb (nl : Bool) (n : Nat) (x : Nat → Ent) (m : Nat) (hb : (n : Int) ≤ 9223372036854775807) (hnl : nl = true → n = 0) (hm : m ≤ 1000) (i : Nat) (a : Unit) (hi : i ≤ min n m) (hI : (fun (i : Nat) (a : Unit) => (True : Prop)) i a) {st0 : St} (h0 : StLe 0 st0 (S_tb nl n x m i a)) (hnx : st0.nx = 0) :
    CodeOk Try.prog Try.f17.ntmps (.loop (loopOf Try.f17 3)) st0 (.exit 0) ((fun (a : Unit) => ⟨[(5, .v (.one (.sl (Nat.beq (min n m) 0) 0 5 0 0 (min n m) (min n m) false 5)))], [(0, .arr (!(Nat.beq (min n m) 0)) 5 (min n m) (entE fun j => entR (x j)))], 1, false, 0, []⟩) (foldF (fun (i : Nat) (a : Unit) => (())) (min n m - i) i a)) := by
  have := for_loop GORB1 GKRB1 (K := 300) (F := 17) (N := Try.f17.ntmps) (c := loopOf Try.f17 3) (m := 0) (live := [0, 1, 5, 6]) (after := [5]) (S_tb nl n x m) (min n m) (fun (i : Nat) (a : Unit) => .inl (())) (fun (a : Unit) => (.exit 0, ⟨[(5, .v (.one (.sl (Nat.beq (min n m) 0) 0 5 0 0 (min n m) (min n m) false 5)))], [(0, .arr (!(Nat.beq (min n m) 0)) 5 (min n m) (entE fun j => entR (x j)))], 1, false, 0, []⟩)) (fun (i : Nat) (a : Unit) => (True : Prop))
    (fun i a hi hI => by obtain ⟨s, h1, h2, h3⟩ := round_tb nl n x m hb hnl hm i a hi hI; exact ⟨_, s, h1, rfl, h2, h3⟩)
    (fun a hI => by obtain ⟨s, h1, h2⟩ := end_tb nl n x m hb hnl hm a hI; exact ⟨_, s, h1, by simp, rfl, h2⟩)
    (fun i a => by first | exact Nat.le_refl _ | (show 0 ≤ _; decide) | (simp only [S_tb]; omega)) hi hI h0 hnx
  rw [foldX_inl] at this
  exact this
noncomputable def L_tb : LoopF := mkLoopF [0, 1, 5, 6] (loopOf Try.f17 3) Try.f17.ntmps fun sl H nx => match sl, H, nx with
  | [(0, .v (.one (.f (.fs nl 5 n e)))), (1, .v (.one (.f (.lit (.int .i64 m))))), (5, .v (.one (.f (.lit (.slice none 0 0))))), (6, .v (.one (.f (.lit (.int .i64 i)))))], [], 0 => .need (pb (EntS nl n e ∧ i = 0 ∧ 0 ≤ m ∧ m ≤ 1000)) (.ret (.exit 0, (St.mk [(5, .v (.one (.sl (Nat.beq (min n m.toNat) 0) 0 5 0 0 (min n m.toNat) (min n m.toNat) false 5)))] [(0, .arr (!(Nat.beq (min n m.toNat) 0)) 5 (min n m.toNat) (entE fun j => entR (entOf e j)))] 1 false 0 []).sl, (St.mk [(5, .v (.one (.sl (Nat.beq (min n m.toNat) 0) 0 5 0 0 (min n m.toNat) (min n m.toNat) false 5)))] [(0, .arr (!(Nat.beq (min n m.toNat) 0)) 5 (min n m.toNat) (entE fun j => entR (entOf e j)))] 1 false 0 []).H, 1, false))
  | _, _, _ => .bad
theorem L_tb_ok : LoopOk Try.prog L_tb := by
  refine mkLoopF_ok fun sl H nx e sl' H' nx' esc' h => ?_
  split at h
  · rename_i nl n e m i
    obtain ⟨hp, hret⟩ := T.need_some h
    have hp := pb_of hp
    have := T.ret_some hret
    simp only [Prod.mk.injEq] at this
    obtain ⟨rfl, rfl, rfl, rfl, rfl⟩ := this
    clear hret h
    obtain ⟨⟨⟨x, rfl⟩, h1, h2⟩, rfl, h3, h4⟩ := hp
    obtain ⟨mm, rfl⟩ : ∃ mm : Nat, m = mm := ⟨m.toNat, by omega⟩
    refine loop_tb _ _ x mm h1 h2 (by omega) 0 () (Nat.zero_le _) trivial (StLe.row (Nat.zero_le _) (fun t => ?_) (fun b hb => ?_) (fun h => by cases h)) rfl
    · by_cases h5 : 5 = t
      · subst h5
        exact .inr (.inr ⟨rfl, _, _, _, rfl⟩)
      · left
        simp only [S_tb, Slots.get_cons, h5, if_false]
        rfl
    · rcases b with _ | b
      · exact absurd rfl hb
      · rfl
  · exact (T.bad_some h).elim
noncomputable def ll_tb : List (Nat × Nat × LoopF) := (17, 3, L_tb) :: ll0
theorem ll_tb_ok : ∀ x ∈ ll_tb, LoopOk Try.prog x.2.2 := List.forall_mem_cons.2 ⟨L_tb_ok, ll0_ok⟩
noncomputable def GRB2 : Ctx := GS.with ss_Entry ll_tb
noncomputable def tgt_Table (nl : Bool) (n : Nat) (x : Nat → Ent) (m : Int) : T CallOut := evCallZ [] GRB2 300 17 [.one (.f (.fs nl 5 n (entE x))), AI m] [] 0
theorem GKRB2 : KnownOk Try.prog GRB2 := KnownOk.lists ss_Entry_ok ll_tb_ok
theorem GORB2 : CtxOk Try.prog GRB2 := GS_ok.with _ _
theorem tree_Table (nl : Bool) (n : Nat) (x : Nat → Ent) (m : Int) : (tgt_Table nl n x m).over (.br (.br (.br .leaf .skip) .skip) .skip) = T.br (pb (Code.loop (loopOf Proofs.Try.f17 3) = Code.loop (loopOf Proofs.Try.f17 3) ∧ 27 = 27)) (T.br (pb (EntS nl n (entE x) ∧ (0 : Int) = (0 : Int) ∧ (0 : Int) ≤ m ∧ m ≤ (1000 : Int))) (T.br (Nat.ble (min n (Int.toNat m)) (min n (Int.toNat m)) && (!Nat.beq (min n (Int.toNat m)) 0 || Nat.beq (min n (Int.toNat m)) 0)) (T.ret (out0 (SV.v (AV.one (CV.f (FV.fs (Nat.beq (min n (Int.toNat m)) 0) 5 (min n (Int.toNat m)) fun a => [FV.lit (.int .i64 (Ent.inc (entR (entOf (entE x) a)))), FV.lit (.int .i64 (Ent.st (entR (entOf (entE x) a)))), FV.lit (.int .i64 (Ent.stamp (entR (entOf (entE x) a)))), FV.lit (.int .i64 (Ent.load (entR (entOf (entE x) a)))), FV.lit (Value.bool (Ent.dr (entR (entOf (entE x) a))))])))))) T.bad) T.bad) T.bad := by kernel_rfl
theorem res_Table (nl : Bool) (n : Nat) (x : Nat → Ent) (m : Int) (h : LnOk nl n ∧ 0 ≤ m ∧ m ≤ 1000) : (tgt_Table nl n x m).res = some (out0 (.v (.one (.f (.fs (Nat.beq (min n m.toNat) 0) 5 (min n m.toNat) (entE fun j => entR (x j))))))) := by
  refine T.over_eq _ (tree_Table nl n x m) ?_
  simp only [T.res_br, T.res_ret, T.res_bad]
  obtain ⟨h1, h2, h3⟩ := h
  simp only [eq_self, and_self, pb_tt, if_true]
  rw [if_pos (pb_true (by exact ⟨⟨EntE_ok x, h1⟩, trivial, h2, h3⟩)), if_pos (by rw [ble_tt (Nat.le_refl _), Bool.or_comm, beq_or]; rfl)]
  rfl
noncomputable def F_Table : SumF
  | [.one (.f (.fs nl 5 n e)), .one (.f (.lit (.int .i64 m)))], [], 0 => .need (pb (EntL nl n e ∧ 0 ≤ m ∧ m ≤ 1000)) (.ret (out0 (.v (.one (.f (.fs (Nat.beq (min n m.toNat) 0) 5 (min n m.toNat) (entE fun j => entR (entOf e j))))))))
  | _, _, _ => .bad
theorem sum_Table : SumOk Try.prog 17 F_Table := by
  refine ⟨fun args H nx r hr => ?_, fun args H nx => ?_⟩
  · unfold F_Table at hr
    split at hr
    · rename_i nl n e m
      obtain ⟨h0, hr⟩ := T.need_some hr
      have := T.ret_some hr
      subst this
      have h := pb_of h0
      obtain ⟨⟨he, h1⟩, h2, h3⟩ := h
      exact (evCallZ_ok GORB2 GKRB2 (res_Table _ _ (entOf e) _ ⟨h1, h2, h3⟩)).args (.cons (CV.le.f (FV.le_fs he)) (.refl _))
    · exact (T.bad_some hr).elim
  · unfold F_Table
    split
    · exact T.Every.need ⟨Nat.zero_le _, fun b hb hw => absurd hb (Nat.not_lt_zero b)⟩
    · trivial
noncomputable def sm_Table : SumF := canonSum F_Table
theorem sm_Table_ok : SumOk Try.prog 17 sm_Table := canonSum_ok sum_Table
noncomputable def ss_Table : List (Nat × SumF) := (17, sm_Table) :: ss_Entry
theorem ss_Table_ok : ∀ x ∈ ss_Table, SumOk Try.prog x.1 x.2 := List.forall_mem_cons.2 ⟨sm_Table_ok, ss_Entry_ok⟩
end Go.Proofs.Ytggneleipimijaa.En
/- Contracts of the library at this program, laid by the kit's own tools, in plain words. -/
namespace Go.Proofs
open Go.Shelf
def Try.lays189_ren : Go.Shelf.Ren := ⟨fun | 189 => 28 | 125 => 41 | 257 => 40 | 128 => 55 | 129 => 56 | 294 => 47 | 295 => 48 | 296 => 49 | 297 => 50 | 298 => 51 | 299 => 52 | 216 => 42 | 300 => 53 | 301 => 54 | 328 => 60 | 329 => 61 | 330 => 62 | 331 => 63 | 332 => 64 | 215 => 45 | 343 => 66 | n => n, fun | 28 => 22 | 3 => 3 | 46 => 65 | 0 => 0 | 51 => 76 | 53 => 78 | 4 => 4 | 183 => 70 | 182 => 69 | 131 => 50 | 5 => 5 | 9 => 9 | 218 => 81 | 222 => 85 | 228 => 87 | 229 => 88 | n => n, fun | n => n⟩
theorem Try.lays189 : Go.Proofs.Lays.n189 Try.prog Try.lays189_ren := {
  mixed := by kernel_rfl
  f125 := Try.func41.trans (congrArg some (by kernel_rfl))
  f128 := Try.func55.trans (congrArg some (by kernel_rfl))
  f129 := Try.func56.trans (congrArg some (by kernel_rfl))
  f189 := Try.func28.trans (congrArg some (by kernel_rfl))
  f215 := Try.func45.trans (congrArg some (by kernel_rfl))
  f216 := Try.func42.trans (congrArg some (by kernel_rfl))
  f257 := Try.func40.trans (congrArg some (by kernel_rfl))
  f294 := Try.func47.trans (congrArg some (by kernel_rfl))
  f295 := Try.func48.trans (congrArg some (by kernel_rfl))
  f296 := Try.func49.trans (congrArg some (by kernel_rfl))
  f297 := Try.func50.trans (congrArg some (by kernel_rfl))
  f298 := Try.func51.trans (congrArg some (by kernel_rfl))
  f299 := Try.func52.trans (congrArg some (by kernel_rfl))
  f300 := Try.func53.trans (congrArg some (by kernel_rfl))
  f301 := Try.func54.trans (congrArg some (by kernel_rfl))
  f328 := Try.func60.trans (congrArg some (by kernel_rfl))
  f329 := Try.func61.trans (congrArg some (by kernel_rfl))
  f330 := Try.func62.trans (congrArg some (by kernel_rfl))
  f331 := Try.func63.trans (congrArg some (by kernel_rfl))
  f332 := Try.func64.trans (congrArg some (by kernel_rfl))
  f343 := Try.func66.trans (congrArg some (by kernel_rfl))
  t0 := Try.underlying0
  a0 := Try.isAgg0
  z0 := Try.sizeOf0
  v0 := Try.zeroValue0
  t3 := Try.underlying3
  a3 := Try.isAgg3
  z3 := Try.sizeOf3
  v3 := Try.zeroValue3
  t4 := Try.underlying4
  a4 := Try.isAgg4
  z4 := Try.sizeOf4
  v4 := Try.zeroValue4
  t5 := Try.underlying5
  a5 := Try.isAgg5
  z5 := Try.sizeOf5
  v5 := Try.zeroValue5
  t9 := Try.underlying9
  a9 := Try.isAgg9
  z9 := Try.sizeOf9
  v9 := Try.zeroValue9
  t28 := Try.underlying22
  a28 := Try.isAgg22
  z28 := Try.sizeOf22
  v28 := Try.zeroValue22
  t46 := Try.underlying65
  a46 := Try.isAgg65
  z46 := Try.sizeOf65
  v46 := Try.zeroValue65
  t51 := Try.underlying76
  a51 := Try.isAgg76
  z51 := Try.sizeOf76
  v51 := Try.zeroValue76
  t53 := Try.underlying78
  a53 := Try.isAgg78
  z53 := Try.sizeOf78
  v53 := Try.zeroValue78
  t131 := Try.underlying50
  a131 := Try.isAgg50
  z131 := Try.sizeOf50
  v131 := Try.zeroValue50
  t182 := Try.underlying69
  a182 := Try.isAgg69
  z182 := Try.sizeOf69
  v182 := Try.zeroValue69
  t183 := Try.underlying70
  a183 := Try.isAgg70
  z183 := Try.sizeOf70
  v183 := Try.zeroValue70
  t218 := Try.underlying81
  a218 := Try.isAgg81
  z218 := Try.sizeOf81
  v218 := Try.zeroValue81
  t222 := Try.underlying85
  a222 := Try.isAgg85
  z222 := Try.sizeOf85
  v222 := Try.zeroValue85
  t228 := Try.underlying87
  a228 := Try.isAgg87
  z228 := Try.sizeOf87
  v228 := Try.zeroValue87
  t229 := Try.underlying88
  a229 := Try.isAgg88
  z229 := Try.sizeOf88
  v229 := Try.zeroValue88 }
open Go.Sort Go.RowKit in
theorem Try.slices_Sort_int (blk off cap : Nat) (zs : List Int) (w : World) (hH : Holds (Value.int .i64) w blk off zs.toArray) (hblk : blk < w.heap.size) (hsz : zs.length < 4611686018427387904) :
    Calls Try.prog 28 #[.slice (some ⟨blk, off, none⟩) zs.length cap] w fun e w' =>
      e = .returned (.tuple #[]) ∧ ∃ n os, w' = grow (putRow (Value.int .i64) (Sort.ahead w n) blk off (zs.mergeSort fun x y => decide (x ≤ y)).toArray) os := Any.slices_Sort_int Try.lays189 blk off cap zs w hH hblk hsz
def Try.laysNm225_ren : Go.Shelf.Ren := ⟨fun | 25 => 29 | 31 => 42 | 32 => 43 | 37 => 45 | n => n, fun | 22 => 22 | 3 => 3 | 4 => 4 | 40 => 65 | 0 => 0 | n => n, fun | n => n⟩
theorem Try.laysNm225 : Go.Proofs.Lays2.n25 Try.prog Try.laysNm225_ren := {
  mixed := by kernel_rfl
  f25 := Try.func29.trans (congrArg some (by kernel_rfl))
  f31 := Try.func42.trans (congrArg some (by kernel_rfl))
  f32 := Try.func43.trans (congrArg some (by kernel_rfl))
  f37 := Try.func45.trans (congrArg some (by kernel_rfl))
  t0 := Try.underlying0
  a0 := Try.isAgg0
  z0 := Try.sizeOf0
  v0 := Try.zeroValue0
  t3 := Try.underlying3
  a3 := Try.isAgg3
  z3 := Try.sizeOf3
  v3 := Try.zeroValue3
  t4 := Try.underlying4
  a4 := Try.isAgg4
  z4 := Try.sizeOf4
  v4 := Try.zeroValue4
  t22 := Try.underlying22
  a22 := Try.isAgg22
  z22 := Try.sizeOf22
  v22 := Try.zeroValue22
  t40 := Try.underlying65
  a40 := Try.isAgg65
  z40 := Try.sizeOf65
  v40 := Try.zeroValue65 }
open Go.RowKit Go.Lib in
theorem Try.slices_BinarySearch_int (b off n c : Nat) (zs : List Int) (x : Int) (w : World) (hz : n ≤ zs.length) (hbig : n < 4611686018427387904) (hc : ∀ j, j < zs.length → w.cell? ⟨b, off + j, none⟩ = some (.int .i64 (zs.getD j 0))) (hs : (zs.take n).Pairwise (· ≤ ·)) :
    Calls Try.prog 29 #[.slice (some ⟨b, off, none⟩) n c, .int .i64 x] w fun e w' => e = .returned (.tuple #[.int .i64 ((zs.take n).countP (· < x) : Nat), .bool ((zs.take n).contains x)]) ∧ ∃ q, w' = w.drewN q := Any.slices_BinarySearch_int Try.laysNm225 b off n c zs x w hz hbig hc hs
end Go.Proofs
