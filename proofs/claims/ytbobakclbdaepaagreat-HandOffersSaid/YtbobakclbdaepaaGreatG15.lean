/- Texts put together: ED, PA, F12. -/
import Derived.Test.YtbobakclbdaepaaGreatG10
import Derived.Test.YtbobakclbdaepaaGreatG14
import Derived.KernelRfl
import Derived.Test.YtbobakclbdaepaaGreatG13
/- The tables of this seat are those of the program: printed by gen.py. -/
namespace Go.Proofs.YtbobakclbdaepaaGreat.En
open Go Go.Proofs
theorem tok1 : TIOk Tryz.prog 1 ti1 := ⟨by kernel_rfl, by kernel_rfl, by kernel_rfl, by kernel_rfl, by kernel_rfl, .inl rfl⟩
theorem tok2 : TIOk Tryz.prog 2 ti2 := ⟨by kernel_rfl, by kernel_rfl, by kernel_rfl, by kernel_rfl, by kernel_rfl, .inl rfl⟩
theorem tok3 : TIOk Tryz.prog 3 ti3 := ⟨by kernel_rfl, by kernel_rfl, by kernel_rfl, by kernel_rfl, by kernel_rfl, .inl rfl⟩
theorem tok4 : TIOk Tryz.prog 4 ti4 := ⟨by kernel_rfl, by kernel_rfl, by kernel_rfl, by kernel_rfl, by kernel_rfl, .inl rfl⟩
theorem tok5 : TIOk Tryz.prog 5 ti5 := ⟨by kernel_rfl, by kernel_rfl, by kernel_rfl, by kernel_rfl, by kernel_rfl, .inl rfl⟩
theorem tok6 : TIOk Tryz.prog 6 ti6 := ⟨by kernel_rfl, by kernel_rfl, by kernel_rfl, by kernel_rfl, by kernel_rfl, .inl rfl⟩
theorem tok7 : TIOk Tryz.prog 7 ti7 := ⟨by kernel_rfl, by kernel_rfl, by kernel_rfl, by kernel_rfl, by kernel_rfl, .inr ⟨by kernel_rfl, by kernel_rfl⟩⟩
theorem tok8 : TIOk Tryz.prog 8 ti8 := ⟨by kernel_rfl, by kernel_rfl, by kernel_rfl, by kernel_rfl, by kernel_rfl, .inr ⟨by kernel_rfl, by kernel_rfl⟩⟩
theorem tok9 : TIOk Tryz.prog 9 ti9 := ⟨by kernel_rfl, by kernel_rfl, by kernel_rfl, by kernel_rfl, by kernel_rfl, .inl rfl⟩
theorem tok10 : TIOk Tryz.prog 10 ti10 := ⟨by kernel_rfl, by kernel_rfl, by kernel_rfl, by kernel_rfl, by kernel_rfl, .inl rfl⟩
theorem tok11 : TIOk Tryz.prog 11 ti11 := ⟨by kernel_rfl, by kernel_rfl, by kernel_rfl, by kernel_rfl, by kernel_rfl, .inl rfl⟩
theorem tok12 : TIOk Tryz.prog 12 ti12 := ⟨by kernel_rfl, by kernel_rfl, by kernel_rfl, by kernel_rfl, by kernel_rfl, .inl rfl⟩
theorem tok13 : TIOk Tryz.prog 13 ti13 := ⟨by kernel_rfl, by kernel_rfl, by kernel_rfl, by kernel_rfl, by kernel_rfl, .inl rfl⟩
theorem tok14 : TIOk Tryz.prog 14 ti14 := ⟨by kernel_rfl, by kernel_rfl, by kernel_rfl, by kernel_rfl, by kernel_rfl, .inl rfl⟩
theorem tok15 : TIOk Tryz.prog 15 ti15 := ⟨by kernel_rfl, by kernel_rfl, by kernel_rfl, by kernel_rfl, by kernel_rfl, .inl rfl⟩
theorem tok16 : TIOk Tryz.prog 16 ti16 := ⟨by kernel_rfl, by kernel_rfl, by kernel_rfl, by kernel_rfl, by kernel_rfl, .inl rfl⟩
theorem tok17 : TIOk Tryz.prog 17 ti17 := ⟨by kernel_rfl, by kernel_rfl, by kernel_rfl, by kernel_rfl, by kernel_rfl, .inl rfl⟩
theorem tok18 : TIOk Tryz.prog 18 ti18 := ⟨by kernel_rfl, by kernel_rfl, by kernel_rfl, by kernel_rfl, by kernel_rfl, .inl rfl⟩
theorem tok19 : TIOk Tryz.prog 19 ti19 := ⟨by kernel_rfl, by kernel_rfl, by kernel_rfl, by kernel_rfl, by kernel_rfl, .inl rfl⟩
theorem tok21 : TIOk Tryz.prog 21 ti21 := ⟨by kernel_rfl, by kernel_rfl, by kernel_rfl, by kernel_rfl, by kernel_rfl, .inl rfl⟩
theorem tok22 : TIOk Tryz.prog 22 ti22 := ⟨by kernel_rfl, by kernel_rfl, by kernel_rfl, by kernel_rfl, by kernel_rfl, .inr ⟨by kernel_rfl, by kernel_rfl⟩⟩
theorem tok23 : TIOk Tryz.prog 23 ti23 := ⟨by kernel_rfl, by kernel_rfl, by kernel_rfl, by kernel_rfl, by kernel_rfl, .inr ⟨by kernel_rfl, by kernel_rfl⟩⟩
theorem tok24 : TIOk Tryz.prog 24 ti24 := ⟨by kernel_rfl, by kernel_rfl, by kernel_rfl, by kernel_rfl, by kernel_rfl, .inl rfl⟩
theorem tok25 : TIOk Tryz.prog 25 ti25 := ⟨by kernel_rfl, by kernel_rfl, by kernel_rfl, by kernel_rfl, by kernel_rfl, .inl rfl⟩
theorem tok26 : TIOk Tryz.prog 26 ti26 := ⟨by kernel_rfl, by kernel_rfl, by kernel_rfl, by kernel_rfl, by kernel_rfl, .inl rfl⟩
theorem tok27 : TIOk Tryz.prog 27 ti27 := ⟨by kernel_rfl, by kernel_rfl, by kernel_rfl, by kernel_rfl, by kernel_rfl, .inr ⟨by kernel_rfl, by kernel_rfl⟩⟩
theorem tok28 : TIOk Tryz.prog 28 ti28 := ⟨by kernel_rfl, by kernel_rfl, by kernel_rfl, by kernel_rfl, by kernel_rfl, .inr ⟨by kernel_rfl, by kernel_rfl⟩⟩
theorem tok29 : TIOk Tryz.prog 29 ti29 := ⟨by kernel_rfl, by kernel_rfl, by kernel_rfl, by kernel_rfl, by kernel_rfl, .inr ⟨by kernel_rfl, by kernel_rfl⟩⟩
theorem tok30 : TIOk Tryz.prog 30 ti30 := ⟨by kernel_rfl, by kernel_rfl, by kernel_rfl, by kernel_rfl, by kernel_rfl, .inr ⟨by kernel_rfl, by kernel_rfl⟩⟩
theorem tok31 : TIOk Tryz.prog 31 ti31 := ⟨by kernel_rfl, by kernel_rfl, by kernel_rfl, by kernel_rfl, by kernel_rfl, .inr ⟨by kernel_rfl, by kernel_rfl⟩⟩
theorem tok32 : TIOk Tryz.prog 32 ti32 := ⟨by kernel_rfl, by kernel_rfl, by kernel_rfl, by kernel_rfl, by kernel_rfl, .inr ⟨by kernel_rfl, by kernel_rfl⟩⟩
theorem tok33 : TIOk Tryz.prog 33 ti33 := ⟨by kernel_rfl, by kernel_rfl, by kernel_rfl, by kernel_rfl, by kernel_rfl, .inl rfl⟩
theorem tok34 : TIOk Tryz.prog 34 ti34 := ⟨by kernel_rfl, by kernel_rfl, by kernel_rfl, by kernel_rfl, by kernel_rfl, .inl rfl⟩
theorem tok35 : TIOk Tryz.prog 35 ti35 := ⟨by kernel_rfl, by kernel_rfl, by kernel_rfl, by kernel_rfl, by kernel_rfl, .inl rfl⟩
theorem tok36 : TIOk Tryz.prog 36 ti36 := ⟨by kernel_rfl, by kernel_rfl, by kernel_rfl, by kernel_rfl, by kernel_rfl, .inr ⟨by kernel_rfl, by kernel_rfl⟩⟩
theorem tok37 : TIOk Tryz.prog 37 ti37 := ⟨by kernel_rfl, by kernel_rfl, by kernel_rfl, by kernel_rfl, by kernel_rfl, .inr ⟨by kernel_rfl, by kernel_rfl⟩⟩
theorem tok39 : TIOk Tryz.prog 39 ti39 := ⟨by kernel_rfl, by kernel_rfl, by kernel_rfl, by kernel_rfl, by kernel_rfl, .inl rfl⟩
theorem tok40 : TIOk Tryz.prog 40 ti40 := ⟨by kernel_rfl, by kernel_rfl, by kernel_rfl, by kernel_rfl, by kernel_rfl, .inr ⟨by kernel_rfl, by kernel_rfl⟩⟩
theorem tok41 : TIOk Tryz.prog 41 ti41 := ⟨by kernel_rfl, by kernel_rfl, by kernel_rfl, by kernel_rfl, by kernel_rfl, .inr ⟨by kernel_rfl, by kernel_rfl⟩⟩
theorem tok42 : TIOk Tryz.prog 42 ti42 := ⟨by kernel_rfl, by kernel_rfl, by kernel_rfl, by kernel_rfl, by kernel_rfl, .inr ⟨by kernel_rfl, by kernel_rfl⟩⟩
theorem tok43 : TIOk Tryz.prog 43 ti43 := ⟨by kernel_rfl, by kernel_rfl, by kernel_rfl, by kernel_rfl, by kernel_rfl, .inr ⟨by kernel_rfl, by kernel_rfl⟩⟩
theorem tok44 : TIOk Tryz.prog 44 ti44 := ⟨by kernel_rfl, by kernel_rfl, by kernel_rfl, by kernel_rfl, by kernel_rfl, .inl rfl⟩
theorem tok45 : TIOk Tryz.prog 45 ti45 := ⟨by kernel_rfl, by kernel_rfl, by kernel_rfl, by kernel_rfl, by kernel_rfl, .inl rfl⟩
theorem tok46 : TIOk Tryz.prog 46 ti46 := ⟨by kernel_rfl, by kernel_rfl, by kernel_rfl, by kernel_rfl, by kernel_rfl, .inl rfl⟩
theorem tok47 : TIOk Tryz.prog 47 ti47 := ⟨by kernel_rfl, by kernel_rfl, by kernel_rfl, by kernel_rfl, by kernel_rfl, .inl rfl⟩
theorem tok48 : TIOk Tryz.prog 48 ti48 := ⟨by kernel_rfl, by kernel_rfl, by kernel_rfl, by kernel_rfl, by kernel_rfl, .inl rfl⟩
theorem tok49 : TIOk Tryz.prog 49 ti49 := ⟨by kernel_rfl, by kernel_rfl, by kernel_rfl, by kernel_rfl, by kernel_rfl, .inl rfl⟩
theorem tok50 : TIOk Tryz.prog 50 ti50 := ⟨by kernel_rfl, by kernel_rfl, by kernel_rfl, by kernel_rfl, by kernel_rfl, .inl rfl⟩
theorem tok51 : TIOk Tryz.prog 51 ti51 := ⟨by kernel_rfl, by kernel_rfl, by kernel_rfl, by kernel_rfl, by kernel_rfl, .inl rfl⟩
theorem tok52 : TIOk Tryz.prog 52 ti52 := ⟨by kernel_rfl, by kernel_rfl, by kernel_rfl, by kernel_rfl, by kernel_rfl, .inl rfl⟩
theorem tok53 : TIOk Tryz.prog 53 ti53 := ⟨by kernel_rfl, by kernel_rfl, by kernel_rfl, by kernel_rfl, by kernel_rfl, .inl rfl⟩
theorem tok54 : TIOk Tryz.prog 54 ti54 := ⟨by kernel_rfl, by kernel_rfl, by kernel_rfl, by kernel_rfl, by kernel_rfl, .inl rfl⟩
theorem tok55 : TIOk Tryz.prog 55 ti55 := ⟨by kernel_rfl, by kernel_rfl, by kernel_rfl, by kernel_rfl, by kernel_rfl, .inl rfl⟩
theorem tok57 : TIOk Tryz.prog 57 ti57 := ⟨by kernel_rfl, by kernel_rfl, by kernel_rfl, by kernel_rfl, by kernel_rfl, .inl rfl⟩
theorem tok58 : TIOk Tryz.prog 58 ti58 := ⟨by kernel_rfl, by kernel_rfl, by kernel_rfl, by kernel_rfl, by kernel_rfl, .inl rfl⟩
theorem tok59 : TIOk Tryz.prog 59 ti59 := ⟨by kernel_rfl, by kernel_rfl, by kernel_rfl, by kernel_rfl, by kernel_rfl, .inl rfl⟩
theorem tok60 : TIOk Tryz.prog 60 ti60 := ⟨by kernel_rfl, by kernel_rfl, by kernel_rfl, by kernel_rfl, by kernel_rfl, .inl rfl⟩
theorem tok61 : TIOk Tryz.prog 61 ti61 := ⟨by kernel_rfl, by kernel_rfl, by kernel_rfl, by kernel_rfl, by kernel_rfl, .inl rfl⟩
theorem tok62 : TIOk Tryz.prog 62 ti62 := ⟨by kernel_rfl, by kernel_rfl, by kernel_rfl, by kernel_rfl, by kernel_rfl, .inl rfl⟩
theorem tok63 : TIOk Tryz.prog 63 ti63 := ⟨by kernel_rfl, by kernel_rfl, by kernel_rfl, by kernel_rfl, by kernel_rfl, .inl rfl⟩
theorem tok65 : TIOk Tryz.prog 65 ti65 := ⟨by kernel_rfl, by kernel_rfl, by kernel_rfl, by kernel_rfl, by kernel_rfl, .inl rfl⟩
theorem tok66 : TIOk Tryz.prog 66 ti66 := ⟨by kernel_rfl, by kernel_rfl, by kernel_rfl, by kernel_rfl, by kernel_rfl, .inl rfl⟩
theorem tok67 : TIOk Tryz.prog 67 ti67 := ⟨by kernel_rfl, by kernel_rfl, by kernel_rfl, by kernel_rfl, by kernel_rfl, .inl rfl⟩
theorem tok68 : TIOk Tryz.prog 68 ti68 := ⟨by kernel_rfl, by kernel_rfl, by kernel_rfl, by kernel_rfl, by kernel_rfl, .inl rfl⟩
theorem tok69 : TIOk Tryz.prog 69 ti69 := ⟨by kernel_rfl, by kernel_rfl, by kernel_rfl, by kernel_rfl, by kernel_rfl, .inl rfl⟩
theorem tok70 : TIOk Tryz.prog 70 ti70 := ⟨by kernel_rfl, by kernel_rfl, by kernel_rfl, by kernel_rfl, by kernel_rfl, .inl rfl⟩
theorem tok71 : TIOk Tryz.prog 71 ti71 := ⟨by kernel_rfl, by kernel_rfl, by kernel_rfl, by kernel_rfl, by kernel_rfl, .inl rfl⟩
theorem tok72 : TIOk Tryz.prog 72 ti72 := ⟨by kernel_rfl, by kernel_rfl, by kernel_rfl, by kernel_rfl, by kernel_rfl, .inl rfl⟩
theorem tok73 : TIOk Tryz.prog 73 ti73 := ⟨by kernel_rfl, by kernel_rfl, by kernel_rfl, by kernel_rfl, by kernel_rfl, .inl rfl⟩
theorem tok74 : TIOk Tryz.prog 74 ti74 := ⟨by kernel_rfl, by kernel_rfl, by kernel_rfl, by kernel_rfl, by kernel_rfl, .inl rfl⟩
theorem tok75 : TIOk Tryz.prog 75 ti75 := ⟨by kernel_rfl, by kernel_rfl, by kernel_rfl, by kernel_rfl, by kernel_rfl, .inl rfl⟩
theorem tok76 : TIOk Tryz.prog 76 ti76 := ⟨by kernel_rfl, by kernel_rfl, by kernel_rfl, by kernel_rfl, by kernel_rfl, .inl rfl⟩
theorem tok77 : TIOk Tryz.prog 77 ti77 := ⟨by kernel_rfl, by kernel_rfl, by kernel_rfl, by kernel_rfl, by kernel_rfl, .inl rfl⟩
theorem tok78 : TIOk Tryz.prog 78 ti78 := ⟨by kernel_rfl, by kernel_rfl, by kernel_rfl, by kernel_rfl, by kernel_rfl, .inl rfl⟩
theorem tok79 : TIOk Tryz.prog 79 ti79 := ⟨by kernel_rfl, by kernel_rfl, by kernel_rfl, by kernel_rfl, by kernel_rfl, .inr ⟨by kernel_rfl, by kernel_rfl⟩⟩
theorem tok80 : TIOk Tryz.prog 80 ti80 := ⟨by kernel_rfl, by kernel_rfl, by kernel_rfl, by kernel_rfl, by kernel_rfl, .inr ⟨by kernel_rfl, by kernel_rfl⟩⟩
theorem tok81 : TIOk Tryz.prog 81 ti81 := ⟨by kernel_rfl, by kernel_rfl, by kernel_rfl, by kernel_rfl, by kernel_rfl, .inl rfl⟩
theorem tok82 : TIOk Tryz.prog 82 ti82 := ⟨by kernel_rfl, by kernel_rfl, by kernel_rfl, by kernel_rfl, by kernel_rfl, .inl rfl⟩
theorem tok83 : TIOk Tryz.prog 83 ti83 := ⟨by kernel_rfl, by kernel_rfl, by kernel_rfl, by kernel_rfl, by kernel_rfl, .inr ⟨by kernel_rfl, by kernel_rfl⟩⟩
theorem tok84 : TIOk Tryz.prog 84 ti84 := ⟨by kernel_rfl, by kernel_rfl, by kernel_rfl, by kernel_rfl, by kernel_rfl, .inr ⟨by kernel_rfl, by kernel_rfl⟩⟩
theorem tok85 : TIOk Tryz.prog 85 ti85 := ⟨by kernel_rfl, by kernel_rfl, by kernel_rfl, by kernel_rfl, by kernel_rfl, .inl rfl⟩
theorem tok86 : TIOk Tryz.prog 86 ti86 := ⟨by kernel_rfl, by kernel_rfl, by kernel_rfl, by kernel_rfl, by kernel_rfl, .inl rfl⟩
theorem tok87 : TIOk Tryz.prog 87 ti87 := ⟨by kernel_rfl, by kernel_rfl, by kernel_rfl, by kernel_rfl, by kernel_rfl, .inl rfl⟩
theorem tok88 : TIOk Tryz.prog 88 ti88 := ⟨by kernel_rfl, by kernel_rfl, by kernel_rfl, by kernel_rfl, by kernel_rfl, .inl rfl⟩
theorem tok89 : TIOk Tryz.prog 89 ti89 := ⟨by kernel_rfl, by kernel_rfl, by kernel_rfl, by kernel_rfl, by kernel_rfl, .inl rfl⟩
theorem tok90 : TIOk Tryz.prog 90 ti90 := ⟨by kernel_rfl, by kernel_rfl, by kernel_rfl, by kernel_rfl, by kernel_rfl, .inl rfl⟩
theorem tok91 : TIOk Tryz.prog 91 ti91 := ⟨by kernel_rfl, by kernel_rfl, by kernel_rfl, by kernel_rfl, by kernel_rfl, .inl rfl⟩
theorem tok92 : TIOk Tryz.prog 92 ti92 := ⟨by kernel_rfl, by kernel_rfl, by kernel_rfl, by kernel_rfl, by kernel_rfl, .inl rfl⟩
theorem tok93 : TIOk Tryz.prog 93 ti93 := ⟨by kernel_rfl, by kernel_rfl, by kernel_rfl, by kernel_rfl, by kernel_rfl, .inl rfl⟩
theorem tok94 : TIOk Tryz.prog 94 ti94 := ⟨by kernel_rfl, by kernel_rfl, by kernel_rfl, by kernel_rfl, by kernel_rfl, .inl rfl⟩
theorem tok95 : TIOk Tryz.prog 95 ti95 := ⟨by kernel_rfl, by kernel_rfl, by kernel_rfl, by kernel_rfl, by kernel_rfl, .inl rfl⟩
theorem tok96 : TIOk Tryz.prog 96 ti96 := ⟨by kernel_rfl, by kernel_rfl, by kernel_rfl, by kernel_rfl, by kernel_rfl, .inl rfl⟩
theorem tok97 : TIOk Tryz.prog 97 ti97 := ⟨by kernel_rfl, by kernel_rfl, by kernel_rfl, by kernel_rfl, by kernel_rfl, .inl rfl⟩
theorem tok98 : TIOk Tryz.prog 98 ti98 := ⟨by kernel_rfl, by kernel_rfl, by kernel_rfl, by kernel_rfl, by kernel_rfl, .inl rfl⟩
theorem tok99 : TIOk Tryz.prog 99 ti99 := ⟨by kernel_rfl, by kernel_rfl, by kernel_rfl, by kernel_rfl, by kernel_rfl, .inl rfl⟩
theorem tok100 : TIOk Tryz.prog 100 ti100 := ⟨by kernel_rfl, by kernel_rfl, by kernel_rfl, by kernel_rfl, by kernel_rfl, .inl rfl⟩
theorem tok101 : TIOk Tryz.prog 101 ti101 := ⟨by kernel_rfl, by kernel_rfl, by kernel_rfl, by kernel_rfl, by kernel_rfl, .inl rfl⟩
theorem tok102 : TIOk Tryz.prog 102 ti102 := ⟨by kernel_rfl, by kernel_rfl, by kernel_rfl, by kernel_rfl, by kernel_rfl, .inl rfl⟩
theorem tok103 : TIOk Tryz.prog 103 ti103 := ⟨by kernel_rfl, by kernel_rfl, by kernel_rfl, by kernel_rfl, by kernel_rfl, .inl rfl⟩
theorem tok104 : TIOk Tryz.prog 104 ti104 := ⟨by kernel_rfl, by kernel_rfl, by kernel_rfl, by kernel_rfl, by kernel_rfl, .inl rfl⟩
theorem tok105 : TIOk Tryz.prog 105 ti105 := ⟨by kernel_rfl, by kernel_rfl, by kernel_rfl, by kernel_rfl, by kernel_rfl, .inl rfl⟩
theorem tok106 : TIOk Tryz.prog 106 ti106 := ⟨by kernel_rfl, by kernel_rfl, by kernel_rfl, by kernel_rfl, by kernel_rfl, .inl rfl⟩
theorem tok107 : TIOk Tryz.prog 107 ti107 := ⟨by kernel_rfl, by kernel_rfl, by kernel_rfl, by kernel_rfl, by kernel_rfl, .inl rfl⟩
theorem tok108 : TIOk Tryz.prog 108 ti108 := ⟨by kernel_rfl, by kernel_rfl, by kernel_rfl, by kernel_rfl, by kernel_rfl, .inl rfl⟩
theorem tok109 : TIOk Tryz.prog 109 ti109 := ⟨by kernel_rfl, by kernel_rfl, by kernel_rfl, by kernel_rfl, by kernel_rfl, .inl rfl⟩
theorem tok110 : TIOk Tryz.prog 110 ti110 := ⟨by kernel_rfl, by kernel_rfl, by kernel_rfl, by kernel_rfl, by kernel_rfl, .inl rfl⟩
theorem tok111 : TIOk Tryz.prog 111 ti111 := ⟨by kernel_rfl, by kernel_rfl, by kernel_rfl, by kernel_rfl, by kernel_rfl, .inl rfl⟩
theorem tok112 : TIOk Tryz.prog 112 ti112 := ⟨by kernel_rfl, by kernel_rfl, by kernel_rfl, by kernel_rfl, by kernel_rfl, .inl rfl⟩
theorem tok113 : TIOk Tryz.prog 113 ti113 := ⟨by kernel_rfl, by kernel_rfl, by kernel_rfl, by kernel_rfl, by kernel_rfl, .inl rfl⟩
theorem tok114 : TIOk Tryz.prog 114 ti114 := ⟨by kernel_rfl, by kernel_rfl, by kernel_rfl, by kernel_rfl, by kernel_rfl, .inl rfl⟩
theorem tok116 : TIOk Tryz.prog 116 ti116 := ⟨by kernel_rfl, by kernel_rfl, by kernel_rfl, by kernel_rfl, by kernel_rfl, .inl rfl⟩
theorem tok117 : TIOk Tryz.prog 117 ti117 := ⟨by kernel_rfl, by kernel_rfl, by kernel_rfl, by kernel_rfl, by kernel_rfl, .inl rfl⟩
theorem tok118 : TIOk Tryz.prog 118 ti118 := ⟨by kernel_rfl, by kernel_rfl, by kernel_rfl, by kernel_rfl, by kernel_rfl, .inl rfl⟩
theorem tok119 : TIOk Tryz.prog 119 ti119 := ⟨by kernel_rfl, by kernel_rfl, by kernel_rfl, by kernel_rfl, by kernel_rfl, .inl rfl⟩
theorem tok120 : TIOk Tryz.prog 120 ti120 := ⟨by kernel_rfl, by kernel_rfl, by kernel_rfl, by kernel_rfl, by kernel_rfl, .inr ⟨by kernel_rfl, by kernel_rfl⟩⟩
theorem tok121 : TIOk Tryz.prog 121 ti121 := ⟨by kernel_rfl, by kernel_rfl, by kernel_rfl, by kernel_rfl, by kernel_rfl, .inr ⟨by kernel_rfl, by kernel_rfl⟩⟩
theorem tok122 : TIOk Tryz.prog 122 ti122 := ⟨by kernel_rfl, by kernel_rfl, by kernel_rfl, by kernel_rfl, by kernel_rfl, .inl rfl⟩
theorem tok123 : TIOk Tryz.prog 123 ti123 := ⟨by kernel_rfl, by kernel_rfl, by kernel_rfl, by kernel_rfl, by kernel_rfl, .inl rfl⟩
theorem tok124 : TIOk Tryz.prog 124 ti124 := ⟨by kernel_rfl, by kernel_rfl, by kernel_rfl, by kernel_rfl, by kernel_rfl, .inl rfl⟩
theorem tok125 : TIOk Tryz.prog 125 ti125 := ⟨by kernel_rfl, by kernel_rfl, by kernel_rfl, by kernel_rfl, by kernel_rfl, .inr ⟨by kernel_rfl, by kernel_rfl⟩⟩
theorem tok126 : TIOk Tryz.prog 126 ti126 := ⟨by kernel_rfl, by kernel_rfl, by kernel_rfl, by kernel_rfl, by kernel_rfl, .inr ⟨by kernel_rfl, by kernel_rfl⟩⟩
theorem tok128 : TIOk Tryz.prog 128 ti128 := ⟨by kernel_rfl, by kernel_rfl, by kernel_rfl, by kernel_rfl, by kernel_rfl, .inl rfl⟩
theorem tok129 : TIOk Tryz.prog 129 ti129 := ⟨by kernel_rfl, by kernel_rfl, by kernel_rfl, by kernel_rfl, by kernel_rfl, .inl rfl⟩
theorem tok130 : TIOk Tryz.prog 130 ti130 := ⟨by kernel_rfl, by kernel_rfl, by kernel_rfl, by kernel_rfl, by kernel_rfl, .inl rfl⟩
theorem tok131 : TIOk Tryz.prog 131 ti131 := ⟨by kernel_rfl, by kernel_rfl, by kernel_rfl, by kernel_rfl, by kernel_rfl, .inl rfl⟩
theorem tok132 : TIOk Tryz.prog 132 ti132 := ⟨by kernel_rfl, by kernel_rfl, by kernel_rfl, by kernel_rfl, by kernel_rfl, .inl rfl⟩
theorem tok133 : TIOk Tryz.prog 133 ti133 := ⟨by kernel_rfl, by kernel_rfl, by kernel_rfl, by kernel_rfl, by kernel_rfl, .inl rfl⟩
theorem tok134 : TIOk Tryz.prog 134 ti134 := ⟨by kernel_rfl, by kernel_rfl, by kernel_rfl, by kernel_rfl, by kernel_rfl, .inl rfl⟩
theorem tok136 : TIOk Tryz.prog 136 ti136 := ⟨by kernel_rfl, by kernel_rfl, by kernel_rfl, by kernel_rfl, by kernel_rfl, .inl rfl⟩
theorem tok137 : TIOk Tryz.prog 137 ti137 := ⟨by kernel_rfl, by kernel_rfl, by kernel_rfl, by kernel_rfl, by kernel_rfl, .inl rfl⟩
theorem tok138 : TIOk Tryz.prog 138 ti138 := ⟨by kernel_rfl, by kernel_rfl, by kernel_rfl, by kernel_rfl, by kernel_rfl, .inl rfl⟩
theorem tok139 : TIOk Tryz.prog 139 ti139 := ⟨by kernel_rfl, by kernel_rfl, by kernel_rfl, by kernel_rfl, by kernel_rfl, .inl rfl⟩
theorem tok140 : TIOk Tryz.prog 140 ti140 := ⟨by kernel_rfl, by kernel_rfl, by kernel_rfl, by kernel_rfl, by kernel_rfl, .inl rfl⟩
theorem tok141 : TIOk Tryz.prog 141 ti141 := ⟨by kernel_rfl, by kernel_rfl, by kernel_rfl, by kernel_rfl, by kernel_rfl, .inl rfl⟩
theorem tok143 : TIOk Tryz.prog 143 ti143 := ⟨by kernel_rfl, by kernel_rfl, by kernel_rfl, by kernel_rfl, by kernel_rfl, .inl rfl⟩
theorem tok144 : TIOk Tryz.prog 144 ti144 := ⟨by kernel_rfl, by kernel_rfl, by kernel_rfl, by kernel_rfl, by kernel_rfl, .inl rfl⟩
theorem tok145 : TIOk Tryz.prog 145 ti145 := ⟨by kernel_rfl, by kernel_rfl, by kernel_rfl, by kernel_rfl, by kernel_rfl, .inl rfl⟩
theorem tok146 : TIOk Tryz.prog 146 ti146 := ⟨by kernel_rfl, by kernel_rfl, by kernel_rfl, by kernel_rfl, by kernel_rfl, .inl rfl⟩
theorem tok147 : TIOk Tryz.prog 147 ti147 := ⟨by kernel_rfl, by kernel_rfl, by kernel_rfl, by kernel_rfl, by kernel_rfl, .inl rfl⟩
theorem tok148 : TIOk Tryz.prog 148 ti148 := ⟨by kernel_rfl, by kernel_rfl, by kernel_rfl, by kernel_rfl, by kernel_rfl, .inl rfl⟩
theorem tok149 : TIOk Tryz.prog 149 ti149 := ⟨by kernel_rfl, by kernel_rfl, by kernel_rfl, by kernel_rfl, by kernel_rfl, .inl rfl⟩
theorem tok150 : TIOk Tryz.prog 150 ti150 := ⟨by kernel_rfl, by kernel_rfl, by kernel_rfl, by kernel_rfl, by kernel_rfl, .inl rfl⟩
theorem tok151 : TIOk Tryz.prog 151 ti151 := ⟨by kernel_rfl, by kernel_rfl, by kernel_rfl, by kernel_rfl, by kernel_rfl, .inl rfl⟩
theorem tok152 : TIOk Tryz.prog 152 ti152 := ⟨by kernel_rfl, by kernel_rfl, by kernel_rfl, by kernel_rfl, by kernel_rfl, .inl rfl⟩
theorem tok153 : TIOk Tryz.prog 153 ti153 := ⟨by kernel_rfl, by kernel_rfl, by kernel_rfl, by kernel_rfl, by kernel_rfl, .inl rfl⟩
theorem tok154 : TIOk Tryz.prog 154 ti154 := ⟨by kernel_rfl, by kernel_rfl, by kernel_rfl, by kernel_rfl, by kernel_rfl, .inl rfl⟩
theorem tok155 : TIOk Tryz.prog 155 ti155 := ⟨by kernel_rfl, by kernel_rfl, by kernel_rfl, by kernel_rfl, by kernel_rfl, .inl rfl⟩
theorem tok156 : TIOk Tryz.prog 156 ti156 := ⟨by kernel_rfl, by kernel_rfl, by kernel_rfl, by kernel_rfl, by kernel_rfl, .inl rfl⟩
theorem tok157 : TIOk Tryz.prog 157 ti157 := ⟨by kernel_rfl, by kernel_rfl, by kernel_rfl, by kernel_rfl, by kernel_rfl, .inl rfl⟩
theorem tok158 : TIOk Tryz.prog 158 ti158 := ⟨by kernel_rfl, by kernel_rfl, by kernel_rfl, by kernel_rfl, by kernel_rfl, .inl rfl⟩
theorem tok159 : TIOk Tryz.prog 159 ti159 := ⟨by kernel_rfl, by kernel_rfl, by kernel_rfl, by kernel_rfl, by kernel_rfl, .inl rfl⟩
theorem tok160 : TIOk Tryz.prog 160 ti160 := ⟨by kernel_rfl, by kernel_rfl, by kernel_rfl, by kernel_rfl, by kernel_rfl, .inl rfl⟩
theorem tok161 : TIOk Tryz.prog 161 ti161 := ⟨by kernel_rfl, by kernel_rfl, by kernel_rfl, by kernel_rfl, by kernel_rfl, .inl rfl⟩
theorem tok162 : TIOk Tryz.prog 162 ti162 := ⟨by kernel_rfl, by kernel_rfl, by kernel_rfl, by kernel_rfl, by kernel_rfl, .inl rfl⟩
theorem tok163 : TIOk Tryz.prog 163 ti163 := ⟨by kernel_rfl, by kernel_rfl, by kernel_rfl, by kernel_rfl, by kernel_rfl, .inl rfl⟩
theorem tok164 : TIOk Tryz.prog 164 ti164 := ⟨by kernel_rfl, by kernel_rfl, by kernel_rfl, by kernel_rfl, by kernel_rfl, .inl rfl⟩
theorem tok165 : TIOk Tryz.prog 165 ti165 := ⟨by kernel_rfl, by kernel_rfl, by kernel_rfl, by kernel_rfl, by kernel_rfl, .inl rfl⟩
theorem tok166 : TIOk Tryz.prog 166 ti166 := ⟨by kernel_rfl, by kernel_rfl, by kernel_rfl, by kernel_rfl, by kernel_rfl, .inl rfl⟩
theorem tok167 : TIOk Tryz.prog 167 ti167 := ⟨by kernel_rfl, by kernel_rfl, by kernel_rfl, by kernel_rfl, by kernel_rfl, .inl rfl⟩
theorem tok168 : TIOk Tryz.prog 168 ti168 := ⟨by kernel_rfl, by kernel_rfl, by kernel_rfl, by kernel_rfl, by kernel_rfl, .inl rfl⟩
theorem tok169 : TIOk Tryz.prog 169 ti169 := ⟨by kernel_rfl, by kernel_rfl, by kernel_rfl, by kernel_rfl, by kernel_rfl, .inl rfl⟩
theorem tok170 : TIOk Tryz.prog 170 ti170 := ⟨by kernel_rfl, by kernel_rfl, by kernel_rfl, by kernel_rfl, by kernel_rfl, .inl rfl⟩
theorem tok171 : TIOk Tryz.prog 171 ti171 := ⟨by kernel_rfl, by kernel_rfl, by kernel_rfl, by kernel_rfl, by kernel_rfl, .inl rfl⟩
theorem tok173 : TIOk Tryz.prog 173 ti173 := ⟨by kernel_rfl, by kernel_rfl, by kernel_rfl, by kernel_rfl, by kernel_rfl, .inl rfl⟩
theorem tok174 : TIOk Tryz.prog 174 ti174 := ⟨by kernel_rfl, by kernel_rfl, by kernel_rfl, by kernel_rfl, by kernel_rfl, .inl rfl⟩
theorem tok175 : TIOk Tryz.prog 175 ti175 := ⟨by kernel_rfl, by kernel_rfl, by kernel_rfl, by kernel_rfl, by kernel_rfl, .inl rfl⟩
theorem tok176 : TIOk Tryz.prog 176 ti176 := ⟨by kernel_rfl, by kernel_rfl, by kernel_rfl, by kernel_rfl, by kernel_rfl, .inl rfl⟩
theorem tok177 : TIOk Tryz.prog 177 ti177 := ⟨by kernel_rfl, by kernel_rfl, by kernel_rfl, by kernel_rfl, by kernel_rfl, .inl rfl⟩
theorem tok178 : TIOk Tryz.prog 178 ti178 := ⟨by kernel_rfl, by kernel_rfl, by kernel_rfl, by kernel_rfl, by kernel_rfl, .inl rfl⟩
theorem tok179 : TIOk Tryz.prog 179 ti179 := ⟨by kernel_rfl, by kernel_rfl, by kernel_rfl, by kernel_rfl, by kernel_rfl, .inl rfl⟩
theorem tok180 : TIOk Tryz.prog 180 ti180 := ⟨by kernel_rfl, by kernel_rfl, by kernel_rfl, by kernel_rfl, by kernel_rfl, .inl rfl⟩
theorem tok181 : TIOk Tryz.prog 181 ti181 := ⟨by kernel_rfl, by kernel_rfl, by kernel_rfl, by kernel_rfl, by kernel_rfl, .inl rfl⟩
theorem tok182 : TIOk Tryz.prog 182 ti182 := ⟨by kernel_rfl, by kernel_rfl, by kernel_rfl, by kernel_rfl, by kernel_rfl, .inl rfl⟩
theorem tok183 : TIOk Tryz.prog 183 ti183 := ⟨by kernel_rfl, by kernel_rfl, by kernel_rfl, by kernel_rfl, by kernel_rfl, .inl rfl⟩
theorem tok184 : TIOk Tryz.prog 184 ti184 := ⟨by kernel_rfl, by kernel_rfl, by kernel_rfl, by kernel_rfl, by kernel_rfl, .inl rfl⟩
theorem tok185 : TIOk Tryz.prog 185 ti185 := ⟨by kernel_rfl, by kernel_rfl, by kernel_rfl, by kernel_rfl, by kernel_rfl, .inl rfl⟩
theorem tok186 : TIOk Tryz.prog 186 ti186 := ⟨by kernel_rfl, by kernel_rfl, by kernel_rfl, by kernel_rfl, by kernel_rfl, .inl rfl⟩
theorem tok187 : TIOk Tryz.prog 187 ti187 := ⟨by kernel_rfl, by kernel_rfl, by kernel_rfl, by kernel_rfl, by kernel_rfl, .inl rfl⟩
theorem tok188 : TIOk Tryz.prog 188 ti188 := ⟨by kernel_rfl, by kernel_rfl, by kernel_rfl, by kernel_rfl, by kernel_rfl, .inl rfl⟩
theorem tok190 : TIOk Tryz.prog 190 ti190 := ⟨by kernel_rfl, by kernel_rfl, by kernel_rfl, by kernel_rfl, by kernel_rfl, .inl rfl⟩
theorem tok191 : TIOk Tryz.prog 191 ti191 := ⟨by kernel_rfl, by kernel_rfl, by kernel_rfl, by kernel_rfl, by kernel_rfl, .inl rfl⟩
theorem tok192 : TIOk Tryz.prog 192 ti192 := ⟨by kernel_rfl, by kernel_rfl, by kernel_rfl, by kernel_rfl, by kernel_rfl, .inl rfl⟩
theorem tok193 : TIOk Tryz.prog 193 ti193 := ⟨by kernel_rfl, by kernel_rfl, by kernel_rfl, by kernel_rfl, by kernel_rfl, .inl rfl⟩
theorem tok194 : TIOk Tryz.prog 194 ti194 := ⟨by kernel_rfl, by kernel_rfl, by kernel_rfl, by kernel_rfl, by kernel_rfl, .inl rfl⟩
theorem tok195 : TIOk Tryz.prog 195 ti195 := ⟨by kernel_rfl, by kernel_rfl, by kernel_rfl, by kernel_rfl, by kernel_rfl, .inl rfl⟩
theorem tok196 : TIOk Tryz.prog 196 ti196 := ⟨by kernel_rfl, by kernel_rfl, by kernel_rfl, by kernel_rfl, by kernel_rfl, .inl rfl⟩
theorem tok197 : TIOk Tryz.prog 197 ti197 := ⟨by kernel_rfl, by kernel_rfl, by kernel_rfl, by kernel_rfl, by kernel_rfl, .inl rfl⟩
theorem tok198 : TIOk Tryz.prog 198 ti198 := ⟨by kernel_rfl, by kernel_rfl, by kernel_rfl, by kernel_rfl, by kernel_rfl, .inl rfl⟩
theorem tok199 : TIOk Tryz.prog 199 ti199 := ⟨by kernel_rfl, by kernel_rfl, by kernel_rfl, by kernel_rfl, by kernel_rfl, .inl rfl⟩
theorem tok200 : TIOk Tryz.prog 200 ti200 := ⟨by kernel_rfl, by kernel_rfl, by kernel_rfl, by kernel_rfl, by kernel_rfl, .inl rfl⟩
theorem tok201 : TIOk Tryz.prog 201 ti201 := ⟨by kernel_rfl, by kernel_rfl, by kernel_rfl, by kernel_rfl, by kernel_rfl, .inl rfl⟩
theorem tok202 : TIOk Tryz.prog 202 ti202 := ⟨by kernel_rfl, by kernel_rfl, by kernel_rfl, by kernel_rfl, by kernel_rfl, .inl rfl⟩
theorem tok203 : TIOk Tryz.prog 203 ti203 := ⟨by kernel_rfl, by kernel_rfl, by kernel_rfl, by kernel_rfl, by kernel_rfl, .inl rfl⟩
theorem tok204 : TIOk Tryz.prog 204 ti204 := ⟨by kernel_rfl, by kernel_rfl, by kernel_rfl, by kernel_rfl, by kernel_rfl, .inl rfl⟩
theorem tiTab_ok : tiTab.Every (TIOk Tryz.prog) := ⟨tok102, ⟨tok51, ⟨tok26, ⟨tok13, ⟨tok7, ⟨tok4, ⟨tok2, ⟨tok1, trivial, trivial⟩, ⟨tok3, trivial, trivial⟩⟩, ⟨tok6, ⟨tok5, trivial, trivial⟩, trivial⟩⟩, ⟨tok10, ⟨tok9, ⟨tok8, trivial, trivial⟩, trivial⟩, ⟨tok12, ⟨tok11, trivial, trivial⟩, trivial⟩⟩⟩, ⟨tok19, ⟨tok16, ⟨tok15, ⟨tok14, trivial, trivial⟩, trivial⟩, ⟨tok18, ⟨tok17, trivial, trivial⟩, trivial⟩⟩, ⟨tok23, ⟨tok22, ⟨tok21, trivial, trivial⟩, trivial⟩, ⟨tok25, ⟨tok24, trivial, trivial⟩, trivial⟩⟩⟩⟩, ⟨tok39, ⟨tok32, ⟨tok29, ⟨tok28, ⟨tok27, trivial, trivial⟩, trivial⟩, ⟨tok31, ⟨tok30, trivial, trivial⟩, trivial⟩⟩, ⟨tok35, ⟨tok34, ⟨tok33, trivial, trivial⟩, trivial⟩, ⟨tok37, ⟨tok36, trivial, trivial⟩, trivial⟩⟩⟩, ⟨tok45, ⟨tok42, ⟨tok41, ⟨tok40, trivial, trivial⟩, trivial⟩, ⟨tok44, ⟨tok43, trivial, trivial⟩, trivial⟩⟩, ⟨tok48, ⟨tok47, ⟨tok46, trivial, trivial⟩, trivial⟩, ⟨tok50, ⟨tok49, trivial, trivial⟩, trivial⟩⟩⟩⟩⟩, ⟨tok78, ⟨tok66, ⟨tok59, ⟨tok55, ⟨tok53, ⟨tok52, trivial, trivial⟩, ⟨tok54, trivial, trivial⟩⟩, ⟨tok58, ⟨tok57, trivial, trivial⟩, trivial⟩⟩, ⟨tok62, ⟨tok61, ⟨tok60, trivial, trivial⟩, trivial⟩, ⟨tok65, ⟨tok63, trivial, trivial⟩, trivial⟩⟩⟩, ⟨tok72, ⟨tok69, ⟨tok68, ⟨tok67, trivial, trivial⟩, trivial⟩, ⟨tok71, ⟨tok70, trivial, trivial⟩, trivial⟩⟩, ⟨tok75, ⟨tok74, ⟨tok73, trivial, trivial⟩, trivial⟩, ⟨tok77, ⟨tok76, trivial, trivial⟩, trivial⟩⟩⟩⟩, ⟨tok90, ⟨tok84, ⟨tok81, ⟨tok80, ⟨tok79, trivial, trivial⟩, trivial⟩, ⟨tok83, ⟨tok82, trivial, trivial⟩, trivial⟩⟩, ⟨tok87, ⟨tok86, ⟨tok85, trivial, trivial⟩, trivial⟩, ⟨tok89, ⟨tok88, trivial, trivial⟩, trivial⟩⟩⟩, ⟨tok96, ⟨tok93, ⟨tok92, ⟨tok91, trivial, trivial⟩, trivial⟩, ⟨tok95, ⟨tok94, trivial, trivial⟩, trivial⟩⟩, ⟨tok99, ⟨tok98, ⟨tok97, trivial, trivial⟩, trivial⟩, ⟨tok101, ⟨tok100, trivial, trivial⟩, trivial⟩⟩⟩⟩⟩⟩, ⟨tok155, ⟨tok129, ⟨tok116, ⟨tok109, ⟨tok106, ⟨tok104, ⟨tok103, trivial, trivial⟩, ⟨tok105, trivial, trivial⟩⟩, ⟨tok108, ⟨tok107, trivial, trivial⟩, trivial⟩⟩, ⟨tok112, ⟨tok111, ⟨tok110, trivial, trivial⟩, trivial⟩, ⟨tok114, ⟨tok113, trivial, trivial⟩, trivial⟩⟩⟩, ⟨tok122, ⟨tok119, ⟨tok118, ⟨tok117, trivial, trivial⟩, trivial⟩, ⟨tok121, ⟨tok120, trivial, trivial⟩, trivial⟩⟩, ⟨tok125, ⟨tok124, ⟨tok123, trivial, trivial⟩, trivial⟩, ⟨tok128, ⟨tok126, trivial, trivial⟩, trivial⟩⟩⟩⟩, ⟨tok143, ⟨tok136, ⟨tok132, ⟨tok131, ⟨tok130, trivial, trivial⟩, trivial⟩, ⟨tok134, ⟨tok133, trivial, trivial⟩, trivial⟩⟩, ⟨tok139, ⟨tok138, ⟨tok137, trivial, trivial⟩, trivial⟩, ⟨tok141, ⟨tok140, trivial, trivial⟩, trivial⟩⟩⟩, ⟨tok149, ⟨tok146, ⟨tok145, ⟨tok144, trivial, trivial⟩, trivial⟩, ⟨tok148, ⟨tok147, trivial, trivial⟩, trivial⟩⟩, ⟨tok152, ⟨tok151, ⟨tok150, trivial, trivial⟩, trivial⟩, ⟨tok154, ⟨tok153, trivial, trivial⟩, trivial⟩⟩⟩⟩⟩, ⟨tok180, ⟨tok167, ⟨tok161, ⟨tok158, ⟨tok157, ⟨tok156, trivial, trivial⟩, trivial⟩, ⟨tok160, ⟨tok159, trivial, trivial⟩, trivial⟩⟩, ⟨tok164, ⟨tok163, ⟨tok162, trivial, trivial⟩, trivial⟩, ⟨tok166, ⟨tok165, trivial, trivial⟩, trivial⟩⟩⟩, ⟨tok174, ⟨tok170, ⟨tok169, ⟨tok168, trivial, trivial⟩, trivial⟩, ⟨tok173, ⟨tok171, trivial, trivial⟩, trivial⟩⟩, ⟨tok177, ⟨tok176, ⟨tok175, trivial, trivial⟩, trivial⟩, ⟨tok179, ⟨tok178, trivial, trivial⟩, trivial⟩⟩⟩⟩, ⟨tok193, ⟨tok186, ⟨tok183, ⟨tok182, ⟨tok181, trivial, trivial⟩, trivial⟩, ⟨tok185, ⟨tok184, trivial, trivial⟩, trivial⟩⟩, ⟨tok190, ⟨tok188, ⟨tok187, trivial, trivial⟩, trivial⟩, ⟨tok192, ⟨tok191, trivial, trivial⟩, trivial⟩⟩⟩, ⟨tok199, ⟨tok196, ⟨tok195, ⟨tok194, trivial, trivial⟩, trivial⟩, ⟨tok198, ⟨tok197, trivial, trivial⟩, trivial⟩⟩, ⟨tok202, ⟨tok201, ⟨tok200, trivial, trivial⟩, trivial⟩, ⟨tok204, ⟨tok203, trivial, trivial⟩, trivial⟩⟩⟩⟩⟩⟩⟩
def FnOk (f : Nat) (fn : Func) : Prop := Tryz.prog.funcs[f]? = some fn ∧ fn.body.isSome = true ∧ (fn.name == "runtime.NumGoroutine") = false
theorem fok3 : FnOk 3 Tryz.f3 := ⟨Tryz.func3, by kernel_rfl, by kernel_rfl⟩
theorem fok4 : FnOk 4 Tryz.f4 := ⟨Tryz.func4, by kernel_rfl, by kernel_rfl⟩
theorem fok5 : FnOk 5 Tryz.f5 := ⟨Tryz.func5, by kernel_rfl, by kernel_rfl⟩
theorem fok6 : FnOk 6 Tryz.f6 := ⟨Tryz.func6, by kernel_rfl, by kernel_rfl⟩
theorem fok7 : FnOk 7 Tryz.f7 := ⟨Tryz.func7, by kernel_rfl, by kernel_rfl⟩
theorem fok8 : FnOk 8 Tryz.f8 := ⟨Tryz.func8, by kernel_rfl, by kernel_rfl⟩
theorem fok9 : FnOk 9 Tryz.f9 := ⟨Tryz.func9, by kernel_rfl, by kernel_rfl⟩
theorem fok10 : FnOk 10 Tryz.f10 := ⟨Tryz.func10, by kernel_rfl, by kernel_rfl⟩
theorem fok11 : FnOk 11 Tryz.f11 := ⟨Tryz.func11, by kernel_rfl, by kernel_rfl⟩
theorem fok12 : FnOk 12 Tryz.f12 := ⟨Tryz.func12, by kernel_rfl, by kernel_rfl⟩
theorem fok13 : FnOk 13 Tryz.f13 := ⟨Tryz.func13, by kernel_rfl, by kernel_rfl⟩
theorem fok14 : FnOk 14 Tryz.f14 := ⟨Tryz.func14, by kernel_rfl, by kernel_rfl⟩
theorem fok15 : FnOk 15 Tryz.f15 := ⟨Tryz.func15, by kernel_rfl, by kernel_rfl⟩
theorem fok16 : FnOk 16 Tryz.f16 := ⟨Tryz.func16, by kernel_rfl, by kernel_rfl⟩
theorem fok17 : FnOk 17 Tryz.f17 := ⟨Tryz.func17, by kernel_rfl, by kernel_rfl⟩
theorem fok18 : FnOk 18 Tryz.f18 := ⟨Tryz.func18, by kernel_rfl, by kernel_rfl⟩
theorem fok19 : FnOk 19 Tryz.f19 := ⟨Tryz.func19, by kernel_rfl, by kernel_rfl⟩
theorem fok20 : FnOk 20 Tryz.f20 := ⟨Tryz.func20, by kernel_rfl, by kernel_rfl⟩
theorem fok21 : FnOk 21 Tryz.f21 := ⟨Tryz.func21, by kernel_rfl, by kernel_rfl⟩
theorem fok22 : FnOk 22 Tryz.f22 := ⟨Tryz.func22, by kernel_rfl, by kernel_rfl⟩
theorem fok23 : FnOk 23 Tryz.f23 := ⟨Tryz.func23, by kernel_rfl, by kernel_rfl⟩
theorem fok24 : FnOk 24 Tryz.f24 := ⟨Tryz.func24, by kernel_rfl, by kernel_rfl⟩
theorem fok25 : FnOk 25 Tryz.f25 := ⟨Tryz.func25, by kernel_rfl, by kernel_rfl⟩
theorem fok26 : FnOk 26 Tryz.f26 := ⟨Tryz.func26, by kernel_rfl, by kernel_rfl⟩
theorem fok27 : FnOk 27 Tryz.f27 := ⟨Tryz.func27, by kernel_rfl, by kernel_rfl⟩
theorem fok28 : FnOk 28 Tryz.f28 := ⟨Tryz.func28, by kernel_rfl, by kernel_rfl⟩
theorem fok29 : FnOk 29 Tryz.f29 := ⟨Tryz.func29, by kernel_rfl, by kernel_rfl⟩
theorem fok30 : FnOk 30 Tryz.f30 := ⟨Tryz.func30, by kernel_rfl, by kernel_rfl⟩
theorem fok31 : FnOk 31 Tryz.f31 := ⟨Tryz.func31, by kernel_rfl, by kernel_rfl⟩
theorem fok32 : FnOk 32 Tryz.f32 := ⟨Tryz.func32, by kernel_rfl, by kernel_rfl⟩
theorem fok33 : FnOk 33 Tryz.f33 := ⟨Tryz.func33, by kernel_rfl, by kernel_rfl⟩
theorem fok34 : FnOk 34 Tryz.f34 := ⟨Tryz.func34, by kernel_rfl, by kernel_rfl⟩
theorem fok35 : FnOk 35 Tryz.f35 := ⟨Tryz.func35, by kernel_rfl, by kernel_rfl⟩
theorem fok36 : FnOk 36 Tryz.f36 := ⟨Tryz.func36, by kernel_rfl, by kernel_rfl⟩
theorem fok37 : FnOk 37 Tryz.f37 := ⟨Tryz.func37, by kernel_rfl, by kernel_rfl⟩
theorem fok38 : FnOk 38 Tryz.f38 := ⟨Tryz.func38, by kernel_rfl, by kernel_rfl⟩
theorem fok39 : FnOk 39 Tryz.f39 := ⟨Tryz.func39, by kernel_rfl, by kernel_rfl⟩
theorem fok40 : FnOk 40 Tryz.f40 := ⟨Tryz.func40, by kernel_rfl, by kernel_rfl⟩
theorem fok41 : FnOk 41 Tryz.f41 := ⟨Tryz.func41, by kernel_rfl, by kernel_rfl⟩
theorem fok42 : FnOk 42 Tryz.f42 := ⟨Tryz.func42, by kernel_rfl, by kernel_rfl⟩
theorem fok43 : FnOk 43 Tryz.f43 := ⟨Tryz.func43, by kernel_rfl, by kernel_rfl⟩
theorem fok44 : FnOk 44 Tryz.f44 := ⟨Tryz.func44, by kernel_rfl, by kernel_rfl⟩
theorem fok45 : FnOk 45 Tryz.f45 := ⟨Tryz.func45, by kernel_rfl, by kernel_rfl⟩
theorem fok46 : FnOk 46 Tryz.f46 := ⟨Tryz.func46, by kernel_rfl, by kernel_rfl⟩
theorem fok47 : FnOk 47 Tryz.f47 := ⟨Tryz.func47, by kernel_rfl, by kernel_rfl⟩
theorem fok48 : FnOk 48 Tryz.f48 := ⟨Tryz.func48, by kernel_rfl, by kernel_rfl⟩
theorem fok49 : FnOk 49 Tryz.f49 := ⟨Tryz.func49, by kernel_rfl, by kernel_rfl⟩
theorem fok50 : FnOk 50 Tryz.f50 := ⟨Tryz.func50, by kernel_rfl, by kernel_rfl⟩
theorem fok51 : FnOk 51 Tryz.f51 := ⟨Tryz.func51, by kernel_rfl, by kernel_rfl⟩
theorem fok52 : FnOk 52 Tryz.f52 := ⟨Tryz.func52, by kernel_rfl, by kernel_rfl⟩
theorem fok53 : FnOk 53 Tryz.f53 := ⟨Tryz.func53, by kernel_rfl, by kernel_rfl⟩
theorem fok54 : FnOk 54 Tryz.f54 := ⟨Tryz.func54, by kernel_rfl, by kernel_rfl⟩
theorem fok55 : FnOk 55 Tryz.f55 := ⟨Tryz.func55, by kernel_rfl, by kernel_rfl⟩
theorem fok56 : FnOk 56 Tryz.f56 := ⟨Tryz.func56, by kernel_rfl, by kernel_rfl⟩
theorem fok57 : FnOk 57 Tryz.f57 := ⟨Tryz.func57, by kernel_rfl, by kernel_rfl⟩
theorem fok58 : FnOk 58 Tryz.f58 := ⟨Tryz.func58, by kernel_rfl, by kernel_rfl⟩
theorem fok59 : FnOk 59 Tryz.f59 := ⟨Tryz.func59, by kernel_rfl, by kernel_rfl⟩
theorem fok60 : FnOk 60 Tryz.f60 := ⟨Tryz.func60, by kernel_rfl, by kernel_rfl⟩
theorem fok61 : FnOk 61 Tryz.f61 := ⟨Tryz.func61, by kernel_rfl, by kernel_rfl⟩
theorem fok62 : FnOk 62 Tryz.f62 := ⟨Tryz.func62, by kernel_rfl, by kernel_rfl⟩
theorem fok63 : FnOk 63 Tryz.f63 := ⟨Tryz.func63, by kernel_rfl, by kernel_rfl⟩
theorem fok64 : FnOk 64 Tryz.f64 := ⟨Tryz.func64, by kernel_rfl, by kernel_rfl⟩
theorem fok65 : FnOk 65 Tryz.f65 := ⟨Tryz.func65, by kernel_rfl, by kernel_rfl⟩
theorem fok66 : FnOk 66 Tryz.f66 := ⟨Tryz.func66, by kernel_rfl, by kernel_rfl⟩
theorem fok67 : FnOk 67 Tryz.f67 := ⟨Tryz.func67, by kernel_rfl, by kernel_rfl⟩
theorem fok68 : FnOk 68 Tryz.f68 := ⟨Tryz.func68, by kernel_rfl, by kernel_rfl⟩
theorem fok69 : FnOk 69 Tryz.f69 := ⟨Tryz.func69, by kernel_rfl, by kernel_rfl⟩
theorem fok70 : FnOk 70 Tryz.f70 := ⟨Tryz.func70, by kernel_rfl, by kernel_rfl⟩
theorem fok71 : FnOk 71 Tryz.f71 := ⟨Tryz.func71, by kernel_rfl, by kernel_rfl⟩
theorem fok72 : FnOk 72 Tryz.f72 := ⟨Tryz.func72, by kernel_rfl, by kernel_rfl⟩
theorem fok73 : FnOk 73 Tryz.f73 := ⟨Tryz.func73, by kernel_rfl, by kernel_rfl⟩
theorem fok74 : FnOk 74 Tryz.f74 := ⟨Tryz.func74, by kernel_rfl, by kernel_rfl⟩
theorem fok75 : FnOk 75 Tryz.f75 := ⟨Tryz.func75, by kernel_rfl, by kernel_rfl⟩
theorem fok76 : FnOk 76 Tryz.f76 := ⟨Tryz.func76, by kernel_rfl, by kernel_rfl⟩
theorem fok77 : FnOk 77 Tryz.f77 := ⟨Tryz.func77, by kernel_rfl, by kernel_rfl⟩
theorem fok78 : FnOk 78 Tryz.f78 := ⟨Tryz.func78, by kernel_rfl, by kernel_rfl⟩
theorem fok79 : FnOk 79 Tryz.f79 := ⟨Tryz.func79, by kernel_rfl, by kernel_rfl⟩
theorem fok80 : FnOk 80 Tryz.f80 := ⟨Tryz.func80, by kernel_rfl, by kernel_rfl⟩
theorem fok81 : FnOk 81 Tryz.f81 := ⟨Tryz.func81, by kernel_rfl, by kernel_rfl⟩
theorem fok82 : FnOk 82 Tryz.f82 := ⟨Tryz.func82, by kernel_rfl, by kernel_rfl⟩
theorem fok83 : FnOk 83 Tryz.f83 := ⟨Tryz.func83, by kernel_rfl, by kernel_rfl⟩
theorem fok84 : FnOk 84 Tryz.f84 := ⟨Tryz.func84, by kernel_rfl, by kernel_rfl⟩
theorem fok85 : FnOk 85 Tryz.f85 := ⟨Tryz.func85, by kernel_rfl, by kernel_rfl⟩
theorem fok86 : FnOk 86 Tryz.f86 := ⟨Tryz.func86, by kernel_rfl, by kernel_rfl⟩
theorem fok87 : FnOk 87 Tryz.f87 := ⟨Tryz.func87, by kernel_rfl, by kernel_rfl⟩
theorem fok88 : FnOk 88 Tryz.f88 := ⟨Tryz.func88, by kernel_rfl, by kernel_rfl⟩
theorem fok89 : FnOk 89 Tryz.f89 := ⟨Tryz.func89, by kernel_rfl, by kernel_rfl⟩
theorem fok90 : FnOk 90 Tryz.f90 := ⟨Tryz.func90, by kernel_rfl, by kernel_rfl⟩
theorem fok91 : FnOk 91 Tryz.f91 := ⟨Tryz.func91, by kernel_rfl, by kernel_rfl⟩
theorem fok92 : FnOk 92 Tryz.f92 := ⟨Tryz.func92, by kernel_rfl, by kernel_rfl⟩
theorem fok93 : FnOk 93 Tryz.f93 := ⟨Tryz.func93, by kernel_rfl, by kernel_rfl⟩
theorem fok94 : FnOk 94 Tryz.f94 := ⟨Tryz.func94, by kernel_rfl, by kernel_rfl⟩
theorem fok95 : FnOk 95 Tryz.f95 := ⟨Tryz.func95, by kernel_rfl, by kernel_rfl⟩
theorem fok96 : FnOk 96 Tryz.f96 := ⟨Tryz.func96, by kernel_rfl, by kernel_rfl⟩
theorem fok97 : FnOk 97 Tryz.f97 := ⟨Tryz.func97, by kernel_rfl, by kernel_rfl⟩
theorem fok98 : FnOk 98 Tryz.f98 := ⟨Tryz.func98, by kernel_rfl, by kernel_rfl⟩
theorem fok99 : FnOk 99 Tryz.f99 := ⟨Tryz.func99, by kernel_rfl, by kernel_rfl⟩
theorem fok101 : FnOk 101 Tryz.f101 := ⟨Tryz.func101, by kernel_rfl, by kernel_rfl⟩
theorem fok102 : FnOk 102 Tryz.f102 := ⟨Tryz.func102, by kernel_rfl, by kernel_rfl⟩
theorem fok103 : FnOk 103 Tryz.f103 := ⟨Tryz.func103, by kernel_rfl, by kernel_rfl⟩
theorem fok104 : FnOk 104 Tryz.f104 := ⟨Tryz.func104, by kernel_rfl, by kernel_rfl⟩
theorem fok105 : FnOk 105 Tryz.f105 := ⟨Tryz.func105, by kernel_rfl, by kernel_rfl⟩
theorem fok106 : FnOk 106 Tryz.f106 := ⟨Tryz.func106, by kernel_rfl, by kernel_rfl⟩
theorem fok107 : FnOk 107 Tryz.f107 := ⟨Tryz.func107, by kernel_rfl, by kernel_rfl⟩
theorem fok108 : FnOk 108 Tryz.f108 := ⟨Tryz.func108, by kernel_rfl, by kernel_rfl⟩
theorem fok109 : FnOk 109 Tryz.f109 := ⟨Tryz.func109, by kernel_rfl, by kernel_rfl⟩
theorem fok110 : FnOk 110 Tryz.f110 := ⟨Tryz.func110, by kernel_rfl, by kernel_rfl⟩
theorem fok111 : FnOk 111 Tryz.f111 := ⟨Tryz.func111, by kernel_rfl, by kernel_rfl⟩
theorem fok112 : FnOk 112 Tryz.f112 := ⟨Tryz.func112, by kernel_rfl, by kernel_rfl⟩
theorem fok113 : FnOk 113 Tryz.f113 := ⟨Tryz.func113, by kernel_rfl, by kernel_rfl⟩
theorem fok114 : FnOk 114 Tryz.f114 := ⟨Tryz.func114, by kernel_rfl, by kernel_rfl⟩
theorem fok115 : FnOk 115 Tryz.f115 := ⟨Tryz.func115, by kernel_rfl, by kernel_rfl⟩
theorem fok116 : FnOk 116 Tryz.f116 := ⟨Tryz.func116, by kernel_rfl, by kernel_rfl⟩
theorem fok117 : FnOk 117 Tryz.f117 := ⟨Tryz.func117, by kernel_rfl, by kernel_rfl⟩
theorem fok118 : FnOk 118 Tryz.f118 := ⟨Tryz.func118, by kernel_rfl, by kernel_rfl⟩
theorem fok119 : FnOk 119 Tryz.f119 := ⟨Tryz.func119, by kernel_rfl, by kernel_rfl⟩
theorem fok120 : FnOk 120 Tryz.f120 := ⟨Tryz.func120, by kernel_rfl, by kernel_rfl⟩
theorem fok121 : FnOk 121 Tryz.f121 := ⟨Tryz.func121, by kernel_rfl, by kernel_rfl⟩
theorem fok122 : FnOk 122 Tryz.f122 := ⟨Tryz.func122, by kernel_rfl, by kernel_rfl⟩
theorem fok123 : FnOk 123 Tryz.f123 := ⟨Tryz.func123, by kernel_rfl, by kernel_rfl⟩
theorem fok124 : FnOk 124 Tryz.f124 := ⟨Tryz.func124, by kernel_rfl, by kernel_rfl⟩
theorem fok125 : FnOk 125 Tryz.f125 := ⟨Tryz.func125, by kernel_rfl, by kernel_rfl⟩
theorem fok126 : FnOk 126 Tryz.f126 := ⟨Tryz.func126, by kernel_rfl, by kernel_rfl⟩
theorem fok127 : FnOk 127 Tryz.f127 := ⟨Tryz.func127, by kernel_rfl, by kernel_rfl⟩
theorem fiTab_ok : fiTab.Every FnOk := ⟨fok65, ⟨fok34, ⟨fok18, ⟨fok10, ⟨fok6, ⟨fok4, ⟨fok3, trivial, trivial⟩, ⟨fok5, trivial, trivial⟩⟩, ⟨fok8, ⟨fok7, trivial, trivial⟩, ⟨fok9, trivial, trivial⟩⟩⟩, ⟨fok14, ⟨fok12, ⟨fok11, trivial, trivial⟩, ⟨fok13, trivial, trivial⟩⟩, ⟨fok16, ⟨fok15, trivial, trivial⟩, ⟨fok17, trivial, trivial⟩⟩⟩⟩, ⟨fok26, ⟨fok22, ⟨fok20, ⟨fok19, trivial, trivial⟩, ⟨fok21, trivial, trivial⟩⟩, ⟨fok24, ⟨fok23, trivial, trivial⟩, ⟨fok25, trivial, trivial⟩⟩⟩, ⟨fok30, ⟨fok28, ⟨fok27, trivial, trivial⟩, ⟨fok29, trivial, trivial⟩⟩, ⟨fok32, ⟨fok31, trivial, trivial⟩, ⟨fok33, trivial, trivial⟩⟩⟩⟩⟩, ⟨fok50, ⟨fok42, ⟨fok38, ⟨fok36, ⟨fok35, trivial, trivial⟩, ⟨fok37, trivial, trivial⟩⟩, ⟨fok40, ⟨fok39, trivial, trivial⟩, ⟨fok41, trivial, trivial⟩⟩⟩, ⟨fok46, ⟨fok44, ⟨fok43, trivial, trivial⟩, ⟨fok45, trivial, trivial⟩⟩, ⟨fok48, ⟨fok47, trivial, trivial⟩, ⟨fok49, trivial, trivial⟩⟩⟩⟩, ⟨fok58, ⟨fok54, ⟨fok52, ⟨fok51, trivial, trivial⟩, ⟨fok53, trivial, trivial⟩⟩, ⟨fok56, ⟨fok55, trivial, trivial⟩, ⟨fok57, trivial, trivial⟩⟩⟩, ⟨fok62, ⟨fok60, ⟨fok59, trivial, trivial⟩, ⟨fok61, trivial, trivial⟩⟩, ⟨fok64, ⟨fok63, trivial, trivial⟩, trivial⟩⟩⟩⟩⟩, ⟨fok96, ⟨fok81, ⟨fok73, ⟨fok69, ⟨fok67, ⟨fok66, trivial, trivial⟩, ⟨fok68, trivial, trivial⟩⟩, ⟨fok71, ⟨fok70, trivial, trivial⟩, ⟨fok72, trivial, trivial⟩⟩⟩, ⟨fok77, ⟨fok75, ⟨fok74, trivial, trivial⟩, ⟨fok76, trivial, trivial⟩⟩, ⟨fok79, ⟨fok78, trivial, trivial⟩, ⟨fok80, trivial, trivial⟩⟩⟩⟩, ⟨fok89, ⟨fok85, ⟨fok83, ⟨fok82, trivial, trivial⟩, ⟨fok84, trivial, trivial⟩⟩, ⟨fok87, ⟨fok86, trivial, trivial⟩, ⟨fok88, trivial, trivial⟩⟩⟩, ⟨fok93, ⟨fok91, ⟨fok90, trivial, trivial⟩, ⟨fok92, trivial, trivial⟩⟩, ⟨fok95, ⟨fok94, trivial, trivial⟩, trivial⟩⟩⟩⟩, ⟨fok113, ⟨fok105, ⟨fok101, ⟨fok98, ⟨fok97, trivial, trivial⟩, ⟨fok99, trivial, trivial⟩⟩, ⟨fok103, ⟨fok102, trivial, trivial⟩, ⟨fok104, trivial, trivial⟩⟩⟩, ⟨fok109, ⟨fok107, ⟨fok106, trivial, trivial⟩, ⟨fok108, trivial, trivial⟩⟩, ⟨fok111, ⟨fok110, trivial, trivial⟩, ⟨fok112, trivial, trivial⟩⟩⟩⟩, ⟨fok121, ⟨fok117, ⟨fok115, ⟨fok114, trivial, trivial⟩, ⟨fok116, trivial, trivial⟩⟩, ⟨fok119, ⟨fok118, trivial, trivial⟩, ⟨fok120, trivial, trivial⟩⟩⟩, ⟨fok125, ⟨fok123, ⟨fok122, trivial, trivial⟩, ⟨fok124, trivial, trivial⟩⟩, ⟨fok127, ⟨fok126, trivial, trivial⟩, trivial⟩⟩⟩⟩⟩⟩
theorem GC_ok : CtxOk Tryz.prog GC := ⟨fun _ _ h => tiTab_ok.get h, fun _ _ h => fiTab_ok.get h, by kernel_rfl⟩
theorem GS_ok : CtxOk Tryz.prog GS := ⟨fun _ _ h => tiTab_ok.get h, fun _ _ h => fiTab_ok.get h, by kernel_rfl⟩
end Go.Proofs.YtbobakclbdaepaaGreat.En
/- What the smallest functions come to: Pick, Num, May, Entry, the order of entries. -/
namespace Go.Proofs.YtbobakclbdaepaaGreat.En
open Go
set_option linter.unusedVariables false
set_option linter.unusedSimpArgs false
set_option maxRecDepth 20000
set_option maxHeartbeats 1000000
noncomputable def ss0 : List (Nat × SumF) := []
noncomputable def ll0 : List (Nat × Nat × LoopF) := []
theorem ss0_ok : ∀ x ∈ ss0, SumOk Tryz.prog x.1 x.2 := fun x h => absurd h List.not_mem_nil
theorem ll0_ok : ∀ x ∈ ll0, LoopOk Tryz.prog x.2.2 := fun x h => absurd h List.not_mem_nil
theorem pick_eq (n m : Int) (h : 0 < m) : n % m = if n.tmod m < 0 then n.tmod m + m else n.tmod m := by
  have h1 := Int.emod_nonneg n (by omega : m ≠ 0)
  have h2 := Int.emod_lt_of_pos n h
  rw [Int.tmod_eq_emod]
  split <;> split <;> omega
def cmpI (a b : Int) : Int := if a < b then -1 else if b < a then 1 else 0
def orI (a b c d e : Int) : Int := if a ≠ 0 then a else if b ≠ 0 then b else if c ≠ 0 then c else if d ≠ 0 then d else if e ≠ 0 then e else 0

noncomputable def GPA1 : Ctx := GS.with ss0 ll0
noncomputable def tgt_Pick (n m : Int) : T CallOut := evCallW [] GPA1 300 7 [AI n, AI m] [] 0
noncomputable def tgt_Compare (a b : Int) : T CallOut := evCallW [] GPA1 300 84 [AI a, AI b] [] 0
theorem GKPA1 : KnownOk Tryz.prog GPA1 := KnownOk.lists ss0_ok ll0_ok
theorem GOPA1 : CtxOk Tryz.prog GPA1 := GS_ok.with _ _
theorem tree_Pick (n m : Int) : (tgt_Pick n m).over (.br .skip (.br .leaf .leaf)) = T.br (decide (m = (0 : Int))) T.bad (T.br (decide (Int.tmod n m < (0 : Int))) (T.ret (out0 (SV.v (AI (IntKind.wrap IntKind.i64 (Int.tmod n m + m)))))) (T.ret (out0 (SV.v (AI (Int.tmod n m)))))) := by kernel_rfl
theorem res_Pick (n m : Int) (h : 0 < m ∧ m ≤ 9223372036854775807) : (tgt_Pick n m).res = some (out0 (.v (AI (n % m)))) := by
  refine T.over_eq _ (tree_Pick n m) ?_
  simp only [T.res_br, T.res_ret, T.res_bad]
  have h0 : decide (m = 0) = false := by simp; omega
  have h1 := Int.tmod_lt_of_pos n h.1
  have h2 : -m < n.tmod m := by have := Int.lt_tmod_of_pos n h.1; omega
  rw [h0, pick_eq n m h.1]
  simp only [Bool.false_eq_true, if_false, decide_eq_true_eq]
  split
  · rw [wrapI (by omega)]
  · rfl
noncomputable def F_Pick : SumF
  | [.one (.f (.lit (.int .i64 n))), .one (.f (.lit (.int .i64 m)))], [], 0 => .need (decide (0 < m ∧ m ≤ 9223372036854775807)) (.ret (out0 (.v (AI (n % m)))))
  | _, _, _ => .bad
theorem sum_Pick : SumOk Tryz.prog 7 F_Pick := by
  refine ⟨fun args H nx r hr => ?_, fun args H nx => ?_⟩
  · unfold F_Pick at hr
    split at hr
    · obtain ⟨h, hr⟩ := T.need_some hr
      have := T.ret_some hr
      subst this
      exact evCallW_ok GOPA1 GKPA1 (res_Pick _ _ (of_decide_eq_true h))
    · exact (T.bad_some hr).elim
  · unfold F_Pick
    split
    · exact T.Every.need ⟨Nat.zero_le _, fun b hb hw => absurd hb (Nat.not_lt_zero b)⟩
    · trivial
noncomputable def sm_Pick : SumF := canonSum F_Pick
theorem sm_Pick_ok : SumOk Tryz.prog 7 sm_Pick := canonSum_ok sum_Pick
noncomputable def ss_Pick : List (Nat × SumF) := (7, sm_Pick) :: ss0
theorem ss_Pick_ok : ∀ x ∈ ss_Pick, SumOk Tryz.prog x.1 x.2 := List.forall_mem_cons.2 ⟨sm_Pick_ok, ss0_ok⟩
theorem tree_Compare (a b : Int) : (tgt_Compare a b).over (.br (.br .leaf .leaf) (.br .leaf (.br .leaf (.br .leaf .leaf)))) = T.br (a != a) (T.br (b != b) (T.ret (out0 (SV.v (AI (0 : Int))))) (T.ret (out0 (SV.v (AI (-1 : Int)))))) (T.br (b != b) (T.ret (out0 (SV.v (AI (1 : Int))))) (T.br (decide (a < b)) (T.ret (out0 (SV.v (AI (-1 : Int))))) (T.br (decide (a > b)) (T.ret (out0 (SV.v (AI (1 : Int))))) (T.ret (out0 (SV.v (AI (0 : Int)))))))) := by kernel_rfl
theorem res_Compare (a b : Int) : (tgt_Compare a b).res = some (out0 (.v (AI (cmpI a b)))) := by
  refine T.over_eq _ (tree_Compare a b) ?_
  simp only [T.res_br, T.res_ret, T.res_bad]
  simp only [cmpI, bne_self_eq_false, Bool.false_eq_true, if_false, decide_eq_true_eq, gt_iff_lt]
  repeat' split
  all_goals rfl
noncomputable def F_Compare : SumF
  | [.one (.f (.lit (.int .i64 a))), .one (.f (.lit (.int .i64 b)))], [], 0 => .ret (out0 (.v (AI (cmpI a b))))
  | _, _, _ => .bad
theorem sum_Compare : SumOk Tryz.prog 84 F_Compare := by
  refine ⟨fun args H nx r hr => ?_, fun args H nx => ?_⟩
  · unfold F_Compare at hr
    split at hr
    · have := T.ret_some hr
      subst this
      exact evCallW_ok GOPA1 GKPA1 (res_Compare _ _)
    · exact (T.bad_some hr).elim
  · unfold F_Compare
    split
    · exact ⟨Nat.zero_le _, fun b hb hw => absurd hb (Nat.not_lt_zero b)⟩
    · trivial
noncomputable def sm_Compare : SumF := canonSum F_Compare
theorem sm_Compare_ok : SumOk Tryz.prog 84 sm_Compare := canonSum_ok sum_Compare
noncomputable def ss_Compare : List (Nat × SumF) := (84, sm_Compare) :: ss_Pick
theorem ss_Compare_ok : ∀ x ∈ ss_Compare, SumOk Tryz.prog x.1 x.2 := List.forall_mem_cons.2 ⟨sm_Compare_ok, ss_Pick_ok⟩
structure Ent where
  inc : Int
  st : Int
  stamp : Int
  load : Int
  dr : Bool
abbrev Ent.cv (a : Ent) : List CV := [I a.inc, I a.st, I a.stamp, I a.load, Bo a.dr]
abbrev Ent.fs (a : Ent) : List FV := [.lit (.int .i64 a.inc), .lit (.int .i64 a.st), .lit (.int .i64 a.stamp), .lit (.int .i64 a.load), .lit (.bool a.dr)]
def compI (a b : Ent) : Int := orI (cmpI a.inc b.inc) (cmpI a.st b.st) (cmpI a.stamp b.stamp) (cmpI a.load b.load) (cmpI (cond a.dr 1 0) (cond b.dr 1 0))
def lessB (a b : Ent) : Bool := decide (compI a b < 0)

def numI (n : Int) : Int :=
  if n % 7 = 0 ∨ n % 7 = 1 ∨ n % 7 = 2 then IntKind.wrap IntKind.i64 (Int.tdiv n 7) % 40
  else if n % 7 = 3 then IntKind.wrap IntKind.i64 (IntKind.wrap IntKind.i64 (1 * 2 ^ min (Int.toNat (IntKind.wrap IntKind.u64 (IntKind.wrap IntKind.i64 (Int.tdiv n 7) % 63))) 64) - IntKind.wrap IntKind.i64 (Int.tdiv n 441) % 3)
  else if n % 7 = 4 then IntKind.wrap IntKind.i64 (4611686018427387903 - IntKind.wrap IntKind.i64 (Int.tdiv n 7) % 3)
  else if n % 7 = 5 then IntKind.wrap IntKind.i64 (Int.tdiv n 7) % 1000 else n
theorem wrap_u64_pos (n : Int) : ¬ IntKind.wrap IntKind.u64 n < 0 := by simp only [IntKind.wrap, IntKind.bits, IntKind.signed]; simp; omega
def mayI (n : Int) : Int := max 0 (min (numI n) 4611686018427387903)

theorem cmpI_ne {a b : Int} : cmpI a b ≠ 0 ↔ a ≠ b := by
  unfold cmpI
  repeat' split
  all_goals omega
theorem cmpI_lt {a b : Int} : cmpI a b < 0 ↔ a < b := by
  unfold cmpI
  repeat' split
  all_goals omega
theorem lessB_eq (a b : Ent) : lessB a b = if a.inc ≠ b.inc then decide (a.inc < b.inc) else if a.st ≠ b.st then decide (a.st < b.st) else if a.stamp ≠ b.stamp then decide (a.stamp < b.stamp) else if a.load ≠ b.load then decide (a.load < b.load) else !a.dr && b.dr := by
  obtain ⟨a1, a2, a3, a4, a5⟩ := a
  obtain ⟨b1, b2, b3, b4, b5⟩ := b
  simp only [lessB, compI, orI, cmpI_ne]
  by_cases h1 : a1 = b1 <;> by_cases h2 : a2 = b2 <;> by_cases h3 : a3 = b3 <;> by_cases h4 : a4 = b4 <;> simp only [h1, h2, h3, h4, ne_eq, not_true, not_false_eq_true, if_true, if_false, cmpI_lt]
  cases a5 <;> cases b5 <;> simp [cmpI]
def entR (a : Ent) : Ent := ⟨a.inc % 4, a.st % 3, if a.inc % 19 = 18 then mayI a.stamp else a.stamp % 5, a.load % 12, a.dr⟩

end Go.Proofs.YtbobakclbdaepaaGreat.En
/- The engine, part 35: patterns without numerals. -/
namespace Go.Proofs.YtbobakclbdaepaaGreat.En
open Go
set_option linter.unusedVariables false
set_option linter.unusedSimpArgs false

/-- the values under just these keys -/
def keyed {α : Type} : List Nat → List (Nat × α) → Option (List α)
  | [], [] => some []
  | k :: ks, (j, x) :: r => match Nat.beq j k with
    | true => match keyed ks r with
      | some l => some (x :: l)
      | none => none
    | false => none
  | _, _ => none

theorem keyed_eq {α : Type} : ∀ {ks : List Nat} {l : List (Nat × α)} {vs : List α}, keyed ks l = some vs → l = ks.zip vs
  | [], [], vs, h => by cases h; rfl
  | [], _ :: _, vs, h => by cases h
  | _ :: _, [], vs, h => by cases h
  | k :: ks, (j, x) :: r, vs, h => by
    simp only [keyed] at h
    split at h
    · rename_i hj
      split at h
      · rename_i l hl
        cases h
        have := Nat.eq_of_beq_eq_true hj
        subst this
        rw [keyed_eq hl]; rfl
      · cases h
    · cases h

theorem nbeq_iff {a b : Nat} : Nat.beq a b = true ↔ a = b := ⟨Nat.eq_of_beq_eq_true, fun h => h ▸ Nat.beq_refl a⟩

theorem pb_no {p : Prop} (h : pb p = false) : ¬ p := fun k => by rw [pb_true k] at h; cases h

/-- where a truth holds -/
def onlyB {α : Type} (b : Bool) (t : T α) : T α := match b with | true => t | false => .bad
theorem onlyB_some {α : Type} {b : Bool} {t : T α} {a : α} (h : (onlyB b t).res = some a) : b = true ∧ t.res = some a := by
  cases b with
  | true => exact ⟨rfl, h⟩
  | false => exact (T.bad_some h).elim
theorem onlyB_every {α : Type} {b : Bool} {t : T α} {p : α → Prop} (h : T.Every p t) : T.Every p (onlyB b t) := by
  cases b with
  | true => exact h
  | false => trivial

end Go.Proofs.YtbobakclbdaepaaGreat.En
