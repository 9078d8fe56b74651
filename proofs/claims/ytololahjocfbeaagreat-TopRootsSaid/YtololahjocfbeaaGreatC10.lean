/- Texts, joined. -/
import Derived.Test.YtololahjocfbeaaGreatProg
import Derived.Test.YtololahjocfbeaaGreatC08
namespace Go.Proofs.YtololahjocfbeaaGreat
open Go Go.Sy Go.Proofs.Tryz
set_option maxRecDepth 100000
theorem mix : Tryz.prog.follows .mixedOrders = true := by kernel_rfl
theorem ty1 (K : Ty → Prop) : tyC Tryz.prog 1 K = K .func := tyC_of (by kernel_rfl) K
theorem by1 (K : Nat → Prop) : byC Tryz.prog 1 K = K 8 := byC_of (by kernel_rfl) K
theorem ty2 (K : Ty → Prop) : tyC Tryz.prog 2 K = K (.int .i64) := tyC_of (by kernel_rfl) K
theorem by2 (K : Nat → Prop) : byC Tryz.prog 2 K = K 8 := byC_of (by kernel_rfl) K
theorem ty3 (K : Ty → Prop) : tyC Tryz.prog 3 K = K (.int .i64) := tyC_of (by kernel_rfl) K
theorem by3 (K : Nat → Prop) : byC Tryz.prog 3 K = K 8 := byC_of (by kernel_rfl) K
theorem ty4 (K : Ty → Prop) : tyC Tryz.prog 4 K = K .bool := tyC_of (by kernel_rfl) K
theorem by4 (K : Nat → Prop) : byC Tryz.prog 4 K = K 1 := byC_of (by kernel_rfl) K
theorem ty5 (K : Ty → Prop) : tyC Tryz.prog 5 K = K (.int .u8) := tyC_of (by kernel_rfl) K
theorem by5 (K : Nat → Prop) : byC Tryz.prog 5 K = K 1 := byC_of (by kernel_rfl) K
theorem ty9 (K : Ty → Prop) : tyC Tryz.prog 9 K = K .str := tyC_of (by kernel_rfl) K
theorem by9 (K : Nat → Prop) : byC Tryz.prog 9 K = K 16 := byC_of (by kernel_rfl) K
theorem ty12 (K : Ty → Prop) : tyC Tryz.prog 12 K = K (.int .u64) := tyC_of (by kernel_rfl) K
theorem by12 (K : Nat → Prop) : byC Tryz.prog 12 K = K 8 := byC_of (by kernel_rfl) K
theorem ty15 (K : Ty → Prop) : tyC Tryz.prog 15 K = K (.ptr 408) := tyC_of (by kernel_rfl) K
theorem by15 (K : Nat → Prop) : byC Tryz.prog 15 K = K 8 := byC_of (by kernel_rfl) K
theorem ty16 (K : Ty → Prop) : tyC Tryz.prog 16 K = K (.ptr 411) := tyC_of (by kernel_rfl) K
theorem by16 (K : Nat → Prop) : byC Tryz.prog 16 K = K 8 := byC_of (by kernel_rfl) K
theorem ty17 (K : Ty → Prop) : tyC Tryz.prog 17 K = K (.ptr 419) := tyC_of (by kernel_rfl) K
theorem by17 (K : Nat → Prop) : byC Tryz.prog 17 K = K 8 := byC_of (by kernel_rfl) K
theorem ty21 (K : Ty → Prop) : tyC Tryz.prog 21 K = K (.int .i32) := tyC_of (by kernel_rfl) K
theorem by21 (K : Nat → Prop) : byC Tryz.prog 21 K = K 4 := byC_of (by kernel_rfl) K
theorem ty22 (K : Ty → Prop) : tyC Tryz.prog 22 K = K (.st [(.int .i64), (.int .i64)]) := tyC_of (by kernel_rfl) K
theorem by22 (K : Nat → Prop) : byC Tryz.prog 22 K = K 16 := byC_of (by kernel_rfl) K
theorem ty23 (K : Ty → Prop) : tyC Tryz.prog 23 K = K (.st [(.int .i64), (.int .i64)]) := tyC_of (by kernel_rfl) K
theorem by23 (K : Nat → Prop) : byC Tryz.prog 23 K = K 16 := byC_of (by kernel_rfl) K
theorem ty24 (K : Ty → Prop) : tyC Tryz.prog 24 K = K (.arr 32 5 (.int .u8)) := tyC_of (by kernel_rfl) K
theorem by24 (K : Nat → Prop) : byC Tryz.prog 24 K = K 32 := byC_of (by kernel_rfl) K
theorem ty25 (K : Ty → Prop) : tyC Tryz.prog 25 K = K (.arr 32 5 (.int .u8)) := tyC_of (by kernel_rfl) K
theorem by25 (K : Nat → Prop) : byC Tryz.prog 25 K = K 32 := byC_of (by kernel_rfl) K
theorem ty26 (K : Ty → Prop) : tyC Tryz.prog 26 K = K (.st [(.st [(.int .i64), (.int .i64)]), (.int .i64), (.arr 32 5 (.int .u8)), (.arr 32 5 (.int .u8))]) := tyC_of (by kernel_rfl) K
theorem by26 (K : Nat → Prop) : byC Tryz.prog 26 K = K 88 := byC_of (by kernel_rfl) K
theorem ty27 (K : Ty → Prop) : tyC Tryz.prog 27 K = K (.st [(.st [(.int .i64), (.int .i64)]), (.int .i64), (.arr 32 5 (.int .u8)), (.arr 32 5 (.int .u8))]) := tyC_of (by kernel_rfl) K
theorem by27 (K : Nat → Prop) : byC Tryz.prog 27 K = K 88 := byC_of (by kernel_rfl) K
theorem ty28 (K : Ty → Prop) : tyC Tryz.prog 28 K = K (.slice 52) := tyC_of (by kernel_rfl) K
theorem by28 (K : Nat → Prop) : byC Tryz.prog 28 K = K 24 := byC_of (by kernel_rfl) K
theorem ty29 (K : Ty → Prop) : tyC Tryz.prog 29 K = K .func := tyC_of (by kernel_rfl) K
theorem by29 (K : Nat → Prop) : byC Tryz.prog 29 K = K 8 := byC_of (by kernel_rfl) K
theorem ty30 (K : Ty → Prop) : tyC Tryz.prog 30 K = K .func := tyC_of (by kernel_rfl) K
theorem by30 (K : Nat → Prop) : byC Tryz.prog 30 K = K 8 := byC_of (by kernel_rfl) K
theorem ty31 (K : Ty → Prop) : tyC Tryz.prog 31 K = K (.ptr 119) := tyC_of (by kernel_rfl) K
theorem by31 (K : Nat → Prop) : byC Tryz.prog 31 K = K 8 := byC_of (by kernel_rfl) K
theorem ty32 (K : Ty → Prop) : tyC Tryz.prog 32 K = K (.slice 3) := tyC_of (by kernel_rfl) K
theorem by32 (K : Nat → Prop) : byC Tryz.prog 32 K = K 24 := byC_of (by kernel_rfl) K
theorem ty33 (K : Ty → Prop) : tyC Tryz.prog 33 K = K (.int .i64) := tyC_of (by kernel_rfl) K
theorem by33 (K : Nat → Prop) : byC Tryz.prog 33 K = K 8 := byC_of (by kernel_rfl) K
theorem ty35 (K : Ty → Prop) : tyC Tryz.prog 35 K = K .func := tyC_of (by kernel_rfl) K
theorem by35 (K : Nat → Prop) : byC Tryz.prog 35 K = K 8 := byC_of (by kernel_rfl) K
theorem ty36 (K : Ty → Prop) : tyC Tryz.prog 36 K = K (.slice 9) := tyC_of (by kernel_rfl) K
theorem by36 (K : Nat → Prop) : byC Tryz.prog 36 K = K 24 := byC_of (by kernel_rfl) K
theorem ty37 (K : Ty → Prop) : tyC Tryz.prog 37 K = K (.slice 44) := tyC_of (by kernel_rfl) K
theorem by37 (K : Nat → Prop) : byC Tryz.prog 37 K = K 24 := byC_of (by kernel_rfl) K
theorem ty38 (K : Ty → Prop) : tyC Tryz.prog 38 K = K .func := tyC_of (by kernel_rfl) K
theorem by38 (K : Nat → Prop) : byC Tryz.prog 38 K = K 8 := byC_of (by kernel_rfl) K
theorem ty39 (K : Ty → Prop) : tyC Tryz.prog 39 K = K (.slice 176) := tyC_of (by kernel_rfl) K
theorem by39 (K : Nat → Prop) : byC Tryz.prog 39 K = K 24 := byC_of (by kernel_rfl) K
theorem ty40 (K : Ty → Prop) : tyC Tryz.prog 40 K = K (.st [(.int .i64), (.arr 32 5 (.int .u8)), (.slice 176)]) := tyC_of (by kernel_rfl) K
theorem by40 (K : Nat → Prop) : byC Tryz.prog 40 K = K 64 := byC_of (by kernel_rfl) K
theorem ty41 (K : Ty → Prop) : tyC Tryz.prog 41 K = K (.st [(.int .i64), (.arr 32 5 (.int .u8)), (.slice 176)]) := tyC_of (by kernel_rfl) K
theorem by41 (K : Nat → Prop) : byC Tryz.prog 41 K = K 64 := byC_of (by kernel_rfl) K
theorem ty42 (K : Ty → Prop) : tyC Tryz.prog 42 K = K (.slice 5) := tyC_of (by kernel_rfl) K
theorem by42 (K : Nat → Prop) : byC Tryz.prog 42 K = K 24 := byC_of (by kernel_rfl) K
theorem ty43 (K : Ty → Prop) : tyC Tryz.prog 43 K = K (.st [(.int .i64), (.slice 5), (.st [(.int .i64), (.arr 32 5 (.int .u8)), (.slice 176)])]) := tyC_of (by kernel_rfl) K
theorem by43 (K : Nat → Prop) : byC Tryz.prog 43 K = K 96 := byC_of (by kernel_rfl) K
theorem ty44 (K : Ty → Prop) : tyC Tryz.prog 44 K = K (.st [(.int .i64), (.slice 5), (.st [(.int .i64), (.arr 32 5 (.int .u8)), (.slice 176)])]) := tyC_of (by kernel_rfl) K
theorem by44 (K : Nat → Prop) : byC Tryz.prog 44 K = K 96 := byC_of (by kernel_rfl) K
theorem ty45 (K : Ty → Prop) : tyC Tryz.prog 45 K = K .func := tyC_of (by kernel_rfl) K
theorem by45 (K : Nat → Prop) : byC Tryz.prog 45 K = K 8 := byC_of (by kernel_rfl) K
theorem ty46 (K : Ty → Prop) : tyC Tryz.prog 46 K = K .func := tyC_of (by kernel_rfl) K
theorem by46 (K : Nat → Prop) : byC Tryz.prog 46 K = K 8 := byC_of (by kernel_rfl) K
theorem ty47 (K : Ty → Prop) : tyC Tryz.prog 47 K = K .func := tyC_of (by kernel_rfl) K
theorem by47 (K : Nat → Prop) : byC Tryz.prog 47 K = K 8 := byC_of (by kernel_rfl) K
theorem ty49 (K : Ty → Prop) : tyC Tryz.prog 49 K = K .func := tyC_of (by kernel_rfl) K
theorem by49 (K : Nat → Prop) : byC Tryz.prog 49 K = K 8 := byC_of (by kernel_rfl) K
theorem ty50 (K : Ty → Prop) : tyC Tryz.prog 50 K = K .func := tyC_of (by kernel_rfl) K
theorem by50 (K : Nat → Prop) : byC Tryz.prog 50 K = K 8 := byC_of (by kernel_rfl) K
theorem ty51 (K : Ty → Prop) : tyC Tryz.prog 51 K = K (.st [(.int .i64), (.int .i64), (.slice 5), (.slice 5), (.slice 3)]) := tyC_of (by kernel_rfl) K
theorem by51 (K : Nat → Prop) : byC Tryz.prog 51 K = K 88 := byC_of (by kernel_rfl) K
theorem ty52 (K : Ty → Prop) : tyC Tryz.prog 52 K = K (.st [(.int .i64), (.int .i64), (.slice 5), (.slice 5), (.slice 3)]) := tyC_of (by kernel_rfl) K
theorem by52 (K : Nat → Prop) : byC Tryz.prog 52 K = K 88 := byC_of (by kernel_rfl) K
theorem ty53 (K : Ty → Prop) : tyC Tryz.prog 53 K = K (.ptr 135) := tyC_of (by kernel_rfl) K
theorem by53 (K : Nat → Prop) : byC Tryz.prog 53 K = K 8 := byC_of (by kernel_rfl) K
theorem ty54 (K : Ty → Prop) : tyC Tryz.prog 54 K = K .func := tyC_of (by kernel_rfl) K
theorem by54 (K : Nat → Prop) : byC Tryz.prog 54 K = K 8 := byC_of (by kernel_rfl) K
theorem ty55 (K : Ty → Prop) : tyC Tryz.prog 55 K = K .func := tyC_of (by kernel_rfl) K
theorem by55 (K : Nat → Prop) : byC Tryz.prog 55 K = K 8 := byC_of (by kernel_rfl) K
theorem ty56 (K : Ty → Prop) : tyC Tryz.prog 56 K = K (.slice 72) := tyC_of (by kernel_rfl) K
theorem by56 (K : Nat → Prop) : byC Tryz.prog 56 K = K 24 := byC_of (by kernel_rfl) K
theorem ty57 (K : Ty → Prop) : tyC Tryz.prog 57 K = K .func := tyC_of (by kernel_rfl) K
theorem by57 (K : Nat → Prop) : byC Tryz.prog 57 K = K 8 := byC_of (by kernel_rfl) K
theorem ty58 (K : Ty → Prop) : tyC Tryz.prog 58 K = K .func := tyC_of (by kernel_rfl) K
theorem by58 (K : Nat → Prop) : byC Tryz.prog 58 K = K 8 := byC_of (by kernel_rfl) K
theorem ty59 (K : Ty → Prop) : tyC Tryz.prog 59 K = K .func := tyC_of (by kernel_rfl) K
theorem by59 (K : Nat → Prop) : byC Tryz.prog 59 K = K 8 := byC_of (by kernel_rfl) K
theorem ty60 (K : Ty → Prop) : tyC Tryz.prog 60 K = K .func := tyC_of (by kernel_rfl) K
theorem by60 (K : Nat → Prop) : byC Tryz.prog 60 K = K 8 := byC_of (by kernel_rfl) K
theorem ty61 (K : Ty → Prop) : tyC Tryz.prog 61 K = K (.ptr 66) := tyC_of (by kernel_rfl) K
theorem by61 (K : Nat → Prop) : byC Tryz.prog 61 K = K 8 := byC_of (by kernel_rfl) K
theorem ty62 (K : Ty → Prop) : tyC Tryz.prog 62 K = K (.ptr 140) := tyC_of (by kernel_rfl) K
theorem by62 (K : Nat → Prop) : byC Tryz.prog 62 K = K 8 := byC_of (by kernel_rfl) K
theorem ty63 (K : Ty → Prop) : tyC Tryz.prog 63 K = K .func := tyC_of (by kernel_rfl) K
theorem by63 (K : Nat → Prop) : byC Tryz.prog 63 K = K 8 := byC_of (by kernel_rfl) K
theorem ty64 (K : Ty → Prop) : tyC Tryz.prog 64 K = K (.ptr 143) := tyC_of (by kernel_rfl) K
theorem by64 (K : Nat → Prop) : byC Tryz.prog 64 K = K 8 := byC_of (by kernel_rfl) K
theorem ty65 (K : Ty → Prop) : tyC Tryz.prog 65 K = K (.st [(.st [(.st [(.int .i64), (.int .i64)]), (.int .i64), (.arr 32 5 (.int .u8)), (.arr 32 5 (.int .u8))]), (.ptr 143), (.ptr 140), (.ptr 135)]) := tyC_of (by kernel_rfl) K
theorem by65 (K : Nat → Prop) : byC Tryz.prog 65 K = K 112 := byC_of (by kernel_rfl) K
theorem ty66 (K : Ty → Prop) : tyC Tryz.prog 66 K = K (.st [(.st [(.st [(.int .i64), (.int .i64)]), (.int .i64), (.arr 32 5 (.int .u8)), (.arr 32 5 (.int .u8))]), (.ptr 143), (.ptr 140), (.ptr 135)]) := tyC_of (by kernel_rfl) K
theorem by66 (K : Nat → Prop) : byC Tryz.prog 66 K = K 112 := byC_of (by kernel_rfl) K
theorem ty68 (K : Ty → Prop) : tyC Tryz.prog 68 K = K .func := tyC_of (by kernel_rfl) K
theorem by68 (K : Nat → Prop) : byC Tryz.prog 68 K = K 8 := byC_of (by kernel_rfl) K
theorem ty71 (K : Ty → Prop) : tyC Tryz.prog 71 K = K (.st [(.int .i64), (.int .i64), (.arr 32 5 (.int .u8)), (.arr 32 5 (.int .u8))]) := tyC_of (by kernel_rfl) K
theorem by71 (K : Nat → Prop) : byC Tryz.prog 71 K = K 80 := byC_of (by kernel_rfl) K
theorem ty72 (K : Ty → Prop) : tyC Tryz.prog 72 K = K (.st [(.int .i64), (.int .i64), (.arr 32 5 (.int .u8)), (.arr 32 5 (.int .u8))]) := tyC_of (by kernel_rfl) K
theorem by72 (K : Nat → Prop) : byC Tryz.prog 72 K = K 80 := byC_of (by kernel_rfl) K
theorem ty75 (K : Ty → Prop) : tyC Tryz.prog 75 K = K .func := tyC_of (by kernel_rfl) K
theorem by75 (K : Nat → Prop) : byC Tryz.prog 75 K = K 8 := byC_of (by kernel_rfl) K
theorem ty77 (K : Ty → Prop) : tyC Tryz.prog 77 K = K .func := tyC_of (by kernel_rfl) K
theorem by77 (K : Nat → Prop) : byC Tryz.prog 77 K = K 8 := byC_of (by kernel_rfl) K
theorem ty78 (K : Ty → Prop) : tyC Tryz.prog 78 K = K .func := tyC_of (by kernel_rfl) K
theorem by78 (K : Nat → Prop) : byC Tryz.prog 78 K = K 8 := byC_of (by kernel_rfl) K
theorem ty79 (K : Ty → Prop) : tyC Tryz.prog 79 K = K (.st [(.st [(.int .i64), (.int .i64)]), (.arr 32 5 (.int .u8)), (.arr 32 5 (.int .u8))]) := tyC_of (by kernel_rfl) K
theorem by79 (K : Nat → Prop) : byC Tryz.prog 79 K = K 80 := byC_of (by kernel_rfl) K
theorem ty80 (K : Ty → Prop) : tyC Tryz.prog 80 K = K (.st [(.st [(.int .i64), (.int .i64)]), (.arr 32 5 (.int .u8)), (.arr 32 5 (.int .u8))]) := tyC_of (by kernel_rfl) K
theorem by80 (K : Nat → Prop) : byC Tryz.prog 80 K = K 80 := byC_of (by kernel_rfl) K
theorem ty82 (K : Ty → Prop) : tyC Tryz.prog 82 K = K .func := tyC_of (by kernel_rfl) K
theorem by82 (K : Nat → Prop) : byC Tryz.prog 82 K = K 8 := byC_of (by kernel_rfl) K
theorem ty84 (K : Ty → Prop) : tyC Tryz.prog 84 K = K .func := tyC_of (by kernel_rfl) K
theorem by84 (K : Nat → Prop) : byC Tryz.prog 84 K = K 8 := byC_of (by kernel_rfl) K
theorem ty86 (K : Ty → Prop) : tyC Tryz.prog 86 K = K (.slice 25) := tyC_of (by kernel_rfl) K
theorem by86 (K : Nat → Prop) : byC Tryz.prog 86 K = K 24 := byC_of (by kernel_rfl) K
theorem ty89 (K : Ty → Prop) : tyC Tryz.prog 89 K = K (.st [(.slice 94), (.arr 32 5 (.int .u8)), (.st [(.arr 32 5 (.int .u8)), (.slice 25)])]) := tyC_of (by kernel_rfl) K
theorem by89 (K : Nat → Prop) : byC Tryz.prog 89 K = K 112 := byC_of (by kernel_rfl) K
theorem ty90 (K : Ty → Prop) : tyC Tryz.prog 90 K = K (.st [(.slice 94), (.arr 32 5 (.int .u8)), (.st [(.arr 32 5 (.int .u8)), (.slice 25)])]) := tyC_of (by kernel_rfl) K
theorem by90 (K : Nat → Prop) : byC Tryz.prog 90 K = K 112 := byC_of (by kernel_rfl) K
theorem ty92 (K : Ty → Prop) : tyC Tryz.prog 92 K = K .func := tyC_of (by kernel_rfl) K
theorem by92 (K : Nat → Prop) : byC Tryz.prog 92 K = K 8 := byC_of (by kernel_rfl) K
theorem ty93 (K : Ty → Prop) : tyC Tryz.prog 93 K = K (.st [(.int .i64), (.slice 5), (.arr 32 5 (.int .u8)), (.arr 32 5 (.int .u8)), (.st [(.arr 32 5 (.int .u8)), (.slice 25)])]) := tyC_of (by kernel_rfl) K
theorem by93 (K : Nat → Prop) : byC Tryz.prog 93 K = K 152 := byC_of (by kernel_rfl) K
theorem ty94 (K : Ty → Prop) : tyC Tryz.prog 94 K = K (.st [(.int .i64), (.slice 5), (.arr 32 5 (.int .u8)), (.arr 32 5 (.int .u8)), (.st [(.arr 32 5 (.int .u8)), (.slice 25)])]) := tyC_of (by kernel_rfl) K
theorem by94 (K : Nat → Prop) : byC Tryz.prog 94 K = K 152 := byC_of (by kernel_rfl) K
theorem ty97 (K : Ty → Prop) : tyC Tryz.prog 97 K = K .func := tyC_of (by kernel_rfl) K
theorem by97 (K : Nat → Prop) : byC Tryz.prog 97 K = K 8 := byC_of (by kernel_rfl) K
theorem ty100 (K : Ty → Prop) : tyC Tryz.prog 100 K = K .func := tyC_of (by kernel_rfl) K
theorem by100 (K : Nat → Prop) : byC Tryz.prog 100 K = K 8 := byC_of (by kernel_rfl) K
theorem ty107 (K : Ty → Prop) : tyC Tryz.prog 107 K = K .func := tyC_of (by kernel_rfl) K
theorem by107 (K : Nat → Prop) : byC Tryz.prog 107 K = K 8 := byC_of (by kernel_rfl) K
theorem ty117 (K : Ty → Prop) : tyC Tryz.prog 117 K = K (.slice 42) := tyC_of (by kernel_rfl) K
theorem by117 (K : Nat → Prop) : byC Tryz.prog 117 K = K 24 := byC_of (by kernel_rfl) K
theorem ty118 (K : Ty → Prop) : tyC Tryz.prog 118 K = K (.st [(.st [(.st [(.int .i64), (.int .i64)]), (.int .i64), (.arr 32 5 (.int .u8)), (.arr 32 5 (.int .u8))]), (.ptr 143), (.ptr 140), (.ptr 135), (.slice 42), (.slice 44)]) := tyC_of (by kernel_rfl) K
theorem by118 (K : Nat → Prop) : byC Tryz.prog 118 K = K 160 := byC_of (by kernel_rfl) K
theorem ty119 (K : Ty → Prop) : tyC Tryz.prog 119 K = K (.st [(.st [(.st [(.int .i64), (.int .i64)]), (.int .i64), (.arr 32 5 (.int .u8)), (.arr 32 5 (.int .u8))]), (.ptr 143), (.ptr 140), (.ptr 135), (.slice 42), (.slice 44)]) := tyC_of (by kernel_rfl) K
theorem by119 (K : Nat → Prop) : byC Tryz.prog 119 K = K 160 := byC_of (by kernel_rfl) K
theorem ty121 (K : Ty → Prop) : tyC Tryz.prog 121 K = K .func := tyC_of (by kernel_rfl) K
theorem by121 (K : Nat → Prop) : byC Tryz.prog 121 K = K 8 := byC_of (by kernel_rfl) K
theorem ty124 (K : Ty → Prop) : tyC Tryz.prog 124 K = K (.map 3 121) := tyC_of (by kernel_rfl) K
theorem by124 (K : Nat → Prop) : byC Tryz.prog 124 K = K 8 := byC_of (by kernel_rfl) K
theorem ty125 (K : Ty → Prop) : tyC Tryz.prog 125 K = K (.slice 153) := tyC_of (by kernel_rfl) K
theorem by125 (K : Nat → Prop) : byC Tryz.prog 125 K = K 24 := byC_of (by kernel_rfl) K
theorem ty126 (K : Ty → Prop) : tyC Tryz.prog 126 K = K (.slice 229) := tyC_of (by kernel_rfl) K
theorem by126 (K : Nat → Prop) : byC Tryz.prog 126 K = K 24 := byC_of (by kernel_rfl) K
theorem ty127 (K : Ty → Prop) : tyC Tryz.prog 127 K = K (.map 9 149) := tyC_of (by kernel_rfl) K
theorem by127 (K : Nat → Prop) : byC Tryz.prog 127 K = K 8 := byC_of (by kernel_rfl) K
theorem ty128 (K : Ty → Prop) : tyC Tryz.prog 128 K = K (.map 9 117) := tyC_of (by kernel_rfl) K
theorem by128 (K : Nat → Prop) : byC Tryz.prog 128 K = K 8 := byC_of (by kernel_rfl) K
theorem ty130 (K : Ty → Prop) : tyC Tryz.prog 130 K = K (.st [(.arr 32 5 (.int .u8)), (.slice 153), (.slice 229), (.map 9 149), (.map 9 117)]) := tyC_of (by kernel_rfl) K
theorem by130 (K : Nat → Prop) : byC Tryz.prog 130 K = K 96 := byC_of (by kernel_rfl) K
theorem ty131 (K : Ty → Prop) : tyC Tryz.prog 131 K = K (.ptr 216) := tyC_of (by kernel_rfl) K
theorem by131 (K : Nat → Prop) : byC Tryz.prog 131 K = K 8 := byC_of (by kernel_rfl) K
theorem ty132 (K : Ty → Prop) : tyC Tryz.prog 132 K = K (.ptr 295) := tyC_of (by kernel_rfl) K
theorem by132 (K : Nat → Prop) : byC Tryz.prog 132 K = K 8 := byC_of (by kernel_rfl) K
theorem ty133 (K : Ty → Prop) : tyC Tryz.prog 133 K = K (.slice 149) := tyC_of (by kernel_rfl) K
theorem by133 (K : Nat → Prop) : byC Tryz.prog 133 K = K 24 := byC_of (by kernel_rfl) K
theorem ty135 (K : Ty → Prop) : tyC Tryz.prog 135 K = K (.st [(.st [(.arr 32 5 (.int .u8)), (.slice 153), (.slice 229), (.map 9 149), (.map 9 117)]), (.st [(.st [(.int .i64), (.int .i64)]), (.int .i64), (.arr 32 5 (.int .u8)), (.arr 32 5 (.int .u8))]), (.ptr 143), (.ptr 216), (.ptr 295), (.int .i64), (.slice 149), .bool]) := tyC_of (by kernel_rfl) K
theorem by135 (K : Nat → Prop) : byC Tryz.prog 135 K = K 248 := byC_of (by kernel_rfl) K
theorem ty136 (K : Ty → Prop) : tyC Tryz.prog 136 K = K .func := tyC_of (by kernel_rfl) K
theorem by136 (K : Nat → Prop) : byC Tryz.prog 136 K = K 8 := byC_of (by kernel_rfl) K
theorem ty138 (K : Ty → Prop) : tyC Tryz.prog 138 K = K (.st [(.int .i64), (.int .i64), (.int .i64)]) := tyC_of (by kernel_rfl) K
theorem by138 (K : Nat → Prop) : byC Tryz.prog 138 K = K 24 := byC_of (by kernel_rfl) K
theorem ty139 (K : Ty → Prop) : tyC Tryz.prog 139 K = K (.st [(.st [(.int .i64), (.int .i64), (.int .i64)])]) := tyC_of (by kernel_rfl) K
theorem by139 (K : Nat → Prop) : byC Tryz.prog 139 K = K 24 := byC_of (by kernel_rfl) K
theorem ty140 (K : Ty → Prop) : tyC Tryz.prog 140 K = K (.st [(.st [(.int .i64), (.int .i64), (.int .i64)])]) := tyC_of (by kernel_rfl) K
theorem by140 (K : Nat → Prop) : byC Tryz.prog 140 K = K 24 := byC_of (by kernel_rfl) K
theorem ty141 (K : Ty → Prop) : tyC Tryz.prog 141 K = K (.slice 201) := tyC_of (by kernel_rfl) K
theorem by141 (K : Nat → Prop) : byC Tryz.prog 141 K = K 24 := byC_of (by kernel_rfl) K
theorem ty143 (K : Ty → Prop) : tyC Tryz.prog 143 K = K (.st [(.int .i64), (.slice 5), (.slice 201), .bool, .bool, (.int .i64), (.slice 3)]) := tyC_of (by kernel_rfl) K
theorem by143 (K : Nat → Prop) : byC Tryz.prog 143 K = K 96 := byC_of (by kernel_rfl) K
theorem ty145 (K : Ty → Prop) : tyC Tryz.prog 145 K = K .func := tyC_of (by kernel_rfl) K
theorem by145 (K : Nat → Prop) : byC Tryz.prog 145 K = K 8 := byC_of (by kernel_rfl) K
theorem ty148 (K : Ty → Prop) : tyC Tryz.prog 148 K = K (.st [.str, (.int .i64), (.slice 5)]) := tyC_of (by kernel_rfl) K
theorem by148 (K : Nat → Prop) : byC Tryz.prog 148 K = K 48 := byC_of (by kernel_rfl) K
theorem ty149 (K : Ty → Prop) : tyC Tryz.prog 149 K = K (.st [.str, (.int .i64), (.slice 5)]) := tyC_of (by kernel_rfl) K
theorem by149 (K : Nat → Prop) : byC Tryz.prog 149 K = K 48 := byC_of (by kernel_rfl) K
theorem ty153 (K : Ty → Prop) : tyC Tryz.prog 153 K = K (.st [(.int .i64), (.int .i64), (.slice 149), (.arr 32 5 (.int .u8))]) := tyC_of (by kernel_rfl) K
theorem by153 (K : Nat → Prop) : byC Tryz.prog 153 K = K 72 := byC_of (by kernel_rfl) K
theorem ty164 (K : Ty → Prop) : tyC Tryz.prog 164 K = K (.ptr 166) := tyC_of (by kernel_rfl) K
theorem by164 (K : Nat → Prop) : byC Tryz.prog 164 K = K 8 := byC_of (by kernel_rfl) K
theorem ty166 (K : Ty → Prop) : tyC Tryz.prog 166 K = K (.st [(.slice 5)]) := tyC_of (by kernel_rfl) K
theorem by166 (K : Nat → Prop) : byC Tryz.prog 166 K = K 24 := byC_of (by kernel_rfl) K
theorem ty172 (K : Ty → Prop) : tyC Tryz.prog 172 K = K (.st [(.arr 32 5 (.int .u8)), (.arr 32 5 (.int .u8)), (.arr 32 5 (.int .u8))]) := tyC_of (by kernel_rfl) K
theorem by172 (K : Nat → Prop) : byC Tryz.prog 172 K = K 96 := byC_of (by kernel_rfl) K
theorem ty176 (K : Ty → Prop) : tyC Tryz.prog 176 K = K (.st [(.slice 25), (.slice 25)]) := tyC_of (by kernel_rfl) K
theorem by176 (K : Nat → Prop) : byC Tryz.prog 176 K = K 48 := byC_of (by kernel_rfl) K
theorem ty178 (K : Ty → Prop) : tyC Tryz.prog 178 K = K .func := tyC_of (by kernel_rfl) K
theorem by178 (K : Nat → Prop) : byC Tryz.prog 178 K = K 8 := byC_of (by kernel_rfl) K
theorem ty185 (K : Ty → Prop) : tyC Tryz.prog 185 K = K .func := tyC_of (by kernel_rfl) K
theorem by185 (K : Nat → Prop) : byC Tryz.prog 185 K = K 8 := byC_of (by kernel_rfl) K
theorem ty190 (K : Ty → Prop) : tyC Tryz.prog 190 K = K .func := tyC_of (by kernel_rfl) K
theorem by190 (K : Nat → Prop) : byC Tryz.prog 190 K = K 8 := byC_of (by kernel_rfl) K
theorem ty194 (K : Ty → Prop) : tyC Tryz.prog 194 K = K (.ptr 278) := tyC_of (by kernel_rfl) K
theorem by194 (K : Nat → Prop) : byC Tryz.prog 194 K = K 8 := byC_of (by kernel_rfl) K
theorem ty200 (K : Ty → Prop) : tyC Tryz.prog 200 K = K (.st [(.int .i64), (.slice 5)]) := tyC_of (by kernel_rfl) K
theorem by200 (K : Nat → Prop) : byC Tryz.prog 200 K = K 32 := byC_of (by kernel_rfl) K
theorem ty201 (K : Ty → Prop) : tyC Tryz.prog 201 K = K (.st [(.int .i64), (.slice 5)]) := tyC_of (by kernel_rfl) K
theorem by201 (K : Nat → Prop) : byC Tryz.prog 201 K = K 32 := byC_of (by kernel_rfl) K
theorem ty212 (K : Ty → Prop) : tyC Tryz.prog 212 K = K (.st [(.int .i64), (.int .i64), .str]) := tyC_of (by kernel_rfl) K
theorem by212 (K : Nat → Prop) : byC Tryz.prog 212 K = K 32 := byC_of (by kernel_rfl) K
theorem ty214 (K : Ty → Prop) : tyC Tryz.prog 214 K = K (.st [(.int .i64), (.int .i64), (.int .i64), (.st [(.int .i64), (.int .i64), .str])]) := tyC_of (by kernel_rfl) K
theorem by214 (K : Nat → Prop) : byC Tryz.prog 214 K = K 56 := byC_of (by kernel_rfl) K
theorem ty216 (K : Ty → Prop) : tyC Tryz.prog 216 K = K (.st [(.st [(.int .i64), (.int .i64), (.int .i64), (.st [(.int .i64), (.int .i64), .str])]), (.ptr 295), (.ptr 140), (.int .i64), (.int .i64), (.int .i64), .bool]) := tyC_of (by kernel_rfl) K
theorem by216 (K : Nat → Prop) : byC Tryz.prog 216 K = K 104 := byC_of (by kernel_rfl) K
theorem ty218 (K : Ty → Prop) : tyC Tryz.prog 218 K = K (.int .u64) := tyC_of (by kernel_rfl) K
theorem by218 (K : Nat → Prop) : byC Tryz.prog 218 K = K 8 := byC_of (by kernel_rfl) K
theorem ty225 (K : Ty → Prop) : tyC Tryz.prog 225 K = K (.st [(.slice 25)]) := tyC_of (by kernel_rfl) K
theorem by225 (K : Nat → Prop) : byC Tryz.prog 225 K = K 24 := byC_of (by kernel_rfl) K
theorem ty227 (K : Ty → Prop) : tyC Tryz.prog 227 K = K (.ptr 130) := tyC_of (by kernel_rfl) K
theorem by227 (K : Nat → Prop) : byC Tryz.prog 227 K = K 8 := byC_of (by kernel_rfl) K
theorem ty229 (K : Ty → Prop) : tyC Tryz.prog 229 K = K (.st [(.arr 32 5 (.int .u8)), (.arr 32 5 (.int .u8))]) := tyC_of (by kernel_rfl) K
theorem by229 (K : Nat → Prop) : byC Tryz.prog 229 K = K 64 := byC_of (by kernel_rfl) K
theorem ty233 (K : Ty → Prop) : tyC Tryz.prog 233 K = K .func := tyC_of (by kernel_rfl) K
theorem by233 (K : Nat → Prop) : byC Tryz.prog 233 K = K 8 := byC_of (by kernel_rfl) K
theorem ty234 (K : Ty → Prop) : tyC Tryz.prog 234 K = K .func := tyC_of (by kernel_rfl) K
theorem by234 (K : Nat → Prop) : byC Tryz.prog 234 K = K 8 := byC_of (by kernel_rfl) K
theorem ty238 (K : Ty → Prop) : tyC Tryz.prog 238 K = K .func := tyC_of (by kernel_rfl) K
theorem by238 (K : Nat → Prop) : byC Tryz.prog 238 K = K 8 := byC_of (by kernel_rfl) K
theorem ty241 (K : Ty → Prop) : tyC Tryz.prog 241 K = K (.int .u32) := tyC_of (by kernel_rfl) K
theorem by241 (K : Nat → Prop) : byC Tryz.prog 241 K = K 4 := byC_of (by kernel_rfl) K
theorem ty248 (K : Ty → Prop) : tyC Tryz.prog 248 K = K .func := tyC_of (by kernel_rfl) K
theorem by248 (K : Nat → Prop) : byC Tryz.prog 248 K = K 8 := byC_of (by kernel_rfl) K
theorem ty249 (K : Ty → Prop) : tyC Tryz.prog 249 K = K .func := tyC_of (by kernel_rfl) K
theorem by249 (K : Nat → Prop) : byC Tryz.prog 249 K = K 8 := byC_of (by kernel_rfl) K
theorem ty252 (K : Ty → Prop) : tyC Tryz.prog 252 K = K (.slice 333) := tyC_of (by kernel_rfl) K
theorem by252 (K : Nat → Prop) : byC Tryz.prog 252 K = K 24 := byC_of (by kernel_rfl) K
theorem ty255 (K : Ty → Prop) : tyC Tryz.prog 255 K = K .func := tyC_of (by kernel_rfl) K
theorem by255 (K : Nat → Prop) : byC Tryz.prog 255 K = K 8 := byC_of (by kernel_rfl) K
theorem ty256 (K : Ty → Prop) : tyC Tryz.prog 256 K = K .func := tyC_of (by kernel_rfl) K
theorem by256 (K : Nat → Prop) : byC Tryz.prog 256 K = K 8 := byC_of (by kernel_rfl) K
theorem ty257 (K : Ty → Prop) : tyC Tryz.prog 257 K = K (.slice 241) := tyC_of (by kernel_rfl) K
theorem by257 (K : Nat → Prop) : byC Tryz.prog 257 K = K 24 := byC_of (by kernel_rfl) K
theorem ty261 (K : Ty → Prop) : tyC Tryz.prog 261 K = K .func := tyC_of (by kernel_rfl) K
theorem by261 (K : Nat → Prop) : byC Tryz.prog 261 K = K 8 := byC_of (by kernel_rfl) K
theorem ty263 (K : Ty → Prop) : tyC Tryz.prog 263 K = K .func := tyC_of (by kernel_rfl) K
theorem by263 (K : Nat → Prop) : byC Tryz.prog 263 K = K 8 := byC_of (by kernel_rfl) K
theorem ty265 (K : Ty → Prop) : tyC Tryz.prog 265 K = K .func := tyC_of (by kernel_rfl) K
theorem by265 (K : Nat → Prop) : byC Tryz.prog 265 K = K 8 := byC_of (by kernel_rfl) K
theorem ty276 (K : Ty → Prop) : tyC Tryz.prog 276 K = K (.st [(.int .u32), (.int .u64), (.int .i64)]) := tyC_of (by kernel_rfl) K
theorem by276 (K : Nat → Prop) : byC Tryz.prog 276 K = K 24 := byC_of (by kernel_rfl) K
theorem ty278 (K : Ty → Prop) : tyC Tryz.prog 278 K = K (.st [(.st [(.int .u32), (.int .u64), (.int .i64)]), (.st [(.int .i64), (.int .i64)])]) := tyC_of (by kernel_rfl) K
theorem by278 (K : Nat → Prop) : byC Tryz.prog 278 K = K 40 := byC_of (by kernel_rfl) K
theorem ty281 (K : Ty → Prop) : tyC Tryz.prog 281 K = K (.arr 8 241 (.int .u32)) := tyC_of (by kernel_rfl) K
theorem by281 (K : Nat → Prop) : byC Tryz.prog 281 K = K 32 := byC_of (by kernel_rfl) K
theorem ty282 (K : Ty → Prop) : tyC Tryz.prog 282 K = K (.arr 8 241 (.int .u32)) := tyC_of (by kernel_rfl) K
theorem by282 (K : Nat → Prop) : byC Tryz.prog 282 K = K 32 := byC_of (by kernel_rfl) K
theorem ty284 (K : Ty → Prop) : tyC Tryz.prog 284 K = K .func := tyC_of (by kernel_rfl) K
theorem by284 (K : Nat → Prop) : byC Tryz.prog 284 K = K 8 := byC_of (by kernel_rfl) K
theorem ty295 (K : Ty → Prop) : tyC Tryz.prog 295 K = K (.st [(.ptr 143), (.int .i64), (.int .i64), (.slice 5), .bool]) := tyC_of (by kernel_rfl) K
theorem by295 (K : Nat → Prop) : byC Tryz.prog 295 K = K 56 := byC_of (by kernel_rfl) K
theorem ty300 (K : Ty → Prop) : tyC Tryz.prog 300 K = K .func := tyC_of (by kernel_rfl) K
theorem by300 (K : Nat → Prop) : byC Tryz.prog 300 K = K 8 := byC_of (by kernel_rfl) K
theorem ty304 (K : Ty → Prop) : tyC Tryz.prog 304 K = K .func := tyC_of (by kernel_rfl) K
theorem by304 (K : Nat → Prop) : byC Tryz.prog 304 K = K 8 := byC_of (by kernel_rfl) K
theorem ty305 (K : Ty → Prop) : tyC Tryz.prog 305 K = K (.int .u64) := tyC_of (by kernel_rfl) K
theorem by305 (K : Nat → Prop) : byC Tryz.prog 305 K = K 8 := byC_of (by kernel_rfl) K
theorem ty306 (K : Ty → Prop) : tyC Tryz.prog 306 K = K (.map 25 4) := tyC_of (by kernel_rfl) K
theorem by306 (K : Nat → Prop) : byC Tryz.prog 306 K = K 8 := byC_of (by kernel_rfl) K
theorem ty310 (K : Ty → Prop) : tyC Tryz.prog 310 K = K .func := tyC_of (by kernel_rfl) K
theorem by310 (K : Nat → Prop) : byC Tryz.prog 310 K = K 8 := byC_of (by kernel_rfl) K
theorem ty319 (K : Ty → Prop) : tyC Tryz.prog 319 K = K (.ptr 324) := tyC_of (by kernel_rfl) K
theorem by319 (K : Nat → Prop) : byC Tryz.prog 319 K = K 8 := byC_of (by kernel_rfl) K
theorem ty321 (K : Ty → Prop) : tyC Tryz.prog 321 K = K (.st [(.arr 32 5 (.int .u8)), (.int .u32), (.int .u64)]) := tyC_of (by kernel_rfl) K
theorem by321 (K : Nat → Prop) : byC Tryz.prog 321 K = K 48 := byC_of (by kernel_rfl) K
theorem ty322 (K : Ty → Prop) : tyC Tryz.prog 322 K = K (.slice 328) := tyC_of (by kernel_rfl) K
theorem by322 (K : Nat → Prop) : byC Tryz.prog 322 K = K 24 := byC_of (by kernel_rfl) K
theorem ty324 (K : Ty → Prop) : tyC Tryz.prog 324 K = K (.st [(.st [(.arr 32 5 (.int .u8)), (.int .u32), (.int .u64)]), (.slice 328), (.int .i64), (.slice 25)]) := tyC_of (by kernel_rfl) K
theorem by324 (K : Nat → Prop) : byC Tryz.prog 324 K = K 104 := byC_of (by kernel_rfl) K
theorem ty328 (K : Ty → Prop) : tyC Tryz.prog 328 K = K (.st [(.arr 32 5 (.int .u8)), (.int .i64), (.int .i64)]) := tyC_of (by kernel_rfl) K
theorem by328 (K : Nat → Prop) : byC Tryz.prog 328 K = K 48 := byC_of (by kernel_rfl) K
theorem ty333 (K : Ty → Prop) : tyC Tryz.prog 333 K = K (.st [.bool]) := tyC_of (by kernel_rfl) K
theorem by333 (K : Nat → Prop) : byC Tryz.prog 333 K = K 1 := byC_of (by kernel_rfl) K
theorem ty339 (K : Ty → Prop) : tyC Tryz.prog 339 K = K (.ptr 370) := tyC_of (by kernel_rfl) K
theorem by339 (K : Nat → Prop) : byC Tryz.prog 339 K = K 8 := byC_of (by kernel_rfl) K
theorem ty344 (K : Ty → Prop) : tyC Tryz.prog 344 K = K (.arr 67 3 (.int .i64)) := tyC_of (by kernel_rfl) K
theorem by344 (K : Nat → Prop) : byC Tryz.prog 344 K = K 536 := byC_of (by kernel_rfl) K
theorem ty348 (K : Ty → Prop) : tyC Tryz.prog 348 K = K .func := tyC_of (by kernel_rfl) K
theorem by348 (K : Nat → Prop) : byC Tryz.prog 348 K = K 8 := byC_of (by kernel_rfl) K
theorem ty353 (K : Ty → Prop) : tyC Tryz.prog 353 K = K (.slice 355) := tyC_of (by kernel_rfl) K
theorem by353 (K : Nat → Prop) : byC Tryz.prog 353 K = K 24 := byC_of (by kernel_rfl) K
theorem ty355 (K : Ty → Prop) : tyC Tryz.prog 355 K = K (.st [(.arr 32 5 (.int .u8)), (.int .i64)]) := tyC_of (by kernel_rfl) K
theorem by355 (K : Nat → Prop) : byC Tryz.prog 355 K = K 40 := byC_of (by kernel_rfl) K
theorem ty358 (K : Ty → Prop) : tyC Tryz.prog 358 K = K (.arr 5 3 (.int .i64)) := tyC_of (by kernel_rfl) K
theorem by358 (K : Nat → Prop) : byC Tryz.prog 358 K = K 40 := byC_of (by kernel_rfl) K
theorem ty370 (K : Ty → Prop) : tyC Tryz.prog 370 K = K (.st [(.arr 8 241 (.int .u32)), (.slice 5), (.int .i64)]) := tyC_of (by kernel_rfl) K
theorem by370 (K : Nat → Prop) : byC Tryz.prog 370 K = K 64 := byC_of (by kernel_rfl) K
theorem ty373 (K : Ty → Prop) : tyC Tryz.prog 373 K = K (.arr 3 25 (.arr 32 5 (.int .u8))) := tyC_of (by kernel_rfl) K
theorem by373 (K : Nat → Prop) : byC Tryz.prog 373 K = K 96 := byC_of (by kernel_rfl) K
theorem ty378 (K : Ty → Prop) : tyC Tryz.prog 378 K = K (.ptr 42) := tyC_of (by kernel_rfl) K
theorem by378 (K : Nat → Prop) : byC Tryz.prog 378 K = K 8 := byC_of (by kernel_rfl) K
theorem ty382 (K : Ty → Prop) : tyC Tryz.prog 382 K = K (.int .i64) := tyC_of (by kernel_rfl) K
theorem by382 (K : Nat → Prop) : byC Tryz.prog 382 K = K 8 := byC_of (by kernel_rfl) K
theorem ty392 (K : Ty → Prop) : tyC Tryz.prog 392 K = K (.arr 64 241 (.int .u32)) := tyC_of (by kernel_rfl) K
theorem by392 (K : Nat → Prop) : byC Tryz.prog 392 K = K 256 := byC_of (by kernel_rfl) K
theorem ty397 (K : Ty → Prop) : tyC Tryz.prog 397 K = K (.int .u64) := tyC_of (by kernel_rfl) K
theorem by397 (K : Nat → Prop) : byC Tryz.prog 397 K = K 8 := byC_of (by kernel_rfl) K
theorem ty400 (K : Ty → Prop) : tyC Tryz.prog 400 K = K .func := tyC_of (by kernel_rfl) K
theorem by400 (K : Nat → Prop) : byC Tryz.prog 400 K = K 8 := byC_of (by kernel_rfl) K
theorem ty401 (K : Ty → Prop) : tyC Tryz.prog 401 K = K (.ptr 3) := tyC_of (by kernel_rfl) K
theorem by401 (K : Nat → Prop) : byC Tryz.prog 401 K = K 8 := byC_of (by kernel_rfl) K
theorem ty403 (K : Ty → Prop) : tyC Tryz.prog 403 K = K (.ptr 397) := tyC_of (by kernel_rfl) K
theorem by403 (K : Nat → Prop) : byC Tryz.prog 403 K = K 8 := byC_of (by kernel_rfl) K
attribute [go_sem ↓] ty1 by1 ty2 by2 ty3 by3 ty4 by4 ty5 by5 ty9 by9 ty12 by12 ty15 by15 ty16 by16 ty17 by17 ty21 by21 ty22 by22 ty23 by23 ty24 by24 ty25 by25 ty26 by26 ty27 by27 ty28 by28 ty29 by29 ty30 by30 ty31 by31 ty32 by32 ty33 by33 ty35 by35 ty36 by36 ty37 by37 ty38 by38 ty39 by39 ty40 by40 ty41 by41 ty42 by42 ty43 by43 ty44 by44 ty45 by45 ty46 by46 ty47 by47 ty49 by49 ty50 by50 ty51 by51 ty52 by52 ty53 by53 ty54 by54 ty55 by55 ty56 by56 ty57 by57 ty58 by58 ty59 by59 ty60 by60 ty61 by61 ty62 by62 ty63 by63 ty64 by64 ty65 by65 ty66 by66 ty68 by68 ty71 by71 ty72 by72 ty75 by75 ty77 by77 ty78 by78 ty79 by79 ty80 by80 ty82 by82 ty84 by84 ty86 by86 ty89 by89 ty90 by90 ty92 by92 ty93 by93 ty94 by94 ty97 by97 ty100 by100 ty107 by107 ty117 by117 ty118 by118 ty119 by119 ty121 by121 ty124 by124 ty125 by125 ty126 by126 ty127 by127 ty128 by128 ty130 by130 ty131 by131 ty132 by132 ty133 by133 ty135 by135 ty136 by136 ty138 by138 ty139 by139 ty140 by140 ty141 by141 ty143 by143 ty145 by145 ty148 by148 ty149 by149 ty153 by153 ty164 by164 ty166 by166 ty172 by172 ty176 by176 ty178 by178 ty185 by185 ty190 by190 ty194 by194 ty200 by200 ty201 by201 ty212 by212 ty214 by214 ty216 by216 ty218 by218 ty225 by225 ty227 by227 ty229 by229 ty233 by233 ty234 by234 ty238 by238 ty241 by241 ty248 by248 ty249 by249 ty252 by252 ty255 by255 ty256 by256 ty257 by257 ty261 by261 ty263 by263 ty265 by265 ty276 by276 ty278 by278 ty281 by281 ty282 by282 ty284 by284 ty295 by295 ty300 by300 ty304 by304 ty305 by305 ty306 by306 ty310 by310 ty319 by319 ty321 by321 ty322 by322 ty324 by324 ty328 by328 ty333 by333 ty339 by339 ty344 by344 ty348 by348 ty353 by353 ty355 by355 ty358 by358 ty370 by370 ty373 by373 ty378 by378 ty382 by382 ty392 by392 ty397 by397 ty400 by400 ty401 by401 ty403 by403
end Go.Proofs.YtololahjocfbeaaGreat
