/- Texts, joined. -/
import Derived.Test.YtclkaibkepaebaaGG
import Derived.Test.YtclkaibkepaebaaProg
namespace Go.Proofs.Ytclkaibkepaebaa
open Go Go.Sy Go.Proofs.Try
set_option maxRecDepth 100000
theorem mix : Try.prog.follows .mixedOrders = true := by kernel_rfl
theorem ty1 (K : Ty → Prop) : tyC Try.prog 1 K = K .func := tyC_of (by kernel_rfl) K
theorem by1 (K : Nat → Prop) : byC Try.prog 1 K = K 8 := byC_of (by kernel_rfl) K
theorem ty2 (K : Ty → Prop) : tyC Try.prog 2 K = K (.int .i64) := tyC_of (by kernel_rfl) K
theorem by2 (K : Nat → Prop) : byC Try.prog 2 K = K 8 := byC_of (by kernel_rfl) K
theorem ty3 (K : Ty → Prop) : tyC Try.prog 3 K = K (.int .i64) := tyC_of (by kernel_rfl) K
theorem by3 (K : Nat → Prop) : byC Try.prog 3 K = K 8 := byC_of (by kernel_rfl) K
theorem ty4 (K : Ty → Prop) : tyC Try.prog 4 K = K .bool := tyC_of (by kernel_rfl) K
theorem by4 (K : Nat → Prop) : byC Try.prog 4 K = K 1 := byC_of (by kernel_rfl) K
theorem ty5 (K : Ty → Prop) : tyC Try.prog 5 K = K (.int .u8) := tyC_of (by kernel_rfl) K
theorem by5 (K : Nat → Prop) : byC Try.prog 5 K = K 1 := byC_of (by kernel_rfl) K
theorem ty9 (K : Ty → Prop) : tyC Try.prog 9 K = K .str := tyC_of (by kernel_rfl) K
theorem by9 (K : Nat → Prop) : byC Try.prog 9 K = K 16 := byC_of (by kernel_rfl) K
theorem ty12 (K : Ty → Prop) : tyC Try.prog 12 K = K (.int .u64) := tyC_of (by kernel_rfl) K
theorem by12 (K : Nat → Prop) : byC Try.prog 12 K = K 8 := byC_of (by kernel_rfl) K
theorem ty15 (K : Ty → Prop) : tyC Try.prog 15 K = K (.ptr 253) := tyC_of (by kernel_rfl) K
theorem by15 (K : Nat → Prop) : byC Try.prog 15 K = K 8 := byC_of (by kernel_rfl) K
theorem ty16 (K : Ty → Prop) : tyC Try.prog 16 K = K (.ptr 256) := tyC_of (by kernel_rfl) K
theorem by16 (K : Nat → Prop) : byC Try.prog 16 K = K 8 := byC_of (by kernel_rfl) K
theorem ty17 (K : Ty → Prop) : tyC Try.prog 17 K = K (.ptr 265) := tyC_of (by kernel_rfl) K
theorem by17 (K : Nat → Prop) : byC Try.prog 17 K = K 8 := byC_of (by kernel_rfl) K
theorem ty21 (K : Ty → Prop) : tyC Try.prog 21 K = K (.int .i32) := tyC_of (by kernel_rfl) K
theorem by21 (K : Nat → Prop) : byC Try.prog 21 K = K 4 := byC_of (by kernel_rfl) K
theorem ty22 (K : Ty → Prop) : tyC Try.prog 22 K = K (.st [(.int .i64), (.int .i64)]) := tyC_of (by kernel_rfl) K
theorem by22 (K : Nat → Prop) : byC Try.prog 22 K = K 16 := byC_of (by kernel_rfl) K
theorem ty23 (K : Ty → Prop) : tyC Try.prog 23 K = K (.st [(.int .i64), (.int .i64)]) := tyC_of (by kernel_rfl) K
theorem by23 (K : Nat → Prop) : byC Try.prog 23 K = K 16 := byC_of (by kernel_rfl) K
theorem ty24 (K : Ty → Prop) : tyC Try.prog 24 K = K (.arr 32 5 (.int .u8)) := tyC_of (by kernel_rfl) K
theorem by24 (K : Nat → Prop) : byC Try.prog 24 K = K 32 := byC_of (by kernel_rfl) K
theorem ty25 (K : Ty → Prop) : tyC Try.prog 25 K = K (.arr 32 5 (.int .u8)) := tyC_of (by kernel_rfl) K
theorem by25 (K : Nat → Prop) : byC Try.prog 25 K = K 32 := byC_of (by kernel_rfl) K
theorem ty26 (K : Ty → Prop) : tyC Try.prog 26 K = K (.st [(.st [(.int .i64), (.int .i64)]), (.arr 32 5 (.int .u8)), (.arr 32 5 (.int .u8))]) := tyC_of (by kernel_rfl) K
theorem by26 (K : Nat → Prop) : byC Try.prog 26 K = K 80 := byC_of (by kernel_rfl) K
theorem ty27 (K : Ty → Prop) : tyC Try.prog 27 K = K (.st [(.st [(.int .i64), (.int .i64)]), (.arr 32 5 (.int .u8)), (.arr 32 5 (.int .u8))]) := tyC_of (by kernel_rfl) K
theorem by27 (K : Nat → Prop) : byC Try.prog 27 K = K 80 := byC_of (by kernel_rfl) K
theorem ty28 (K : Ty → Prop) : tyC Try.prog 28 K = K (.st [(.arr 32 5 (.int .u8)), (.arr 32 5 (.int .u8)), (.arr 32 5 (.int .u8))]) := tyC_of (by kernel_rfl) K
theorem by28 (K : Nat → Prop) : byC Try.prog 28 K = K 96 := byC_of (by kernel_rfl) K
theorem ty29 (K : Ty → Prop) : tyC Try.prog 29 K = K (.st [(.arr 32 5 (.int .u8)), (.arr 32 5 (.int .u8)), (.arr 32 5 (.int .u8))]) := tyC_of (by kernel_rfl) K
theorem by29 (K : Nat → Prop) : byC Try.prog 29 K = K 96 := byC_of (by kernel_rfl) K
theorem ty30 (K : Ty → Prop) : tyC Try.prog 30 K = K (.slice 44) := tyC_of (by kernel_rfl) K
theorem by30 (K : Nat → Prop) : byC Try.prog 30 K = K 24 := byC_of (by kernel_rfl) K
theorem ty31 (K : Ty → Prop) : tyC Try.prog 31 K = K .func := tyC_of (by kernel_rfl) K
theorem by31 (K : Nat → Prop) : byC Try.prog 31 K = K 8 := byC_of (by kernel_rfl) K
theorem ty32 (K : Ty → Prop) : tyC Try.prog 32 K = K .func := tyC_of (by kernel_rfl) K
theorem by32 (K : Nat → Prop) : byC Try.prog 32 K = K 8 := byC_of (by kernel_rfl) K
theorem ty33 (K : Ty → Prop) : tyC Try.prog 33 K = K .func := tyC_of (by kernel_rfl) K
theorem by33 (K : Nat → Prop) : byC Try.prog 33 K = K 8 := byC_of (by kernel_rfl) K
theorem ty34 (K : Ty → Prop) : tyC Try.prog 34 K = K (.slice 56) := tyC_of (by kernel_rfl) K
theorem by34 (K : Nat → Prop) : byC Try.prog 34 K = K 24 := byC_of (by kernel_rfl) K
theorem ty35 (K : Ty → Prop) : tyC Try.prog 35 K = K (.st [(.int .i64), (.arr 32 5 (.int .u8)), (.slice 56)]) := tyC_of (by kernel_rfl) K
theorem by35 (K : Nat → Prop) : byC Try.prog 35 K = K 64 := byC_of (by kernel_rfl) K
theorem ty36 (K : Ty → Prop) : tyC Try.prog 36 K = K (.st [(.int .i64), (.arr 32 5 (.int .u8)), (.slice 56)]) := tyC_of (by kernel_rfl) K
theorem by36 (K : Nat → Prop) : byC Try.prog 36 K = K 64 := byC_of (by kernel_rfl) K
theorem ty37 (K : Ty → Prop) : tyC Try.prog 37 K = K (.int .i64) := tyC_of (by kernel_rfl) K
theorem by37 (K : Nat → Prop) : byC Try.prog 37 K = K 8 := byC_of (by kernel_rfl) K
theorem ty39 (K : Ty → Prop) : tyC Try.prog 39 K = K .func := tyC_of (by kernel_rfl) K
theorem by39 (K : Nat → Prop) : byC Try.prog 39 K = K 8 := byC_of (by kernel_rfl) K
theorem ty40 (K : Ty → Prop) : tyC Try.prog 40 K = K .func := tyC_of (by kernel_rfl) K
theorem by40 (K : Nat → Prop) : byC Try.prog 40 K = K 8 := byC_of (by kernel_rfl) K
theorem ty41 (K : Ty → Prop) : tyC Try.prog 41 K = K .func := tyC_of (by kernel_rfl) K
theorem by41 (K : Nat → Prop) : byC Try.prog 41 K = K 8 := byC_of (by kernel_rfl) K
theorem ty42 (K : Ty → Prop) : tyC Try.prog 42 K = K .func := tyC_of (by kernel_rfl) K
theorem by42 (K : Nat → Prop) : byC Try.prog 42 K = K 8 := byC_of (by kernel_rfl) K
theorem ty43 (K : Ty → Prop) : tyC Try.prog 43 K = K .func := tyC_of (by kernel_rfl) K
theorem by43 (K : Nat → Prop) : byC Try.prog 43 K = K 8 := byC_of (by kernel_rfl) K
theorem ty44 (K : Ty → Prop) : tyC Try.prog 44 K = K (.slice 5) := tyC_of (by kernel_rfl) K
theorem by44 (K : Nat → Prop) : byC Try.prog 44 K = K 24 := byC_of (by kernel_rfl) K
theorem ty45 (K : Ty → Prop) : tyC Try.prog 45 K = K .func := tyC_of (by kernel_rfl) K
theorem by45 (K : Nat → Prop) : byC Try.prog 45 K = K 8 := byC_of (by kernel_rfl) K
theorem ty46 (K : Ty → Prop) : tyC Try.prog 46 K = K .func := tyC_of (by kernel_rfl) K
theorem by46 (K : Nat → Prop) : byC Try.prog 46 K = K 8 := byC_of (by kernel_rfl) K
theorem ty47 (K : Ty → Prop) : tyC Try.prog 47 K = K .func := tyC_of (by kernel_rfl) K
theorem by47 (K : Nat → Prop) : byC Try.prog 47 K = K 8 := byC_of (by kernel_rfl) K
theorem ty48 (K : Ty → Prop) : tyC Try.prog 48 K = K .func := tyC_of (by kernel_rfl) K
theorem by48 (K : Nat → Prop) : byC Try.prog 48 K = K 8 := byC_of (by kernel_rfl) K
theorem ty49 (K : Ty → Prop) : tyC Try.prog 49 K = K .func := tyC_of (by kernel_rfl) K
theorem by49 (K : Nat → Prop) : byC Try.prog 49 K = K 8 := byC_of (by kernel_rfl) K
theorem ty50 (K : Ty → Prop) : tyC Try.prog 50 K = K .func := tyC_of (by kernel_rfl) K
theorem by50 (K : Nat → Prop) : byC Try.prog 50 K = K 8 := byC_of (by kernel_rfl) K
theorem ty51 (K : Ty → Prop) : tyC Try.prog 51 K = K (.int .u16) := tyC_of (by kernel_rfl) K
theorem by51 (K : Nat → Prop) : byC Try.prog 51 K = K 2 := byC_of (by kernel_rfl) K
theorem ty53 (K : Ty → Prop) : tyC Try.prog 53 K = K .func := tyC_of (by kernel_rfl) K
theorem by53 (K : Nat → Prop) : byC Try.prog 53 K = K 8 := byC_of (by kernel_rfl) K
theorem ty54 (K : Ty → Prop) : tyC Try.prog 54 K = K (.slice 25) := tyC_of (by kernel_rfl) K
theorem by54 (K : Nat → Prop) : byC Try.prog 54 K = K 24 := byC_of (by kernel_rfl) K
theorem ty55 (K : Ty → Prop) : tyC Try.prog 55 K = K (.st [(.slice 25), (.slice 25)]) := tyC_of (by kernel_rfl) K
theorem by55 (K : Nat → Prop) : byC Try.prog 55 K = K 48 := byC_of (by kernel_rfl) K
theorem ty56 (K : Ty → Prop) : tyC Try.prog 56 K = K (.st [(.slice 25), (.slice 25)]) := tyC_of (by kernel_rfl) K
theorem by56 (K : Nat → Prop) : byC Try.prog 56 K = K 48 := byC_of (by kernel_rfl) K
theorem ty57 (K : Ty → Prop) : tyC Try.prog 57 K = K .func := tyC_of (by kernel_rfl) K
theorem by57 (K : Nat → Prop) : byC Try.prog 57 K = K 8 := byC_of (by kernel_rfl) K
theorem ty59 (K : Ty → Prop) : tyC Try.prog 59 K = K .func := tyC_of (by kernel_rfl) K
theorem by59 (K : Nat → Prop) : byC Try.prog 59 K = K 8 := byC_of (by kernel_rfl) K
theorem ty61 (K : Ty → Prop) : tyC Try.prog 61 K = K .func := tyC_of (by kernel_rfl) K
theorem by61 (K : Nat → Prop) : byC Try.prog 61 K = K 8 := byC_of (by kernel_rfl) K
theorem ty62 (K : Ty → Prop) : tyC Try.prog 62 K = K .func := tyC_of (by kernel_rfl) K
theorem by62 (K : Nat → Prop) : byC Try.prog 62 K = K 8 := byC_of (by kernel_rfl) K
theorem ty63 (K : Ty → Prop) : tyC Try.prog 63 K = K .func := tyC_of (by kernel_rfl) K
theorem by63 (K : Nat → Prop) : byC Try.prog 63 K = K 8 := byC_of (by kernel_rfl) K
theorem ty64 (K : Ty → Prop) : tyC Try.prog 64 K = K .func := tyC_of (by kernel_rfl) K
theorem by64 (K : Nat → Prop) : byC Try.prog 64 K = K 8 := byC_of (by kernel_rfl) K
theorem ty65 (K : Ty → Prop) : tyC Try.prog 65 K = K .func := tyC_of (by kernel_rfl) K
theorem by65 (K : Nat → Prop) : byC Try.prog 65 K = K 8 := byC_of (by kernel_rfl) K
theorem ty66 (K : Ty → Prop) : tyC Try.prog 66 K = K .func := tyC_of (by kernel_rfl) K
theorem by66 (K : Nat → Prop) : byC Try.prog 66 K = K 8 := byC_of (by kernel_rfl) K
theorem ty67 (K : Ty → Prop) : tyC Try.prog 67 K = K .func := tyC_of (by kernel_rfl) K
theorem by67 (K : Nat → Prop) : byC Try.prog 67 K = K 8 := byC_of (by kernel_rfl) K
theorem ty68 (K : Ty → Prop) : tyC Try.prog 68 K = K .func := tyC_of (by kernel_rfl) K
theorem by68 (K : Nat → Prop) : byC Try.prog 68 K = K 8 := byC_of (by kernel_rfl) K
theorem ty69 (K : Ty → Prop) : tyC Try.prog 69 K = K .func := tyC_of (by kernel_rfl) K
theorem by69 (K : Nat → Prop) : byC Try.prog 69 K = K 8 := byC_of (by kernel_rfl) K
theorem ty70 (K : Ty → Prop) : tyC Try.prog 70 K = K .func := tyC_of (by kernel_rfl) K
theorem by70 (K : Nat → Prop) : byC Try.prog 70 K = K 8 := byC_of (by kernel_rfl) K
theorem ty71 (K : Ty → Prop) : tyC Try.prog 71 K = K (.st [(.arr 32 5 (.int .u8)), (.arr 32 5 (.int .u8))]) := tyC_of (by kernel_rfl) K
theorem by71 (K : Nat → Prop) : byC Try.prog 71 K = K 64 := byC_of (by kernel_rfl) K
theorem ty72 (K : Ty → Prop) : tyC Try.prog 72 K = K (.st [(.arr 32 5 (.int .u8)), (.arr 32 5 (.int .u8))]) := tyC_of (by kernel_rfl) K
theorem by72 (K : Nat → Prop) : byC Try.prog 72 K = K 64 := byC_of (by kernel_rfl) K
theorem ty73 (K : Ty → Prop) : tyC Try.prog 73 K = K .func := tyC_of (by kernel_rfl) K
theorem by73 (K : Nat → Prop) : byC Try.prog 73 K = K 8 := byC_of (by kernel_rfl) K
theorem ty74 (K : Ty → Prop) : tyC Try.prog 74 K = K .func := tyC_of (by kernel_rfl) K
theorem by74 (K : Nat → Prop) : byC Try.prog 74 K = K 8 := byC_of (by kernel_rfl) K
theorem ty75 (K : Ty → Prop) : tyC Try.prog 75 K = K .func := tyC_of (by kernel_rfl) K
theorem by75 (K : Nat → Prop) : byC Try.prog 75 K = K 8 := byC_of (by kernel_rfl) K
theorem ty76 (K : Ty → Prop) : tyC Try.prog 76 K = K (.st [(.arr 32 5 (.int .u8)), (.arr 32 5 (.int .u8))]) := tyC_of (by kernel_rfl) K
theorem by76 (K : Nat → Prop) : byC Try.prog 76 K = K 64 := byC_of (by kernel_rfl) K
theorem ty77 (K : Ty → Prop) : tyC Try.prog 77 K = K .func := tyC_of (by kernel_rfl) K
theorem by77 (K : Nat → Prop) : byC Try.prog 77 K = K 8 := byC_of (by kernel_rfl) K
theorem ty78 (K : Ty → Prop) : tyC Try.prog 78 K = K .func := tyC_of (by kernel_rfl) K
theorem by78 (K : Nat → Prop) : byC Try.prog 78 K = K 8 := byC_of (by kernel_rfl) K
theorem ty79 (K : Ty → Prop) : tyC Try.prog 79 K = K .func := tyC_of (by kernel_rfl) K
theorem by79 (K : Nat → Prop) : byC Try.prog 79 K = K 8 := byC_of (by kernel_rfl) K
theorem ty80 (K : Ty → Prop) : tyC Try.prog 80 K = K (.slice 72) := tyC_of (by kernel_rfl) K
theorem by80 (K : Nat → Prop) : byC Try.prog 80 K = K 24 := byC_of (by kernel_rfl) K
theorem ty81 (K : Ty → Prop) : tyC Try.prog 81 K = K .func := tyC_of (by kernel_rfl) K
theorem by81 (K : Nat → Prop) : byC Try.prog 81 K = K 8 := byC_of (by kernel_rfl) K
theorem ty82 (K : Ty → Prop) : tyC Try.prog 82 K = K .func := tyC_of (by kernel_rfl) K
theorem by82 (K : Nat → Prop) : byC Try.prog 82 K = K 8 := byC_of (by kernel_rfl) K
theorem ty83 (K : Ty → Prop) : tyC Try.prog 83 K = K (.slice 76) := tyC_of (by kernel_rfl) K
theorem by83 (K : Nat → Prop) : byC Try.prog 83 K = K 24 := byC_of (by kernel_rfl) K
theorem ty84 (K : Ty → Prop) : tyC Try.prog 84 K = K .func := tyC_of (by kernel_rfl) K
theorem by84 (K : Nat → Prop) : byC Try.prog 84 K = K 8 := byC_of (by kernel_rfl) K
theorem ty85 (K : Ty → Prop) : tyC Try.prog 85 K = K .func := tyC_of (by kernel_rfl) K
theorem by85 (K : Nat → Prop) : byC Try.prog 85 K = K 8 := byC_of (by kernel_rfl) K
theorem ty86 (K : Ty → Prop) : tyC Try.prog 86 K = K .func := tyC_of (by kernel_rfl) K
theorem by86 (K : Nat → Prop) : byC Try.prog 86 K = K 8 := byC_of (by kernel_rfl) K
theorem ty87 (K : Ty → Prop) : tyC Try.prog 87 K = K (.st [(.arr 32 5 (.int .u8)), (.slice 25)]) := tyC_of (by kernel_rfl) K
theorem by87 (K : Nat → Prop) : byC Try.prog 87 K = K 56 := byC_of (by kernel_rfl) K
theorem ty88 (K : Ty → Prop) : tyC Try.prog 88 K = K (.st [(.arr 32 5 (.int .u8)), (.slice 25)]) := tyC_of (by kernel_rfl) K
theorem by88 (K : Nat → Prop) : byC Try.prog 88 K = K 56 := byC_of (by kernel_rfl) K
theorem ty90 (K : Ty → Prop) : tyC Try.prog 90 K = K .func := tyC_of (by kernel_rfl) K
theorem by90 (K : Nat → Prop) : byC Try.prog 90 K = K 8 := byC_of (by kernel_rfl) K
theorem ty92 (K : Ty → Prop) : tyC Try.prog 92 K = K .func := tyC_of (by kernel_rfl) K
theorem by92 (K : Nat → Prop) : byC Try.prog 92 K = K 8 := byC_of (by kernel_rfl) K
theorem ty93 (K : Ty → Prop) : tyC Try.prog 93 K = K .func := tyC_of (by kernel_rfl) K
theorem by93 (K : Nat → Prop) : byC Try.prog 93 K = K 8 := byC_of (by kernel_rfl) K
theorem ty94 (K : Ty → Prop) : tyC Try.prog 94 K = K .func := tyC_of (by kernel_rfl) K
theorem by94 (K : Nat → Prop) : byC Try.prog 94 K = K 8 := byC_of (by kernel_rfl) K
theorem ty95 (K : Ty → Prop) : tyC Try.prog 95 K = K .func := tyC_of (by kernel_rfl) K
theorem by95 (K : Nat → Prop) : byC Try.prog 95 K = K 8 := byC_of (by kernel_rfl) K
theorem ty96 (K : Ty → Prop) : tyC Try.prog 96 K = K .func := tyC_of (by kernel_rfl) K
theorem by96 (K : Nat → Prop) : byC Try.prog 96 K = K 8 := byC_of (by kernel_rfl) K
theorem ty97 (K : Ty → Prop) : tyC Try.prog 97 K = K .func := tyC_of (by kernel_rfl) K
theorem by97 (K : Nat → Prop) : byC Try.prog 97 K = K 8 := byC_of (by kernel_rfl) K
theorem ty98 (K : Ty → Prop) : tyC Try.prog 98 K = K .func := tyC_of (by kernel_rfl) K
theorem by98 (K : Nat → Prop) : byC Try.prog 98 K = K 8 := byC_of (by kernel_rfl) K
theorem ty99 (K : Ty → Prop) : tyC Try.prog 99 K = K .func := tyC_of (by kernel_rfl) K
theorem by99 (K : Nat → Prop) : byC Try.prog 99 K = K 8 := byC_of (by kernel_rfl) K
theorem ty100 (K : Ty → Prop) : tyC Try.prog 100 K = K .func := tyC_of (by kernel_rfl) K
theorem by100 (K : Nat → Prop) : byC Try.prog 100 K = K 8 := byC_of (by kernel_rfl) K
theorem ty101 (K : Ty → Prop) : tyC Try.prog 101 K = K .func := tyC_of (by kernel_rfl) K
theorem by101 (K : Nat → Prop) : byC Try.prog 101 K = K 8 := byC_of (by kernel_rfl) K
theorem ty102 (K : Ty → Prop) : tyC Try.prog 102 K = K .func := tyC_of (by kernel_rfl) K
theorem by102 (K : Nat → Prop) : byC Try.prog 102 K = K 8 := byC_of (by kernel_rfl) K
theorem ty103 (K : Ty → Prop) : tyC Try.prog 103 K = K (.int .u64) := tyC_of (by kernel_rfl) K
theorem by103 (K : Nat → Prop) : byC Try.prog 103 K = K 8 := byC_of (by kernel_rfl) K
theorem ty104 (K : Ty → Prop) : tyC Try.prog 104 K = K .func := tyC_of (by kernel_rfl) K
theorem by104 (K : Nat → Prop) : byC Try.prog 104 K = K 8 := byC_of (by kernel_rfl) K
theorem ty105 (K : Ty → Prop) : tyC Try.prog 105 K = K (.ptr 113) := tyC_of (by kernel_rfl) K
theorem by105 (K : Nat → Prop) : byC Try.prog 105 K = K 8 := byC_of (by kernel_rfl) K
theorem ty106 (K : Ty → Prop) : tyC Try.prog 106 K = K .func := tyC_of (by kernel_rfl) K
theorem by106 (K : Nat → Prop) : byC Try.prog 106 K = K 8 := byC_of (by kernel_rfl) K
theorem ty108 (K : Ty → Prop) : tyC Try.prog 108 K = K .func := tyC_of (by kernel_rfl) K
theorem by108 (K : Nat → Prop) : byC Try.prog 108 K = K 8 := byC_of (by kernel_rfl) K
theorem ty109 (K : Ty → Prop) : tyC Try.prog 109 K = K (.int .u32) := tyC_of (by kernel_rfl) K
theorem by109 (K : Nat → Prop) : byC Try.prog 109 K = K 4 := byC_of (by kernel_rfl) K
theorem ty110 (K : Ty → Prop) : tyC Try.prog 110 K = K (.st [(.int .u32), (.int .u64), (.int .i64)]) := tyC_of (by kernel_rfl) K
theorem by110 (K : Nat → Prop) : byC Try.prog 110 K = K 24 := byC_of (by kernel_rfl) K
theorem ty111 (K : Ty → Prop) : tyC Try.prog 111 K = K (.st [(.int .u32), (.int .u64), (.int .i64)]) := tyC_of (by kernel_rfl) K
theorem by111 (K : Nat → Prop) : byC Try.prog 111 K = K 24 := byC_of (by kernel_rfl) K
theorem ty112 (K : Ty → Prop) : tyC Try.prog 112 K = K (.st [(.st [(.int .u32), (.int .u64), (.int .i64)]), (.st [(.int .i64), (.int .i64)])]) := tyC_of (by kernel_rfl) K
theorem by112 (K : Nat → Prop) : byC Try.prog 112 K = K 40 := byC_of (by kernel_rfl) K
theorem ty113 (K : Ty → Prop) : tyC Try.prog 113 K = K (.st [(.st [(.int .u32), (.int .u64), (.int .i64)]), (.st [(.int .i64), (.int .i64)])]) := tyC_of (by kernel_rfl) K
theorem by113 (K : Nat → Prop) : byC Try.prog 113 K = K 40 := byC_of (by kernel_rfl) K
theorem ty114 (K : Ty → Prop) : tyC Try.prog 114 K = K .func := tyC_of (by kernel_rfl) K
theorem by114 (K : Nat → Prop) : byC Try.prog 114 K = K 8 := byC_of (by kernel_rfl) K
theorem ty115 (K : Ty → Prop) : tyC Try.prog 115 K = K (.arr 8 109 (.int .u32)) := tyC_of (by kernel_rfl) K
theorem by115 (K : Nat → Prop) : byC Try.prog 115 K = K 32 := byC_of (by kernel_rfl) K
theorem ty116 (K : Ty → Prop) : tyC Try.prog 116 K = K (.arr 8 109 (.int .u32)) := tyC_of (by kernel_rfl) K
theorem by116 (K : Nat → Prop) : byC Try.prog 116 K = K 32 := byC_of (by kernel_rfl) K
theorem ty117 (K : Ty → Prop) : tyC Try.prog 117 K = K .func := tyC_of (by kernel_rfl) K
theorem by117 (K : Nat → Prop) : byC Try.prog 117 K = K 8 := byC_of (by kernel_rfl) K
theorem ty118 (K : Ty → Prop) : tyC Try.prog 118 K = K .func := tyC_of (by kernel_rfl) K
theorem by118 (K : Nat → Prop) : byC Try.prog 118 K = K 8 := byC_of (by kernel_rfl) K
theorem ty119 (K : Ty → Prop) : tyC Try.prog 119 K = K .func := tyC_of (by kernel_rfl) K
theorem by119 (K : Nat → Prop) : byC Try.prog 119 K = K 8 := byC_of (by kernel_rfl) K
theorem ty120 (K : Ty → Prop) : tyC Try.prog 120 K = K .func := tyC_of (by kernel_rfl) K
theorem by120 (K : Nat → Prop) : byC Try.prog 120 K = K 8 := byC_of (by kernel_rfl) K
theorem ty122 (K : Ty → Prop) : tyC Try.prog 122 K = K .func := tyC_of (by kernel_rfl) K
theorem by122 (K : Nat → Prop) : byC Try.prog 122 K = K 8 := byC_of (by kernel_rfl) K
theorem ty123 (K : Ty → Prop) : tyC Try.prog 123 K = K .func := tyC_of (by kernel_rfl) K
theorem by123 (K : Nat → Prop) : byC Try.prog 123 K = K 8 := byC_of (by kernel_rfl) K
theorem ty124 (K : Ty → Prop) : tyC Try.prog 124 K = K .func := tyC_of (by kernel_rfl) K
theorem by124 (K : Nat → Prop) : byC Try.prog 124 K = K 8 := byC_of (by kernel_rfl) K
theorem ty125 (K : Ty → Prop) : tyC Try.prog 125 K = K .func := tyC_of (by kernel_rfl) K
theorem by125 (K : Nat → Prop) : byC Try.prog 125 K = K 8 := byC_of (by kernel_rfl) K
theorem ty126 (K : Ty → Prop) : tyC Try.prog 126 K = K .func := tyC_of (by kernel_rfl) K
theorem by126 (K : Nat → Prop) : byC Try.prog 126 K = K 8 := byC_of (by kernel_rfl) K
theorem ty127 (K : Ty → Prop) : tyC Try.prog 127 K = K .func := tyC_of (by kernel_rfl) K
theorem by127 (K : Nat → Prop) : byC Try.prog 127 K = K 8 := byC_of (by kernel_rfl) K
theorem ty128 (K : Ty → Prop) : tyC Try.prog 128 K = K .func := tyC_of (by kernel_rfl) K
theorem by128 (K : Nat → Prop) : byC Try.prog 128 K = K 8 := byC_of (by kernel_rfl) K
theorem ty129 (K : Ty → Prop) : tyC Try.prog 129 K = K .func := tyC_of (by kernel_rfl) K
theorem by129 (K : Nat → Prop) : byC Try.prog 129 K = K 8 := byC_of (by kernel_rfl) K
theorem ty130 (K : Ty → Prop) : tyC Try.prog 130 K = K .func := tyC_of (by kernel_rfl) K
theorem by130 (K : Nat → Prop) : byC Try.prog 130 K = K 8 := byC_of (by kernel_rfl) K
theorem ty131 (K : Ty → Prop) : tyC Try.prog 131 K = K .func := tyC_of (by kernel_rfl) K
theorem by131 (K : Nat → Prop) : byC Try.prog 131 K = K 8 := byC_of (by kernel_rfl) K
theorem ty132 (K : Ty → Prop) : tyC Try.prog 132 K = K .func := tyC_of (by kernel_rfl) K
theorem by132 (K : Nat → Prop) : byC Try.prog 132 K = K 8 := byC_of (by kernel_rfl) K
theorem ty134 (K : Ty → Prop) : tyC Try.prog 134 K = K .func := tyC_of (by kernel_rfl) K
theorem by134 (K : Nat → Prop) : byC Try.prog 134 K = K 8 := byC_of (by kernel_rfl) K
theorem ty135 (K : Ty → Prop) : tyC Try.prog 135 K = K .func := tyC_of (by kernel_rfl) K
theorem by135 (K : Nat → Prop) : byC Try.prog 135 K = K 8 := byC_of (by kernel_rfl) K
theorem ty136 (K : Ty → Prop) : tyC Try.prog 136 K = K .func := tyC_of (by kernel_rfl) K
theorem by136 (K : Nat → Prop) : byC Try.prog 136 K = K 8 := byC_of (by kernel_rfl) K
theorem ty138 (K : Ty → Prop) : tyC Try.prog 138 K = K .func := tyC_of (by kernel_rfl) K
theorem by138 (K : Nat → Prop) : byC Try.prog 138 K = K 8 := byC_of (by kernel_rfl) K
theorem ty139 (K : Ty → Prop) : tyC Try.prog 139 K = K (.st [(.slice 25)]) := tyC_of (by kernel_rfl) K
theorem by139 (K : Nat → Prop) : byC Try.prog 139 K = K 24 := byC_of (by kernel_rfl) K
theorem ty140 (K : Ty → Prop) : tyC Try.prog 140 K = K (.st [(.slice 25)]) := tyC_of (by kernel_rfl) K
theorem by140 (K : Nat → Prop) : byC Try.prog 140 K = K 24 := byC_of (by kernel_rfl) K
theorem ty141 (K : Ty → Prop) : tyC Try.prog 141 K = K .func := tyC_of (by kernel_rfl) K
theorem by141 (K : Nat → Prop) : byC Try.prog 141 K = K 8 := byC_of (by kernel_rfl) K
theorem ty142 (K : Ty → Prop) : tyC Try.prog 142 K = K (.slice 146) := tyC_of (by kernel_rfl) K
theorem by142 (K : Nat → Prop) : byC Try.prog 142 K = K 24 := byC_of (by kernel_rfl) K
theorem ty143 (K : Ty → Prop) : tyC Try.prog 143 K = K .func := tyC_of (by kernel_rfl) K
theorem by143 (K : Nat → Prop) : byC Try.prog 143 K = K 8 := byC_of (by kernel_rfl) K
theorem ty144 (K : Ty → Prop) : tyC Try.prog 144 K = K .func := tyC_of (by kernel_rfl) K
theorem by144 (K : Nat → Prop) : byC Try.prog 144 K = K 8 := byC_of (by kernel_rfl) K
theorem ty145 (K : Ty → Prop) : tyC Try.prog 145 K = K (.st [(.arr 32 5 (.int .u8)), (.arr 32 5 (.int .u8))]) := tyC_of (by kernel_rfl) K
theorem by145 (K : Nat → Prop) : byC Try.prog 145 K = K 64 := byC_of (by kernel_rfl) K
theorem ty146 (K : Ty → Prop) : tyC Try.prog 146 K = K (.st [(.arr 32 5 (.int .u8)), (.arr 32 5 (.int .u8))]) := tyC_of (by kernel_rfl) K
theorem by146 (K : Nat → Prop) : byC Try.prog 146 K = K 64 := byC_of (by kernel_rfl) K
theorem ty147 (K : Ty → Prop) : tyC Try.prog 147 K = K .func := tyC_of (by kernel_rfl) K
theorem by147 (K : Nat → Prop) : byC Try.prog 147 K = K 8 := byC_of (by kernel_rfl) K
theorem ty148 (K : Ty → Prop) : tyC Try.prog 148 K = K .func := tyC_of (by kernel_rfl) K
theorem by148 (K : Nat → Prop) : byC Try.prog 148 K = K 8 := byC_of (by kernel_rfl) K
theorem ty149 (K : Ty → Prop) : tyC Try.prog 149 K = K .func := tyC_of (by kernel_rfl) K
theorem by149 (K : Nat → Prop) : byC Try.prog 149 K = K 8 := byC_of (by kernel_rfl) K
theorem ty150 (K : Ty → Prop) : tyC Try.prog 150 K = K .func := tyC_of (by kernel_rfl) K
theorem by150 (K : Nat → Prop) : byC Try.prog 150 K = K 8 := byC_of (by kernel_rfl) K
theorem ty151 (K : Ty → Prop) : tyC Try.prog 151 K = K .func := tyC_of (by kernel_rfl) K
theorem by151 (K : Nat → Prop) : byC Try.prog 151 K = K 8 := byC_of (by kernel_rfl) K
theorem ty152 (K : Ty → Prop) : tyC Try.prog 152 K = K .func := tyC_of (by kernel_rfl) K
theorem by152 (K : Nat → Prop) : byC Try.prog 152 K = K 8 := byC_of (by kernel_rfl) K
theorem ty153 (K : Ty → Prop) : tyC Try.prog 153 K = K .func := tyC_of (by kernel_rfl) K
theorem by153 (K : Nat → Prop) : byC Try.prog 153 K = K 8 := byC_of (by kernel_rfl) K
theorem ty154 (K : Ty → Prop) : tyC Try.prog 154 K = K .func := tyC_of (by kernel_rfl) K
theorem by154 (K : Nat → Prop) : byC Try.prog 154 K = K 8 := byC_of (by kernel_rfl) K
theorem ty155 (K : Ty → Prop) : tyC Try.prog 155 K = K (.int .u64) := tyC_of (by kernel_rfl) K
theorem by155 (K : Nat → Prop) : byC Try.prog 155 K = K 8 := byC_of (by kernel_rfl) K
theorem ty156 (K : Ty → Prop) : tyC Try.prog 156 K = K .func := tyC_of (by kernel_rfl) K
theorem by156 (K : Nat → Prop) : byC Try.prog 156 K = K 8 := byC_of (by kernel_rfl) K
theorem ty157 (K : Ty → Prop) : tyC Try.prog 157 K = K .func := tyC_of (by kernel_rfl) K
theorem by157 (K : Nat → Prop) : byC Try.prog 157 K = K 8 := byC_of (by kernel_rfl) K
theorem ty158 (K : Ty → Prop) : tyC Try.prog 158 K = K (.ptr 163) := tyC_of (by kernel_rfl) K
theorem by158 (K : Nat → Prop) : byC Try.prog 158 K = K 8 := byC_of (by kernel_rfl) K
theorem ty159 (K : Ty → Prop) : tyC Try.prog 159 K = K (.st [(.arr 32 5 (.int .u8)), (.int .u32), (.int .u64)]) := tyC_of (by kernel_rfl) K
theorem by159 (K : Nat → Prop) : byC Try.prog 159 K = K 48 := byC_of (by kernel_rfl) K
theorem ty160 (K : Ty → Prop) : tyC Try.prog 160 K = K (.st [(.arr 32 5 (.int .u8)), (.int .u32), (.int .u64)]) := tyC_of (by kernel_rfl) K
theorem by160 (K : Nat → Prop) : byC Try.prog 160 K = K 48 := byC_of (by kernel_rfl) K
theorem ty161 (K : Ty → Prop) : tyC Try.prog 161 K = K (.slice 167) := tyC_of (by kernel_rfl) K
theorem by161 (K : Nat → Prop) : byC Try.prog 161 K = K 24 := byC_of (by kernel_rfl) K
theorem ty162 (K : Ty → Prop) : tyC Try.prog 162 K = K (.st [(.st [(.arr 32 5 (.int .u8)), (.int .u32), (.int .u64)]), (.slice 167), (.int .i64), (.slice 25)]) := tyC_of (by kernel_rfl) K
theorem by162 (K : Nat → Prop) : byC Try.prog 162 K = K 104 := byC_of (by kernel_rfl) K
theorem ty163 (K : Ty → Prop) : tyC Try.prog 163 K = K (.st [(.st [(.arr 32 5 (.int .u8)), (.int .u32), (.int .u64)]), (.slice 167), (.int .i64), (.slice 25)]) := tyC_of (by kernel_rfl) K
theorem by163 (K : Nat → Prop) : byC Try.prog 163 K = K 104 := byC_of (by kernel_rfl) K
theorem ty164 (K : Ty → Prop) : tyC Try.prog 164 K = K .func := tyC_of (by kernel_rfl) K
theorem by164 (K : Nat → Prop) : byC Try.prog 164 K = K 8 := byC_of (by kernel_rfl) K
theorem ty165 (K : Ty → Prop) : tyC Try.prog 165 K = K .func := tyC_of (by kernel_rfl) K
theorem by165 (K : Nat → Prop) : byC Try.prog 165 K = K 8 := byC_of (by kernel_rfl) K
theorem ty166 (K : Ty → Prop) : tyC Try.prog 166 K = K (.st [(.arr 32 5 (.int .u8)), (.int .i64), (.int .i64)]) := tyC_of (by kernel_rfl) K
theorem by166 (K : Nat → Prop) : byC Try.prog 166 K = K 48 := byC_of (by kernel_rfl) K
theorem ty167 (K : Ty → Prop) : tyC Try.prog 167 K = K (.st [(.arr 32 5 (.int .u8)), (.int .i64), (.int .i64)]) := tyC_of (by kernel_rfl) K
theorem by167 (K : Nat → Prop) : byC Try.prog 167 K = K 48 := byC_of (by kernel_rfl) K
theorem ty168 (K : Ty → Prop) : tyC Try.prog 168 K = K (.arr 67 3 (.int .i64)) := tyC_of (by kernel_rfl) K
theorem by168 (K : Nat → Prop) : byC Try.prog 168 K = K 536 := byC_of (by kernel_rfl) K
theorem ty169 (K : Ty → Prop) : tyC Try.prog 169 K = K .func := tyC_of (by kernel_rfl) K
theorem by169 (K : Nat → Prop) : byC Try.prog 169 K = K 8 := byC_of (by kernel_rfl) K
theorem ty170 (K : Ty → Prop) : tyC Try.prog 170 K = K .func := tyC_of (by kernel_rfl) K
theorem by170 (K : Nat → Prop) : byC Try.prog 170 K = K 8 := byC_of (by kernel_rfl) K
theorem ty171 (K : Ty → Prop) : tyC Try.prog 171 K = K .func := tyC_of (by kernel_rfl) K
theorem by171 (K : Nat → Prop) : byC Try.prog 171 K = K 8 := byC_of (by kernel_rfl) K
theorem ty172 (K : Ty → Prop) : tyC Try.prog 172 K = K .func := tyC_of (by kernel_rfl) K
theorem by172 (K : Nat → Prop) : byC Try.prog 172 K = K 8 := byC_of (by kernel_rfl) K
theorem ty173 (K : Ty → Prop) : tyC Try.prog 173 K = K .func := tyC_of (by kernel_rfl) K
theorem by173 (K : Nat → Prop) : byC Try.prog 173 K = K 8 := byC_of (by kernel_rfl) K
theorem ty174 (K : Ty → Prop) : tyC Try.prog 174 K = K .func := tyC_of (by kernel_rfl) K
theorem by174 (K : Nat → Prop) : byC Try.prog 174 K = K 8 := byC_of (by kernel_rfl) K
theorem ty175 (K : Ty → Prop) : tyC Try.prog 175 K = K .func := tyC_of (by kernel_rfl) K
theorem by175 (K : Nat → Prop) : byC Try.prog 175 K = K 8 := byC_of (by kernel_rfl) K
theorem ty176 (K : Ty → Prop) : tyC Try.prog 176 K = K .func := tyC_of (by kernel_rfl) K
theorem by176 (K : Nat → Prop) : byC Try.prog 176 K = K 8 := byC_of (by kernel_rfl) K
theorem ty177 (K : Ty → Prop) : tyC Try.prog 177 K = K (.slice 54) := tyC_of (by kernel_rfl) K
theorem by177 (K : Nat → Prop) : byC Try.prog 177 K = K 24 := byC_of (by kernel_rfl) K
theorem ty178 (K : Ty → Prop) : tyC Try.prog 178 K = K .func := tyC_of (by kernel_rfl) K
theorem by178 (K : Nat → Prop) : byC Try.prog 178 K = K 8 := byC_of (by kernel_rfl) K
theorem ty179 (K : Ty → Prop) : tyC Try.prog 179 K = K .func := tyC_of (by kernel_rfl) K
theorem by179 (K : Nat → Prop) : byC Try.prog 179 K = K 8 := byC_of (by kernel_rfl) K
theorem ty180 (K : Ty → Prop) : tyC Try.prog 180 K = K .func := tyC_of (by kernel_rfl) K
theorem by180 (K : Nat → Prop) : byC Try.prog 180 K = K 8 := byC_of (by kernel_rfl) K
theorem ty181 (K : Ty → Prop) : tyC Try.prog 181 K = K .func := tyC_of (by kernel_rfl) K
theorem by181 (K : Nat → Prop) : byC Try.prog 181 K = K 8 := byC_of (by kernel_rfl) K
theorem ty182 (K : Ty → Prop) : tyC Try.prog 182 K = K (.slice 3) := tyC_of (by kernel_rfl) K
theorem by182 (K : Nat → Prop) : byC Try.prog 182 K = K 24 := byC_of (by kernel_rfl) K
theorem ty183 (K : Ty → Prop) : tyC Try.prog 183 K = K .func := tyC_of (by kernel_rfl) K
theorem by183 (K : Nat → Prop) : byC Try.prog 183 K = K 8 := byC_of (by kernel_rfl) K
theorem ty184 (K : Ty → Prop) : tyC Try.prog 184 K = K .func := tyC_of (by kernel_rfl) K
theorem by184 (K : Nat → Prop) : byC Try.prog 184 K = K 8 := byC_of (by kernel_rfl) K
theorem ty185 (K : Ty → Prop) : tyC Try.prog 185 K = K .func := tyC_of (by kernel_rfl) K
theorem by185 (K : Nat → Prop) : byC Try.prog 185 K = K 8 := byC_of (by kernel_rfl) K
theorem ty186 (K : Ty → Prop) : tyC Try.prog 186 K = K .func := tyC_of (by kernel_rfl) K
theorem by186 (K : Nat → Prop) : byC Try.prog 186 K = K 8 := byC_of (by kernel_rfl) K
theorem ty187 (K : Ty → Prop) : tyC Try.prog 187 K = K .func := tyC_of (by kernel_rfl) K
theorem by187 (K : Nat → Prop) : byC Try.prog 187 K = K 8 := byC_of (by kernel_rfl) K
theorem ty188 (K : Ty → Prop) : tyC Try.prog 188 K = K .func := tyC_of (by kernel_rfl) K
theorem by188 (K : Nat → Prop) : byC Try.prog 188 K = K 8 := byC_of (by kernel_rfl) K
theorem ty189 (K : Ty → Prop) : tyC Try.prog 189 K = K .func := tyC_of (by kernel_rfl) K
theorem by189 (K : Nat → Prop) : byC Try.prog 189 K = K 8 := byC_of (by kernel_rfl) K
theorem ty190 (K : Ty → Prop) : tyC Try.prog 190 K = K (.slice 192) := tyC_of (by kernel_rfl) K
theorem by190 (K : Nat → Prop) : byC Try.prog 190 K = K 24 := byC_of (by kernel_rfl) K
theorem ty191 (K : Ty → Prop) : tyC Try.prog 191 K = K (.st [(.arr 32 5 (.int .u8)), (.int .i64)]) := tyC_of (by kernel_rfl) K
theorem by191 (K : Nat → Prop) : byC Try.prog 191 K = K 40 := byC_of (by kernel_rfl) K
theorem ty192 (K : Ty → Prop) : tyC Try.prog 192 K = K (.st [(.arr 32 5 (.int .u8)), (.int .i64)]) := tyC_of (by kernel_rfl) K
theorem by192 (K : Nat → Prop) : byC Try.prog 192 K = K 40 := byC_of (by kernel_rfl) K
theorem ty193 (K : Ty → Prop) : tyC Try.prog 193 K = K (.ptr 220) := tyC_of (by kernel_rfl) K
theorem by193 (K : Nat → Prop) : byC Try.prog 193 K = K 8 := byC_of (by kernel_rfl) K
theorem ty194 (K : Ty → Prop) : tyC Try.prog 194 K = K .func := tyC_of (by kernel_rfl) K
theorem by194 (K : Nat → Prop) : byC Try.prog 194 K = K 8 := byC_of (by kernel_rfl) K
theorem ty195 (K : Ty → Prop) : tyC Try.prog 195 K = K .func := tyC_of (by kernel_rfl) K
theorem by195 (K : Nat → Prop) : byC Try.prog 195 K = K 8 := byC_of (by kernel_rfl) K
theorem ty196 (K : Ty → Prop) : tyC Try.prog 196 K = K .func := tyC_of (by kernel_rfl) K
theorem by196 (K : Nat → Prop) : byC Try.prog 196 K = K 8 := byC_of (by kernel_rfl) K
theorem ty197 (K : Ty → Prop) : tyC Try.prog 197 K = K (.slice 109) := tyC_of (by kernel_rfl) K
theorem by197 (K : Nat → Prop) : byC Try.prog 197 K = K 24 := byC_of (by kernel_rfl) K
theorem ty198 (K : Ty → Prop) : tyC Try.prog 198 K = K .func := tyC_of (by kernel_rfl) K
theorem by198 (K : Nat → Prop) : byC Try.prog 198 K = K 8 := byC_of (by kernel_rfl) K
theorem ty199 (K : Ty → Prop) : tyC Try.prog 199 K = K .func := tyC_of (by kernel_rfl) K
theorem by199 (K : Nat → Prop) : byC Try.prog 199 K = K 8 := byC_of (by kernel_rfl) K
theorem ty200 (K : Ty → Prop) : tyC Try.prog 200 K = K .func := tyC_of (by kernel_rfl) K
theorem by200 (K : Nat → Prop) : byC Try.prog 200 K = K 8 := byC_of (by kernel_rfl) K
theorem ty201 (K : Ty → Prop) : tyC Try.prog 201 K = K (.map 25 4) := tyC_of (by kernel_rfl) K
theorem by201 (K : Nat → Prop) : byC Try.prog 201 K = K 8 := byC_of (by kernel_rfl) K
theorem ty202 (K : Ty → Prop) : tyC Try.prog 202 K = K .func := tyC_of (by kernel_rfl) K
theorem by202 (K : Nat → Prop) : byC Try.prog 202 K = K 8 := byC_of (by kernel_rfl) K
theorem ty203 (K : Ty → Prop) : tyC Try.prog 203 K = K .func := tyC_of (by kernel_rfl) K
theorem by203 (K : Nat → Prop) : byC Try.prog 203 K = K 8 := byC_of (by kernel_rfl) K
theorem ty204 (K : Ty → Prop) : tyC Try.prog 204 K = K .func := tyC_of (by kernel_rfl) K
theorem by204 (K : Nat → Prop) : byC Try.prog 204 K = K 8 := byC_of (by kernel_rfl) K
theorem ty205 (K : Ty → Prop) : tyC Try.prog 205 K = K .func := tyC_of (by kernel_rfl) K
theorem by205 (K : Nat → Prop) : byC Try.prog 205 K = K 8 := byC_of (by kernel_rfl) K
theorem ty206 (K : Ty → Prop) : tyC Try.prog 206 K = K .func := tyC_of (by kernel_rfl) K
theorem by206 (K : Nat → Prop) : byC Try.prog 206 K = K 8 := byC_of (by kernel_rfl) K
theorem ty207 (K : Ty → Prop) : tyC Try.prog 207 K = K .func := tyC_of (by kernel_rfl) K
theorem by207 (K : Nat → Prop) : byC Try.prog 207 K = K 8 := byC_of (by kernel_rfl) K
theorem ty208 (K : Ty → Prop) : tyC Try.prog 208 K = K .func := tyC_of (by kernel_rfl) K
theorem by208 (K : Nat → Prop) : byC Try.prog 208 K = K 8 := byC_of (by kernel_rfl) K
theorem ty209 (K : Ty → Prop) : tyC Try.prog 209 K = K .func := tyC_of (by kernel_rfl) K
theorem by209 (K : Nat → Prop) : byC Try.prog 209 K = K 8 := byC_of (by kernel_rfl) K
theorem ty210 (K : Ty → Prop) : tyC Try.prog 210 K = K .func := tyC_of (by kernel_rfl) K
theorem by210 (K : Nat → Prop) : byC Try.prog 210 K = K 8 := byC_of (by kernel_rfl) K
theorem ty211 (K : Ty → Prop) : tyC Try.prog 211 K = K .func := tyC_of (by kernel_rfl) K
theorem by211 (K : Nat → Prop) : byC Try.prog 211 K = K 8 := byC_of (by kernel_rfl) K
theorem ty212 (K : Ty → Prop) : tyC Try.prog 212 K = K .func := tyC_of (by kernel_rfl) K
theorem by212 (K : Nat → Prop) : byC Try.prog 212 K = K 8 := byC_of (by kernel_rfl) K
theorem ty213 (K : Ty → Prop) : tyC Try.prog 213 K = K .func := tyC_of (by kernel_rfl) K
theorem by213 (K : Nat → Prop) : byC Try.prog 213 K = K 8 := byC_of (by kernel_rfl) K
theorem ty214 (K : Ty → Prop) : tyC Try.prog 214 K = K .func := tyC_of (by kernel_rfl) K
theorem by214 (K : Nat → Prop) : byC Try.prog 214 K = K 8 := byC_of (by kernel_rfl) K
theorem ty215 (K : Ty → Prop) : tyC Try.prog 215 K = K .func := tyC_of (by kernel_rfl) K
theorem by215 (K : Nat → Prop) : byC Try.prog 215 K = K 8 := byC_of (by kernel_rfl) K
theorem ty216 (K : Ty → Prop) : tyC Try.prog 216 K = K .func := tyC_of (by kernel_rfl) K
theorem by216 (K : Nat → Prop) : byC Try.prog 216 K = K 8 := byC_of (by kernel_rfl) K
theorem ty217 (K : Ty → Prop) : tyC Try.prog 217 K = K .func := tyC_of (by kernel_rfl) K
theorem by217 (K : Nat → Prop) : byC Try.prog 217 K = K 8 := byC_of (by kernel_rfl) K
theorem ty218 (K : Ty → Prop) : tyC Try.prog 218 K = K .func := tyC_of (by kernel_rfl) K
theorem by218 (K : Nat → Prop) : byC Try.prog 218 K = K 8 := byC_of (by kernel_rfl) K
theorem ty219 (K : Ty → Prop) : tyC Try.prog 219 K = K (.st [(.arr 8 109 (.int .u32)), (.slice 5), (.int .i64)]) := tyC_of (by kernel_rfl) K
theorem by219 (K : Nat → Prop) : byC Try.prog 219 K = K 64 := byC_of (by kernel_rfl) K
theorem ty220 (K : Ty → Prop) : tyC Try.prog 220 K = K (.st [(.arr 8 109 (.int .u32)), (.slice 5), (.int .i64)]) := tyC_of (by kernel_rfl) K
theorem by220 (K : Nat → Prop) : byC Try.prog 220 K = K 64 := byC_of (by kernel_rfl) K
theorem ty221 (K : Ty → Prop) : tyC Try.prog 221 K = K .func := tyC_of (by kernel_rfl) K
theorem by221 (K : Nat → Prop) : byC Try.prog 221 K = K 8 := byC_of (by kernel_rfl) K
theorem ty222 (K : Ty → Prop) : tyC Try.prog 222 K = K .func := tyC_of (by kernel_rfl) K
theorem by222 (K : Nat → Prop) : byC Try.prog 222 K = K 8 := byC_of (by kernel_rfl) K
theorem ty223 (K : Ty → Prop) : tyC Try.prog 223 K = K .func := tyC_of (by kernel_rfl) K
theorem by223 (K : Nat → Prop) : byC Try.prog 223 K = K 8 := byC_of (by kernel_rfl) K
theorem ty224 (K : Ty → Prop) : tyC Try.prog 224 K = K .func := tyC_of (by kernel_rfl) K
theorem by224 (K : Nat → Prop) : byC Try.prog 224 K = K 8 := byC_of (by kernel_rfl) K
theorem ty225 (K : Ty → Prop) : tyC Try.prog 225 K = K .func := tyC_of (by kernel_rfl) K
theorem by225 (K : Nat → Prop) : byC Try.prog 225 K = K 8 := byC_of (by kernel_rfl) K
theorem ty226 (K : Ty → Prop) : tyC Try.prog 226 K = K (.arr 3 25 (.arr 32 5 (.int .u8))) := tyC_of (by kernel_rfl) K
theorem by226 (K : Nat → Prop) : byC Try.prog 226 K = K 96 := byC_of (by kernel_rfl) K
theorem ty227 (K : Ty → Prop) : tyC Try.prog 227 K = K .func := tyC_of (by kernel_rfl) K
theorem by227 (K : Nat → Prop) : byC Try.prog 227 K = K 8 := byC_of (by kernel_rfl) K
theorem ty228 (K : Ty → Prop) : tyC Try.prog 228 K = K (.arr 64 109 (.int .u32)) := tyC_of (by kernel_rfl) K
theorem by228 (K : Nat → Prop) : byC Try.prog 228 K = K 256 := byC_of (by kernel_rfl) K
theorem ty229 (K : Ty → Prop) : tyC Try.prog 229 K = K .func := tyC_of (by kernel_rfl) K
theorem by229 (K : Nat → Prop) : byC Try.prog 229 K = K 8 := byC_of (by kernel_rfl) K
theorem ty230 (K : Ty → Prop) : tyC Try.prog 230 K = K .func := tyC_of (by kernel_rfl) K
theorem by230 (K : Nat → Prop) : byC Try.prog 230 K = K 8 := byC_of (by kernel_rfl) K
theorem ty231 (K : Ty → Prop) : tyC Try.prog 231 K = K .func := tyC_of (by kernel_rfl) K
theorem by231 (K : Nat → Prop) : byC Try.prog 231 K = K 8 := byC_of (by kernel_rfl) K
theorem ty232 (K : Ty → Prop) : tyC Try.prog 232 K = K .func := tyC_of (by kernel_rfl) K
theorem by232 (K : Nat → Prop) : byC Try.prog 232 K = K 8 := byC_of (by kernel_rfl) K
theorem ty233 (K : Ty → Prop) : tyC Try.prog 233 K = K (.int .i64) := tyC_of (by kernel_rfl) K
theorem by233 (K : Nat → Prop) : byC Try.prog 233 K = K 8 := byC_of (by kernel_rfl) K
theorem ty235 (K : Ty → Prop) : tyC Try.prog 235 K = K .func := tyC_of (by kernel_rfl) K
theorem by235 (K : Nat → Prop) : byC Try.prog 235 K = K 8 := byC_of (by kernel_rfl) K
theorem ty236 (K : Ty → Prop) : tyC Try.prog 236 K = K .func := tyC_of (by kernel_rfl) K
theorem by236 (K : Nat → Prop) : byC Try.prog 236 K = K 8 := byC_of (by kernel_rfl) K
theorem ty237 (K : Ty → Prop) : tyC Try.prog 237 K = K .func := tyC_of (by kernel_rfl) K
theorem by237 (K : Nat → Prop) : byC Try.prog 237 K = K 8 := byC_of (by kernel_rfl) K
theorem ty239 (K : Ty → Prop) : tyC Try.prog 239 K = K .func := tyC_of (by kernel_rfl) K
theorem by239 (K : Nat → Prop) : byC Try.prog 239 K = K 8 := byC_of (by kernel_rfl) K
theorem ty240 (K : Ty → Prop) : tyC Try.prog 240 K = K .func := tyC_of (by kernel_rfl) K
theorem by240 (K : Nat → Prop) : byC Try.prog 240 K = K 8 := byC_of (by kernel_rfl) K
theorem ty241 (K : Ty → Prop) : tyC Try.prog 241 K = K .func := tyC_of (by kernel_rfl) K
theorem by241 (K : Nat → Prop) : byC Try.prog 241 K = K 8 := byC_of (by kernel_rfl) K
theorem ty242 (K : Ty → Prop) : tyC Try.prog 242 K = K (.int .u64) := tyC_of (by kernel_rfl) K
theorem by242 (K : Nat → Prop) : byC Try.prog 242 K = K 8 := byC_of (by kernel_rfl) K
theorem ty243 (K : Ty → Prop) : tyC Try.prog 243 K = K .func := tyC_of (by kernel_rfl) K
theorem by243 (K : Nat → Prop) : byC Try.prog 243 K = K 8 := byC_of (by kernel_rfl) K
theorem ty244 (K : Ty → Prop) : tyC Try.prog 244 K = K .func := tyC_of (by kernel_rfl) K
theorem by244 (K : Nat → Prop) : byC Try.prog 244 K = K 8 := byC_of (by kernel_rfl) K
theorem ty245 (K : Ty → Prop) : tyC Try.prog 245 K = K .func := tyC_of (by kernel_rfl) K
theorem by245 (K : Nat → Prop) : byC Try.prog 245 K = K 8 := byC_of (by kernel_rfl) K
theorem ty246 (K : Ty → Prop) : tyC Try.prog 246 K = K (.ptr 3) := tyC_of (by kernel_rfl) K
theorem by246 (K : Nat → Prop) : byC Try.prog 246 K = K 8 := byC_of (by kernel_rfl) K
theorem ty247 (K : Ty → Prop) : tyC Try.prog 247 K = K .func := tyC_of (by kernel_rfl) K
theorem by247 (K : Nat → Prop) : byC Try.prog 247 K = K 8 := byC_of (by kernel_rfl) K
theorem ty248 (K : Ty → Prop) : tyC Try.prog 248 K = K (.ptr 242) := tyC_of (by kernel_rfl) K
theorem by248 (K : Nat → Prop) : byC Try.prog 248 K = K 8 := byC_of (by kernel_rfl) K
theorem ty250 (K : Ty → Prop) : tyC Try.prog 250 K = K .func := tyC_of (by kernel_rfl) K
theorem by250 (K : Nat → Prop) : byC Try.prog 250 K = K 8 := byC_of (by kernel_rfl) K
theorem ty251 (K : Ty → Prop) : tyC Try.prog 251 K = K .func := tyC_of (by kernel_rfl) K
theorem by251 (K : Nat → Prop) : byC Try.prog 251 K = K 8 := byC_of (by kernel_rfl) K
theorem ty257 (K : Ty → Prop) : tyC Try.prog 257 K = K .func := tyC_of (by kernel_rfl) K
theorem by257 (K : Nat → Prop) : byC Try.prog 257 K = K 8 := byC_of (by kernel_rfl) K
theorem ty260 (K : Ty → Prop) : tyC Try.prog 260 K = K .func := tyC_of (by kernel_rfl) K
theorem by260 (K : Nat → Prop) : byC Try.prog 260 K = K 8 := byC_of (by kernel_rfl) K
theorem ty261 (K : Ty → Prop) : tyC Try.prog 261 K = K (.ptr 5) := tyC_of (by kernel_rfl) K
theorem by261 (K : Nat → Prop) : byC Try.prog 261 K = K 8 := byC_of (by kernel_rfl) K
attribute [go_sem ↓] ty1 by1 ty2 by2 ty3 by3 ty4 by4 ty5 by5 ty9 by9 ty12 by12 ty15 by15 ty16 by16 ty17 by17 ty21 by21 ty22 by22 ty23 by23 ty24 by24 ty25 by25 ty26 by26 ty27 by27 ty28 by28 ty29 by29 ty30 by30 ty31 by31 ty32 by32 ty33 by33 ty34 by34 ty35 by35 ty36 by36 ty37 by37 ty39 by39 ty40 by40 ty41 by41 ty42 by42 ty43 by43 ty44 by44 ty45 by45 ty46 by46 ty47 by47 ty48 by48 ty49 by49 ty50 by50 ty51 by51 ty53 by53 ty54 by54 ty55 by55 ty56 by56 ty57 by57 ty59 by59 ty61 by61 ty62 by62 ty63 by63 ty64 by64 ty65 by65 ty66 by66 ty67 by67 ty68 by68 ty69 by69 ty70 by70 ty71 by71 ty72 by72 ty73 by73 ty74 by74 ty75 by75 ty76 by76 ty77 by77 ty78 by78 ty79 by79 ty80 by80 ty81 by81 ty82 by82 ty83 by83 ty84 by84 ty85 by85 ty86 by86 ty87 by87 ty88 by88 ty90 by90 ty92 by92 ty93 by93 ty94 by94 ty95 by95 ty96 by96 ty97 by97 ty98 by98 ty99 by99 ty100 by100 ty101 by101 ty102 by102 ty103 by103 ty104 by104 ty105 by105 ty106 by106 ty108 by108 ty109 by109 ty110 by110 ty111 by111 ty112 by112 ty113 by113 ty114 by114 ty115 by115 ty116 by116 ty117 by117 ty118 by118 ty119 by119 ty120 by120 ty122 by122 ty123 by123 ty124 by124 ty125 by125 ty126 by126 ty127 by127 ty128 by128 ty129 by129 ty130 by130 ty131 by131 ty132 by132 ty134 by134 ty135 by135 ty136 by136 ty138 by138 ty139 by139 ty140 by140 ty141 by141 ty142 by142 ty143 by143 ty144 by144 ty145 by145 ty146 by146 ty147 by147 ty148 by148 ty149 by149 ty150 by150 ty151 by151 ty152 by152 ty153 by153 ty154 by154 ty155 by155 ty156 by156 ty157 by157 ty158 by158 ty159 by159 ty160 by160 ty161 by161 ty162 by162 ty163 by163 ty164 by164 ty165 by165 ty166 by166 ty167 by167 ty168 by168 ty169 by169 ty170 by170 ty171 by171 ty172 by172 ty173 by173 ty174 by174 ty175 by175 ty176 by176 ty177 by177 ty178 by178 ty179 by179 ty180 by180 ty181 by181 ty182 by182 ty183 by183 ty184 by184 ty185 by185 ty186 by186 ty187 by187 ty188 by188 ty189 by189 ty190 by190 ty191 by191 ty192 by192 ty193 by193 ty194 by194 ty195 by195 ty196 by196 ty197 by197 ty198 by198 ty199 by199 ty200 by200 ty201 by201 ty202 by202 ty203 by203 ty204 by204 ty205 by205 ty206 by206 ty207 by207 ty208 by208 ty209 by209 ty210 by210 ty211 by211 ty212 by212 ty213 by213 ty214 by214 ty215 by215 ty216 by216 ty217 by217 ty218 by218 ty219 by219 ty220 by220 ty221 by221 ty222 by222 ty223 by223 ty224 by224 ty225 by225 ty226 by226 ty227 by227 ty228 by228 ty229 by229 ty230 by230 ty231 by231 ty232 by232 ty233 by233 ty235 by235 ty236 by236 ty237 by237 ty239 by239 ty240 by240 ty241 by241 ty242 by242 ty243 by243 ty244 by244 ty245 by245 ty246 by246 ty247 by247 ty248 by248 ty250 by250 ty251 by251 ty257 by257 ty260 by260 ty261 by261
end Go.Proofs.Ytclkaibkepaebaa
namespace Go.Proofs.Ytclkaibkepaebaa
open Go Go.Sy
/-- planchet/planchetlaw11.HyperSigns -/
def pl3 : List (Nat × Plan) := [(8, [(0, [], none), (1, [0], none), (2, [0, 1], none), (3, [0, 1, 2], none), (4, [0, 1, 2, 3], none), (5, [0, 1, 2, 3], none), (6, [0], none), (7, [], none), (8, [], none), (9, [], none), (10, [], none), (11, [], none), (12, [], none), (13, [], none), (14, [], none), (15, [], none)])]
/-- planchet/planchetlaw11.HyperVerifies -/
def pl4 : List (Nat × Plan) := [(3, [(0, [], none), (1, [0], none), (2, [0, 1], none), (3, [], none), (4, [0, 1, 2, 3], none), (5, [0, 1, 2, 3, 4], none), (6, [0, 1, 2, 3, 4, 5], none), (7, [4, 5], none), (8, [], none), (9, [], none), (10, [], none), (11, [], none), (12, [], none), (13, [], none)])]
/-- planchet/planchetlaw11.HyperMeets -/
def pl5 : List (Nat × Plan) := [(4, [(0, [], none), (1, [0], none), (2, [0, 1], none), (3, [0, 1], none), (4, [0, 1, 2, 3], none), (5, [0, 1, 2, 3], none), (6, [0, 1], none), (7, [0, 1, 2, 3, 4, 5, 6], none), (8, [0, 1, 2, 3, 4, 5, 6], none), (9, [], none), (10, [], none), (11, [], none), (13, [0, 1, 2, 3, 4, 5, 6, 7, 8, 9, 10, 11], none), (14, [], some [11]), (12, [11, 13, 14], none), (15, [], none)]), (13, [(0, [], none), (1, [], none), (2, [0, 1], none), (3, [0, 1], none), (4, [0, 1], none), (5, [0, 1], none), (6, [0, 1], none), (7, [0, 1], none), (8, [0, 1, 2, 3, 4, 5, 6, 7], none), (9, [0, 1, 2, 3, 4, 5, 6, 7], none), (10, [0, 1, 2, 3, 4, 5, 6, 7], none), (11, [0, 1, 2, 3, 4, 5, 6, 7], none), (12, [0, 1, 2, 3, 4, 5, 6, 7], none), (13, [0, 1], none), (14, [], none), (15, [], some [102])])]
/-- planchet/planchetlaw19.LogRoots -/
def pl6 : List (Nat × Plan) := [(8, [(0, [], none), (1, [0], none), (2, [0], none), (3, [], none), (4, [], none), (5, [], none), (6, [], none), (7, [], none)])]
/-- planchet/planchetlaw19.LogChecks -/
def pl7 : List (Nat × Plan) := [(3, [(0, [], none), (1, [0], none), (2, [0, 1], none), (3, [0, 1, 2], none), (4, [0, 1, 2, 3], none), (5, [], none), (6, [0, 1, 2, 3, 4, 5], none), (7, [0, 1, 2, 3, 4, 5, 6], none), (8, [0, 1, 2, 3, 4, 5, 6, 7], none), (9, [0, 1, 2, 3, 4, 5, 6, 7, 8], none), (10, [0, 1, 2, 3, 4, 5, 6, 7, 8, 9], none), (11, [], none), (12, [], none), (13, [], none), (14, [], none), (15, [14], none), (16, [14, 15], none), (17, [14, 15, 16], none), (18, [14, 15, 16, 17], none), (19, [], none), (20, [14, 15, 16, 17, 18, 19], none), (21, [14, 15, 16, 17, 18, 19, 20], none), (22, [14, 15, 16, 17, 18, 19, 20, 21], none), (23, [14, 15, 16, 17, 18, 19, 20, 21, 22], none), (24, [14, 15, 16, 17, 18, 19, 20, 21, 22, 23], none), (25, [], none), (26, [], none), (27, [], none), (28, [], none), (29, [], none), (30, [], none), (31, [], none)])]
/-- planchet/planchetlaw19.LogShows -/
def pl8 : List (Nat × Plan) := [(9, [(0, [], none), (1, [], none), (2, [], none), (3, [], none), (4, [], none), (5, [], none), (6, [], none), (7, [], none), (8, [], none), (9, [], none), (10, [], none), (11, [], none), (12, [], none), (13, [], none), (14, [], none), (15, [], none), (16, [15], none), (17, [15], none), (18, [15, 16, 17], none), (19, [15, 16, 17, 18], none), (20, [15, 16, 17, 18, 19], none), (21, [15, 16, 17, 18], none), (22, [15, 16, 17, 18], none), (23, [15, 16, 17, 18, 19, 20, 21, 22], none), (24, [], none), (25, [], none), (26, [], none), (27, [], none), (28, [27], none), (29, [27, 28], none), (30, [27, 28, 29], none), (31, [27, 28, 29], none), (32, [27, 28, 29, 30, 31], none), (33, [], none), (34, [], none), (35, [], none), (36, [], none), (37, [], none), (38, [], none)])]
/-- planchet/planchetlaw17.PtreeNodes -/
def pl9 : List (Nat × Plan) := [(1, [(0, [], none), (1, [], none), (2, [], none), (3, [], none), (4, [], none), (5, [], none), (6, [4, 5], none), (7, [4, 5], none), (8, [4, 5, 6, 7], none), (9, [4, 5, 6, 7], none), (10, [4, 5], none), (11, [], none), (12, [], none), (13, [], none), (14, [], none), (15, [], none), (16, [], none), (17, [15, 16], none), (18, [15, 16], none), (19, [], none), (20, [15, 16, 17, 18, 19], none), (21, [15, 16, 17, 18, 19], none), (22, [15, 16, 17, 18, 19, 20, 21], none), (23, [15, 16, 17, 18, 19, 20, 21], none), (24, [], none), (25, [], none), (26, [], none), (27, [], none), (28, [], none), (29, [], none), (30, [28, 29], none), (31, [], none), (32, [28, 29, 30, 31], none), (33, [28, 29, 30, 31], none), (34, [28, 29, 30, 31, 32, 33], none), (35, [], none), (36, [], none), (37, [], none), (38, [], none), (39, [], none), (40, [], none), (41, [], none)])]
/-- planchet/planchetlaw17.PtreeRoots -/
def pl10 : List (Nat × Plan) := [(7, [(0, [], none), (1, [0], none), (2, [0], none), (3, [0], none), (4, [], none), (5, [], none), (6, [], none), (7, [], none), (8, [], none), (9, [], none), (10, [], none), (11, [], none), (12, [], none)])]
/-- planchet/planchetlaw17.PtreeProves -/
def pl11 : List (Nat × Plan) := [(7, [(0, [], none), (1, [], none), (2, [0, 1], none), (3, [], none), (4, [], none), (5, [], none), (7, [0, 1, 2, 3, 4, 5], none), (8, [], some [8]), (6, [5, 7, 8], none), (9, [], none)])]
/-- planchet/planchetlaw17.PtreeTurns -/
def pl12 : List (Nat × Plan) := [(4, [(0, [], none), (1, [0], none), (2, [0, 1], none), (3, [0], none), (4, [], some [33]), (5, [0, 1, 2, 3, 4], none), (6, [0, 1, 2, 3, 4, 5], none), (7, [0, 1, 2, 3, 4], none), (8, [], some [37]), (9, [], none)]), (13, [(0, [], none), (1, [0], none), (2, [], none), (3, [], none), (4, [0, 1, 2, 3], none), (5, [0, 1, 2, 3, 4], none), (6, [0, 1, 2, 3], none), (7, [0, 1, 2, 3], none), (8, [], none)])]
/-- planchet/planchetlaw18.ProofClimbs -/
def pl13 : List (Nat × Plan) := [(8, [(0, [], none), (1, [], none), (2, [], none), (3, [0, 1, 2], none), (4, [0, 1, 2, 3], none), (5, [0, 1, 2, 3], none), (6, [0, 1, 2, 3, 4, 5], none), (7, [0, 1, 2, 3, 4, 5], none), (8, [], none), (9, [0, 1, 2, 3, 4, 5, 6, 7, 8], none), (10, [], some [13])]), (9, [(0, [], none), (1, [0], none), (2, [0, 1], none), (3, [0, 1, 2], none), (4, [], none), (5, [0, 1, 2, 3, 4], none), (6, [0, 1, 2, 3, 4, 5], none), (7, [0, 1, 2, 3, 4], none), (8, [], none), (9, [], none), (10, [], none), (11, [10], none), (12, [10, 11], none), (13, [], none), (14, [10, 11, 12, 13], none), (15, [10, 11, 12, 13, 14], none), (16, [10, 11, 12, 13], none), (17, [], none), (18, [], none), (19, [], none), (20, [], none), (21, [20], none), (22, [20, 21], none), (23, [20, 21, 22], none), (24, [], none), (25, [], none), (26, [], none), (27, [], none), (28, [27], none), (29, [27, 28], none), (30, [], none), (31, [], none), (32, [], none)]), (10, [(0, [], none), (1, [0], none), (2, [0, 1], none), (3, [0, 1, 2], none), (4, [0, 1, 2], none), (5, [0, 1, 2, 3, 4], none), (6, [0, 1, 2, 3, 4], none), (7, [0], none), (8, [], none), (9, [], none), (10, [], none), (11, [], none), (12, [], none), (13, [], none), (14, [], none), (15, [], none), (16, [], none), (17, [], none), (18, [], none), (19, [], none)])]
/-- planchet/planchetlaw18.ProofShows -/
def pl14 : List (Nat × Plan) := [(11, [(0, [], none), (1, [0], none), (2, [], none), (3, [], none), (4, [], none), (5, [0, 1, 2, 3, 4], none), (6, [], none)]), (13, [(0, [], none), (1, [0], none), (2, [0, 1], none), (3, [0, 1, 2], none), (4, [0, 1], none), (5, [0, 1], none), (6, [0, 1], none), (7, [0, 1, 2, 3, 4, 5, 6], none), (8, [], none), (9, [], none)])]
/-- planchet/planchetref11.Small -/
def pl15 : List (Nat × Plan) := [(1, [(0, [], none), (1, [], none), (2, [], none), (3, [], none), (4, [], none), (5, [], none), (6, [4, 5], none), (7, [4, 5], none), (8, [4, 5], none), (9, [], none), (10, [4, 5, 6, 7, 8, 9], none), (11, [], none), (12, [], none), (13, [], none)])]
/-- planchet/hyper.Sign -/
def pl18 : List (Nat × Plan) := [(5, [(0, [], none), (1, [0], none), (2, [0], none), (3, [0, 1, 2], none), (4, [0, 1, 2], none), (5, [0, 1, 2], none), (6, [0], none), (7, [], none), (8, [0, 1, 2, 3, 4, 5, 6, 7], none), (9, [], some [10])]), (10, [(0, [], none), (1, [0], none), (2, [0], none), (3, [0], none), (4, [0], none), (5, [0], none), (6, [0, 1, 2, 3, 4, 5], none), (7, [0, 1, 2, 3, 4, 5], none), (8, [0, 1, 2, 3, 4, 5], none), (9, [0, 1, 2, 3, 4, 5], none), (10, [0, 1, 2, 3, 4, 5], none), (11, [0, 1, 2, 3, 4, 5, 6, 7, 8, 9, 10], none), (12, [0, 1, 2, 3, 4, 5, 6, 7, 8, 9, 10], none), (13, [0, 1, 2, 3, 4, 5, 6, 7, 8, 9, 10], none), (14, [0, 1, 2, 3, 4, 5, 6, 7, 8, 9, 10, 11, 12, 13], none), (15, [0, 1, 2, 3, 4, 5, 6, 7, 8, 9, 10, 11, 12, 13], none), (16, [0, 1, 2, 3, 4, 5, 6, 7, 8, 9, 10, 11, 12, 13], none), (17, [0, 1, 2, 3, 4, 5, 6, 7, 8, 9, 10, 11, 12, 13], none), (18, [0, 1, 2, 3, 4, 5, 6, 7, 8, 9, 10, 11, 12, 13], none), (19, [], none), (20, [], none), (21, [], none), (24, [0, 1, 2, 3, 4, 5, 6, 7, 8, 9, 10, 11, 12, 13, 14, 15, 16, 17, 18, 19, 20, 21], none), (25, [], some [13]), (22, [21, 24, 25], none), (23, [21, 24, 25, 22], none), (26, [23], none), (27, [], none)]), (13, [(0, [], none), (1, [], none), (2, [0, 1], none), (3, [0, 1, 2], none), (4, [0, 1, 2], none), (5, [0, 1, 2, 3, 4], none), (6, [0, 1, 2, 3, 4], none), (7, [0, 1, 2, 3, 4, 5, 6], none), (8, [0, 1, 2, 3, 4, 5, 6], none), (9, [0, 1, 2, 3, 4, 5, 6], none), (10, [0, 1, 2, 3, 4, 5, 6], none), (11, [0, 1, 2, 3, 4, 5, 6], none), (12, [0, 1], none), (13, [0, 1, 2, 3, 4, 5, 6, 7, 8, 9, 10, 11, 12], none), (14, [0, 1], none), (15, [0, 1], none), (16, [], some [85, 99]), (17, [], none), (18, [], some [101])])]
/-- planchet/planchetref11.Same -/
def pl21 : List (Nat × Plan) := [(6, [(0, [], none), (1, [], none), (2, [0, 1], none), (3, [], none), (4, [], none), (5, [], none), (6, [0, 1, 2, 3, 4, 5], none), (7, [0, 1, 2, 3, 4, 5], none), (8, [0, 1, 2, 3, 4, 5, 6, 7], none), (9, [0, 1, 2, 3, 4, 5], none), (10, [0, 1, 2, 3, 4, 5], none), (11, [0, 1, 2, 3, 4, 5], none), (12, [], none), (13, [], none), (14, [], none), (15, [], none), (16, [], none), (17, [15, 16], none), (18, [], none), (19, [], none), (20, [], none), (21, [15, 16, 17, 18, 19, 20], none), (22, [15, 16, 17, 18, 19, 20], none), (23, [15, 16, 17, 18, 19, 20, 21, 22], none), (24, [15, 16, 17, 18, 19, 20], none), (25, [15, 16, 17, 18, 19, 20], none), (26, [15, 16, 17, 18, 19, 20], none), (27, [], none), (28, [], none), (29, [], none)])]
/-- planchet/planchetref11.Sign -/
def pl22 : List (Nat × Plan) := [(1, [(0, [], none), (1, [0], none), (2, [0], none), (3, [0, 1, 2], none), (4, [0, 1, 2], none), (5, [0, 1, 2], none), (6, [0], none), (7, [], none), (8, [0, 1, 2, 3, 4, 5, 6, 7], none), (9, [], some [9])]), (11, [(0, [], none), (1, [0], none), (2, [0], none), (3, [0, 1, 2], none), (4, [0, 1, 2], none), (5, [0, 1, 2, 3, 4], none), (6, [0, 1, 2, 3, 4], none), (7, [0, 1, 2, 3, 4, 5, 6], none), (8, [0, 1, 2, 3, 4, 5, 6], none), (9, [0, 1, 2, 3, 4, 5, 6, 7, 8], none), (10, [0, 1, 2, 3, 4, 5, 6, 7, 8], none), (11, [0, 1, 2, 3, 4], none), (12, [], none), (13, [], none)])]
/-- planchet/hyper.Verify -/
def pl25 : List (Nat × Plan) := [(1, [(0, [], none), (1, [], none), (2, [], none), (3, [], none), (4, [], none), (5, [], none), (6, [4, 5], none), (7, [4, 5], none), (8, [4, 5], none), (9, [], none), (10, [], none), (11, [], none), (12, [], none), (13, [], none), (14, [], none), (15, [12, 13, 14], none), (16, [12, 13, 14], none), (17, [12, 13, 14], none), (18, [], none), (19, [], none)])]
/-- planchet/planchetref11.Verify -/
def pl26 : List (Nat × Plan) := [(12, [(0, [], none), (1, [], none), (2, [0, 1], none), (3, [0, 1, 2], none), (4, [0, 1, 2], none), (5, [0, 1, 2, 3, 4], none), (6, [0, 1, 2, 3, 4], none), (7, [0, 1, 2, 3, 4, 5, 6], none), (8, [0, 1, 2, 3, 4, 5, 6], none), (9, [0, 1, 2, 3, 4, 5, 6, 7, 8], none), (10, [0, 1, 2, 3, 4, 5, 6, 7, 8], none), (11, [0, 1, 2, 3, 4], none), (12, [], none), (13, [], none)]), (13, [(0, [], none), (1, [0], none), (2, [0], none), (3, [0, 1, 2], none), (4, [0, 1, 2], none), (5, [0, 1, 2, 3, 4], none), (6, [0, 1, 2, 3, 4], none), (7, [0, 1, 2, 3, 4, 5, 6], none), (8, [0, 1, 2, 3, 4, 5, 6], none), (9, [0, 1, 2], none), (10, [], none), (11, [0, 1, 2, 3, 4, 5, 6, 7, 8, 9, 10], none), (12, [], some [14])])]
/-- planchet/planchetlaw19.knows -/
def pl28 : List (Nat × Plan) := [(5, [(0, [], none), (1, [], none), (2, [], none), (3, [], none), (4, [3], none), (5, [3], none), (6, [3, 4, 5], none), (7, [3], none), (8, [3], none), (9, [3, 4, 5, 6, 7, 8], none), (10, [3], none), (11, [3], none), (12, [], none), (13, [], none), (14, [], none), (15, [], none), (16, [15], none), (17, [], none), (18, [], none), (19, [], none), (20, [], none), (21, [], none), (22, [], none), (23, [], none), (24, [], none), (25, [], none), (26, [], none), (27, [], none)])]
/-- planchet/log.Way -/
def pl30 : List (Nat × Plan) := [(9, [(0, [], none), (1, [0], none), (2, [0, 1], none), (3, [0], none), (4, [0], none), (5, [0], none), (6, [], some [30]), (7, [0, 1, 2, 3, 4, 5, 6], none), (8, [0, 1, 2, 3, 4, 5, 6, 7], none), (9, [0, 1, 2, 3, 4, 5, 6], none), (10, [7, 8, 9], none), (11, [], none)]), (10, [(0, [], none), (1, [0], none), (2, [0, 1], none), (3, [0], none), (4, [0], none), (5, [0], none), (6, [], some [40]), (7, [0, 1, 2, 3, 4, 5, 6], none), (8, [0, 1, 2, 3, 4, 5, 6, 7], none), (9, [0, 1, 2, 3, 4, 5, 6], none), (10, [0, 1, 2, 3, 4, 5, 6, 7, 8, 9], none), (11, [0, 1, 2, 3, 4, 5, 6, 7, 8, 9, 10], none), (12, [0, 1, 2, 3, 4, 5, 6, 7, 8, 9], none), (13, [7, 8, 9, 10, 11, 12], none), (14, [10, 11, 12], none), (15, [], none)])]
/-- planchet/log.From -/
def pl31 : List (Nat × Plan) := [(10, [(0, [], none), (1, [0], none), (2, [0, 1], none), (3, [0], none), (4, [0], none), (5, [0], none), (6, [], some [32]), (7, [0, 1, 2, 3, 4, 5, 6], none), (8, [0, 1, 2, 3, 4, 5, 6, 7], none), (9, [0, 1, 2, 3, 4, 5, 6], none), (10, [7, 8, 9], none), (11, [], none)]), (11, [(0, [], none), (1, [0], none), (2, [0, 1], none), (3, [0], none), (4, [0], none), (5, [0], none), (6, [], some [42]), (7, [0, 1, 2, 3, 4, 5, 6], none), (8, [0, 1, 2, 3, 4, 5, 6, 7], none), (9, [0, 1, 2, 3, 4, 5, 6], none), (10, [0, 1, 2, 3, 4, 5, 6, 7, 8, 9], none), (11, [0, 1, 2, 3, 4, 5, 6, 7, 8, 9, 10], none), (12, [0, 1, 2, 3, 4, 5, 6, 7, 8, 9], none), (13, [7, 8, 9, 10, 11, 12], none), (14, [10, 11, 12], none), (15, [], none), (16, [], none)])]
/-- planchet/planchetref19.Root -/
def pl32 : List (Nat × Plan) := [(6, [(0, [], none), (1, [0], none), (2, [], none), (3, [], none), (4, [0, 1, 2, 3], none), (5, [0, 1, 2, 3, 4], none), (6, [0, 1, 2, 3], none), (7, [], none), (8, [], none), (9, [], some [2])])]
/-- planchet/planchetref08.Same -/
def pl33 : List (Nat × Plan) := [(6, [(0, [], none), (1, [0], none), (2, [], none), (3, [], none), (4, [0, 1, 2, 3], none), (5, [0, 1, 2, 3, 4], none), (6, [0, 1, 2, 3], none), (7, [0, 1, 2, 3], none), (8, [], none)])]
/-- planchet/planchetref19.Way -/
def pl34 : List (Nat × Plan) := [(5, [(0, [], none), (1, [0], none), (2, [], none), (3, [0, 1, 2], none), (4, [], none), (5, [0, 1, 2, 3, 4], none), (6, [0, 1, 2, 3, 4, 5], none), (7, [0, 1, 2, 3, 4], none), (8, [], none), (9, [], none), (10, [], some [19]), (11, [], none)]), (6, [(0, [], none), (1, [0], none), (2, [], none), (3, [0, 1, 2], none), (4, [0, 1, 2, 3], none), (5, [0, 1, 2], none), (6, [], none), (7, [0, 1, 2, 3, 4, 5, 6], none), (8, [0, 1, 2, 3, 4, 5, 6, 7], none), (9, [0, 1, 2, 3, 4, 5, 6], none), (10, [], none), (11, [], none), (12, [], some [32]), (13, [], none)])]
/-- planchet/planchetref19.From -/
def pl35 : List (Nat × Plan) := [(8, [(0, [], none), (1, [0], none), (2, [], none), (3, [0, 1, 2], none), (4, [0, 1, 2, 3], none), (5, [], none), (6, [0, 1, 2, 3, 4, 5], none), (7, [0, 1, 2, 3, 4, 5, 6], none), (8, [0, 1, 2, 3, 4, 5], none), (9, [], none), (10, [], none), (11, [], some [31]), (12, [], none)]), (9, [(0, [], none), (1, [0], none), (2, [], none), (3, [0, 1, 2], none), (4, [0, 1, 2, 3], none), (5, [0, 1, 2], none), (6, [], none), (7, [0, 1, 2, 3, 4, 5, 6], none), (8, [0, 1, 2, 3, 4, 5, 6, 7], none), (9, [0, 1, 2, 3, 4, 5, 6], none), (10, [], none), (11, [], none), (12, [], some [44]), (13, [], none)])]
/-- planchet/ptree.Empty -/
def pl40 : List (Nat × Plan) := [(6, [(0, [], none), (1, [0], none), (2, [0], none), (3, [0, 1, 2], none), (4, [0, 1, 2, 3], none), (5, [0, 1, 2], none), (6, [0, 1, 2], none), (7, [0, 1, 2, 3, 4, 5, 6], none), (8, [0, 1, 2, 3, 4, 5, 6, 7], none), (9, [0, 1, 2, 3, 4, 5, 6], none), (10, [0, 1, 2, 3, 4, 5, 6], none), (11, [0, 1, 2], none), (12, [], none), (13, [], some [24])])]
/-- planchet/ptree.Leaf -/
def pl42 : List (Nat × Plan) := [(1, [(0, [], none), (1, [0], none), (2, [0], none), (3, [0, 1, 2], none), (4, [0, 1, 2], none), (5, [], none), (6, [], none), (7, [], some [2])])]
/-- planchet/planchetref17.Leaf -/
def pl43 : List (Nat × Plan) := [(1, [(0, [], none), (1, [0], none), (2, [0], none), (3, [], some [3]), (4, [0, 1, 2, 3], none), (5, [0, 1, 2, 3], none), (6, [], some [6]), (7, [], none), (8, [], some [2])])]
/-- planchet/ptree.Node -/
def pl44 : List (Nat × Plan) := [(1, [(0, [], none), (1, [0], none), (2, [0, 1], none), (3, [], none), (4, [], none), (5, [], some [4])])]
/-- planchet/planchetref17.Node -/
def pl45 : List (Nat × Plan) := [(1, [(0, [], none), (1, [0], none), (2, [], some [5]), (3, [0, 1, 2], none), (4, [], some [7]), (5, [], none), (6, [], some [4])])]
/-- planchet/planchetlaw17.knows -/
def pl48 : List (Nat × Plan) := [(5, [(0, [], none), (1, [], none), (2, [], none), (3, [], none), (4, [], none), (5, [4], none), (6, [4], none), (7, [4], none), (8, [], none), (9, [], none), (10, [], none), (11, [], none), (12, [], none), (13, [], none), (14, [], none), (15, [], none), (16, [], none), (17, [], none), (18, [], none), (19, [], none), (20, [], none), (21, [], none), (22, [], none), (23, [], none), (24, [], none), (25, [], none), (26, [], none), (27, [], none), (28, [], none), (29, [], none), (30, [], none), (31, [], none), (32, [], none)])]
/-- planchet/planchetref17.Bad -/
def pl50 : List (Nat × Plan) := [(9, [(0, [], none), (1, [0], none), (2, [], none), (3, [], none), (4, [], none), (5, [0, 1, 2, 3, 4], none), (6, [0, 1, 2, 3, 4, 5], none), (7, [0, 1, 2, 3, 4], none), (8, [0, 1, 2, 3, 4], none), (9, [0, 1, 2, 3, 4], none), (10, [], none)])]
/-- planchet/planchetlaw17.as -/
def pl51 : List (Nat × Plan) := [(5, [(0, [], none), (1, [0], none), (2, [0, 1], none), (3, [0], none), (4, [0], none), (5, [0], none), (6, [0, 1, 2, 3, 4, 5], none), (7, [0, 1, 2, 3, 4, 5, 6], none), (8, [0, 1, 2, 3, 4, 5], none), (9, [0, 1, 2, 3, 4, 5], none), (10, [0, 1, 2, 3, 4, 5], none), (11, [0], none), (12, [0], none), (13, [], some [11]), (14, [], none)])]
/-- planchet/ptree.Prove -/
def pl53 : List (Nat × Plan) := [(10, [(0, [], none), (1, [0], none), (2, [], none), (3, [0, 1, 2], none), (4, [0, 1, 2, 3], none), (5, [0, 1, 2], none), (6, [3, 4, 5], none), (7, [], none)]), (15, [(0, [], none), (1, [], none), (2, [0, 1], none), (3, [], none), (4, [], none), (5, [0, 1, 2, 3, 4], none), (6, [0, 1, 2, 3, 4], none), (7, [0, 1, 2, 3, 4], none), (8, [], none), (9, [0, 1, 2, 3, 4, 5, 6, 7, 8], none), (10, [], none), (11, [], some [61])]), (16, [(0, [], none), (1, [], none), (2, [0, 1], none), (3, [0, 1, 2], none), (4, [0, 1, 2, 3], none), (5, [0, 1], none), (6, [0, 1], none), (7, [], some [63]), (8, [], none), (9, [], some [70])])]
/-- planchet/proof.Present -/
def pl58 : List (Nat × Plan) := [(1, [(0, [], none), (1, [0], none), (2, [], none), (3, [], none), (4, [0, 1, 2, 3], none), (5, [0, 1, 2, 3, 4], none), (6, [0, 1, 2, 3, 4, 5], none), (7, [], none), (8, [], none)])]
/-- planchet/proof.Absent -/
def pl59 : List (Nat × Plan) := [(1, [(0, [], none), (1, [], none), (2, [], none), (3, [0, 1, 2], none), (4, [0, 1, 2, 3], none), (5, [0, 1, 2, 3, 4], none), (6, [], none), (7, [], none)])]
/-- planchet/keyed.Prf -/
def pl64 : List (Nat × Plan) := [(1, [(0, [], none), (1, [0], none), (2, [0, 1], none), (3, [], none), (4, [], none), (5, [], some [4])])]
/-- planchet/tree.Build -/
def pl68 : List (Nat × Plan) := [(3, [(0, [], none), (1, [], none), (2, [0, 1], none), (3, [0, 1, 2], none), (4, [], none), (5, [0, 1, 2, 3, 4], none), (6, [0, 1, 2, 3, 4, 5], none), (7, [0, 1, 2, 3, 4, 5], none), (8, [], none), (9, [], none), (10, [], none)]), (9, [(0, [], none), (1, [], none), (2, [], none), (3, [], none), (4, [], none), (5, [], none), (6, [], none), (11, [], some [10]), (7, [0, 1, 2, 3, 4, 5, 6, 11], none), (8, [0, 1, 2, 3, 4, 5, 6, 11], none), (9, [0, 1, 2, 3, 4, 5, 6, 11], none), (10, [0, 1, 2, 3, 4, 5, 6, 11], none), (12, [], none), (13, [], none)])]
/-- (*planchet/hyper.climber).up -/
def pl71 : List (Nat × Plan) := [(0, [(0, [], none), (1, [0], none), (2, [0], none), (3, [0], none), (4, [0], none), (5, [0], none), (6, [0], none), (7, [0, 1, 2, 3, 4, 5, 6], none), (8, [0, 1, 2, 3, 4, 5, 6], none), (9, [0, 1, 2, 3, 4, 5, 6], none), (10, [0, 1, 2, 3, 4, 5, 6], none), (11, [0, 1, 2, 3, 4, 5, 6], none), (12, [0, 1, 2, 3, 4, 5, 6], none), (13, [], none)])]
/-- planchet/planchetref10.Build -/
def pl75 : List (Nat × Plan) := [(2, [(0, [], none), (1, [0], none), (2, [], none), (3, [], none), (4, [], none), (5, [], none), (6, [0, 1, 2, 3, 4, 5], none), (7, [0, 1, 2, 3, 4, 5, 6], none), (8, [0, 1, 2, 3, 4, 5], none), (9, [], some [10]), (10, [], none)])]
/-- planchet/planchetref08.Sign -/
def pl76 : List (Nat × Plan) := [(1, [(0, [], none), (1, [0], none), (2, [], none), (3, [], none), (4, [0, 1, 2, 3], none), (5, [], none), (6, [0, 1, 2, 3, 4, 5], none), (7, [0, 1, 2, 3, 4, 5, 6], none), (8, [], none), (9, [], none)])]
/-- (*planchet/hyper.climber).over -/
def pl78 : List (Nat × Plan) := [(1, [(0, [], none), (1, [], none), (2, [0, 1], none), (3, [0, 1, 2], none), (4, [0, 1, 2, 3], none), (5, [0, 1, 2, 3], none), (6, [0, 1, 2, 3], none), (7, [0, 1, 2, 3], none), (8, [0, 1, 2, 3], none), (9, [], none), (10, [], none), (11, [], none), (12, [11], none), (13, [12], none), (14, [], none)]), (2, [(0, [], none), (1, [], none), (2, [], none), (3, [], none), (4, [], none), (5, [], none), (6, [3, 4, 5], none), (7, [3, 4, 5], none), (8, [3, 4, 5], none), (9, [3, 4, 5], none), (10, [3, 4, 5], none), (11, [], none), (12, [], none)]), (4, [(0, [], none), (1, [0], none), (2, [0, 1], none), (3, [0, 1], none), (4, [0, 1], none), (5, [0, 1], none), (6, [0, 1], none), (7, [0, 1, 2, 3, 4, 5, 6], none), (8, [0, 1, 2, 3, 4, 5, 6], none), (9, [0, 1, 2, 3, 4, 5, 6], none), (10, [0, 1, 2, 3, 4, 5, 6], none), (11, [0, 1, 2, 3, 4, 5, 6], none), (12, [0, 1, 2, 3, 4, 5, 6, 7, 8, 9, 10, 11], none), (13, [0, 1, 2, 3, 4, 5, 6, 7, 8, 9, 10, 11], none), (14, [0, 1, 2, 3, 4, 5, 6, 7, 8, 9, 10, 11], none), (15, [0, 1, 2, 3, 4, 5, 6, 7, 8, 9, 10, 11], none), (16, [0, 1, 2, 3, 4, 5, 6, 7, 8, 9, 10, 11], none), (17, [0, 1, 2, 3, 4, 5, 6, 7, 8, 9, 10, 11], none), (18, [0, 1], none), (19, [], none), (20, [], none), (21, [], none), (23, [0, 1, 2, 3, 4, 5, 6, 7, 8, 9, 10, 11, 12, 13, 14, 15, 16, 17, 18, 19, 20, 21], none), (24, [], some [12]), (22, [21, 23, 24], none), (25, [], none)]), (7, [(0, [], none), (1, [0], none), (2, [0], none), (3, [0, 1, 2], none), (4, [0, 1, 2], none), (5, [0, 1, 2], none), (6, [0, 1, 2], none), (7, [0, 1, 2], none), (8, [0, 1, 2, 3, 4, 5, 6, 7], none), (9, [0, 1, 2, 3, 4, 5, 6, 7, 8], none), (10, [0, 1, 2, 3, 4, 5, 6, 7, 8], none), (11, [0, 1, 2, 3, 4, 5, 6, 7, 8], none), (12, [0, 1, 2, 3, 4, 5, 6, 7, 8], none), (13, [0, 1, 2, 3, 4, 5, 6, 7, 8], none), (14, [0, 1, 2, 3, 4, 5, 6, 7, 8, 9, 10, 11, 12, 13], none), (15, [0, 1, 2, 3, 4, 5, 6, 7, 8, 9, 10, 11, 12, 13], none), (16, [0, 1, 2, 3, 4, 5, 6, 7, 8, 9, 10, 11, 12, 13], none), (17, [0, 1, 2, 3, 4, 5, 6, 7, 8, 9, 10, 11, 12, 13], none), (18, [0, 1, 2, 3, 4, 5, 6, 7, 8, 9, 10, 11, 12, 13], none), (19, [], none), (20, [], none), (21, [], none), (23, [0, 1, 2, 3, 4, 5, 6, 7, 8, 9, 10, 11, 12, 13, 14, 15, 16, 17, 18, 19, 20, 21], none), (24, [], some [13]), (22, [21, 23, 24], none), (25, [], none)])]
/-- planchet/planchetref11.Formed -/
def pl79 : List (Nat × Plan) := [(1, [(0, [], none), (1, [], none), (2, [], none), (3, [], none), (4, [], none), (5, [], none), (6, [4, 5], none), (7, [4, 5], none), (8, [], none), (9, [], none), (10, [], none), (11, [], none), (12, [], none), (13, [], none), (14, [11, 12, 13], none), (15, [11, 12, 13], none), (16, [], none), (17, [], none)]), (6, [(0, [], none), (1, [], none), (2, [0, 1], none), (3, [], none), (4, [], none), (5, [], none), (6, [], none), (7, [], none), (8, [], none), (9, [], none), (10, [], none), (11, [9, 10], none), (12, [], none), (13, [], none), (14, [], none), (15, [], none), (16, [9, 10, 11, 12, 13, 14, 15], none), (17, [9, 10, 11, 12, 13, 14, 15], none), (18, [], none), (19, [], none)])]
/-- planchet/planchetref08.From -/
def pl80 : List (Nat × Plan) := [(1, [(0, [], none), (1, [0], none), (2, [0], none), (3, [0], none), (4, [0, 1, 2, 3], none), (5, [0, 1, 2, 3, 4], none), (6, [], none), (7, [], none)])]
/-- planchet/planchetref10.Climb -/
def pl82 : List (Nat × Plan) := [(5, [(0, [], none), (1, [0], none), (2, [0, 1], none), (3, [0], none), (4, [0], none), (5, [0, 1, 2, 3, 4], none), (6, [0, 1, 2, 3, 4, 5], none), (7, [0, 1, 2, 3, 4, 5, 6], none), (8, [0, 1, 2, 3, 4, 5, 6, 7], none), (9, [0, 1, 2, 3, 4, 5, 6, 7, 8], none), (10, [0, 1, 2, 3, 4, 5, 6, 7, 8], none), (11, [], none), (12, [], some [6])]), (6, [(0, [], none), (1, [0], none), (2, [], none), (3, [], none), (4, [0, 1, 2, 3], none), (5, [0, 1, 2, 3, 4], none), (6, [0, 1, 2, 3, 4, 5], none), (7, [0, 1, 2, 3, 4, 5, 6], none), (8, [0, 1, 2, 3, 4, 5, 6, 7], none), (9, [0, 1, 2, 3, 4, 5, 6, 7, 8], none), (10, [0, 1, 2, 3, 4, 5, 6, 7, 8], none), (11, [], none), (12, [], some [6])])]
/-- planchet/log.root -/
def pl84 : List (Nat × Plan) := [(6, [(0, [], none), (1, [], none), (2, [], none), (3, [], none), (4, [], none), (5, [4], none), (6, [4], none), (7, [4], none), (8, [], none), (9, [], none), (10, [], none), (11, [4, 5, 6, 7, 8, 9, 10], none), (12, [4, 5, 6, 7, 8, 9, 10], none), (13, [], none), (14, [], none)]), (8, [(0, [], none), (1, [0], none), (2, [0], none), (3, [0], none), (4, [], none), (5, [0, 1, 2, 3, 4], none), (6, [0, 1, 2, 3, 4], none), (7, [0, 1, 2, 3, 4, 5, 6], none), (8, [0, 1, 2, 3, 4, 5, 6], none), (9, [0, 1, 2, 3, 4], none), (10, [0, 1, 2, 3, 4, 5, 6, 7, 8, 9], none), (11, [0, 1, 2, 3, 4, 5, 6, 7, 8, 9], none), (12, [0, 1, 2, 3, 4, 5, 6, 7, 8, 9], none), (13, [0, 1, 2, 3, 4], none), (14, [10, 11, 12, 13], none), (15, [], some [6])]), (17, [(0, [], none), (1, [0], none), (2, [], none), (3, [], none), (4, [], none), (5, [0, 1, 2, 3, 4], none), (6, [], none), (7, [], some [8])])]
/-- planchet/planchetref19.Up -/
def pl90 : List (Nat × Plan) := [(8, [(0, [], none), (1, [0], none), (2, [0, 1], none), (3, [0, 1, 2], none), (4, [0, 1, 2, 3], none), (5, [0, 1, 2, 3], none), (6, [0, 1, 2, 3], none), (7, [0, 1, 2], none), (8, [], none), (9, [], none), (10, [], none), (12, [0, 1, 2, 3, 4, 5, 6, 7, 8, 9, 10], none), (13, [], some [12]), (11, [10, 12, 13], none), (14, [], none)]), (10, [(0, [], none), (1, [0], none), (2, [0, 1], none), (3, [0], none), (4, [0, 1, 2, 3], none), (5, [0, 1, 2, 3, 4], none), (6, [0, 1, 2, 3], none), (7, [0, 1, 2, 3, 4, 5, 6], none), (8, [0, 1, 2, 3, 4, 5, 6, 7], none), (9, [0, 1, 2, 3, 4, 5, 6, 7], none), (10, [0, 1, 2, 3, 4, 5, 6, 7], none), (11, [0, 1, 2, 3, 4, 5, 6], none), (12, [], none), (13, [], none), (14, [], none), (16, [0, 1, 2, 3, 4, 5, 6, 7, 8, 9, 10, 11, 12, 13, 14], none), (17, [], some [14]), (15, [14, 16, 17], none), (18, [], none)])]
/-- planchet/log.Grows$2 -/
def pl92 : List (Nat × Plan) := [(3, [(0, [], none), (2, [], some [9]), (1, [0, 2], none), (3, [], some [10]), (4, [], none)]), (5, [(0, [], none), (3, [], some [9]), (1, [0, 3], none), (4, [], some [10]), (2, [0, 3, 1, 4], none), (5, [], none)]), (10, [(0, [], none), (1, [0], none), (2, [0, 1], none), (3, [0], none), (4, [0, 1, 2, 3], none), (5, [0], none), (8, [], some [9]), (9, [], some [10]), (6, [0, 8, 9], none), (7, [0, 8, 9], none), (10, [], none)]), (13, [(0, [], none), (1, [0], none), (2, [], none), (3, [0, 1, 2], none), (4, [0, 1, 2, 3], none), (5, [], none), (6, [0, 1, 2, 3, 4, 5], none), (7, [], none), (10, [], some [9]), (11, [], some [10]), (8, [10, 11], none), (9, [10, 11], none), (12, [], none)])]
/-- planchet/planchetref19.Both -/
def pl93 : List (Nat × Plan) := [(3, [(0, [], none), (5, [], some [10]), (1, [0, 5], none), (6, [], some [11]), (2, [0, 5, 1, 6], none), (3, [0, 5, 1, 6], none), (4, [0, 5, 1, 6], none), (7, [], none)]), (5, [(0, [], none), (2, [], some [10]), (1, [0, 2], none), (3, [], some [11]), (4, [], none)]), (6, [(0, [], none), (1, [], none), (2, [], none), (6, [], some [10]), (3, [0, 1, 2, 6], none), (4, [0, 1, 2, 6], none), (5, [0, 1, 2, 6], none), (7, [], some [11]), (8, [], none)]), (8, [(0, [], none), (2, [], some [10]), (1, [0, 2], none), (3, [], some [11]), (4, [], none)]), (12, [(0, [], none), (1, [0], none), (2, [0, 1], none), (3, [0, 1, 2], none), (4, [0, 1, 2, 3], none), (5, [0, 1, 2, 3, 4], none), (6, [0, 1, 2, 3, 4], none), (7, [0, 1, 2, 3, 4], none), (8, [0, 1, 2, 3], none), (9, [], none), (10, [], none), (11, [], none), (14, [0, 1, 2, 3, 4, 5, 6, 7, 8, 9, 10, 11], none), (15, [0, 1, 2, 3, 4, 5, 6, 7, 8, 9, 10, 11, 14], none), (16, [], some [15]), (12, [11, 14, 15, 16], none), (17, [], some [16]), (13, [11, 14, 15, 16, 12, 17], none), (18, [], none)]), (13, [(0, [], none), (1, [0], none), (2, [0, 1], none), (3, [0], none), (5, [], some [10]), (6, [], some [11]), (4, [0, 1, 2, 3, 5, 6], none), (7, [], none)]), (14, [(0, [], none), (1, [0], none), (2, [0, 1], none), (3, [0], none), (4, [0, 1, 2, 3], none), (5, [0, 1, 2, 3, 4], none), (6, [0, 1, 2, 3], none), (7, [0, 1, 2, 3, 4, 5, 6], none), (8, [0, 1, 2, 3, 4, 5, 6, 7], none), (9, [0, 1, 2, 3, 4, 5, 6, 7], none), (10, [0, 1, 2, 3, 4, 5, 6, 7], none), (11, [0, 1, 2, 3, 4, 5, 6], none), (12, [], none), (13, [], none), (14, [], none), (17, [0, 1, 2, 3, 4, 5, 6, 7, 8, 9, 10, 11, 12, 13, 14], none), (18, [0, 1, 2, 3, 4, 5, 6, 7, 8, 9, 10, 11, 12, 13, 14, 17], none), (19, [], some [18]), (15, [14, 17, 18, 19], none), (20, [], some [19]), (16, [14, 17, 18, 19, 15, 20], none), (21, [], none)]), (15, [(0, [], none), (1, [0], none), (2, [], none), (3, [0, 1, 2], none), (4, [0, 1, 2, 3], none), (5, [], none), (7, [], some [10]), (8, [], some [11]), (6, [0, 1, 2, 3, 4, 5, 7, 8], none), (9, [], none)])]
/-- planchet/planchetref01.Sum -/
def pl95 : List (Nat × Plan) := [(12, [(0, [], none), (1, [0], none), (2, [0, 1], none), (3, [0, 1, 2], none), (4, [0, 1], none), (5, [0, 1], none), (6, [0, 1], none), (7, [0, 1], none), (8, [0, 1, 2, 3, 4, 5, 6, 7], none), (9, [0, 1, 2, 3, 4, 5, 6, 7, 8], none), (10, [0, 1, 2, 3, 4, 5, 6, 7, 8], none), (11, [0, 1, 2, 3, 4, 5, 6, 7], none), (12, [0, 1, 2, 3, 4, 5, 6, 7], none), (13, [0, 1, 2, 3, 4, 5, 6, 7], none), (14, [0, 1, 2, 3, 4, 5, 6, 7], none), (15, [0, 1], none), (16, [0, 1, 2, 3, 4, 5, 6, 7, 8, 9, 10, 11, 12, 13, 14, 15], none), (17, [0, 1, 2, 3, 4, 5, 6, 7, 8, 9, 10, 11, 12, 13, 14, 15, 16], none), (18, [0, 1, 2, 3, 4, 5, 6, 7, 8, 9, 10, 11, 12, 13, 14, 15, 16], none), (19, [0, 1, 2, 3, 4, 5, 6, 7, 8, 9, 10, 11, 12, 13, 14, 15], none), (20, [0, 1, 2, 3, 4, 5, 6, 7, 8, 9, 10, 11, 12, 13, 14, 15], none), (21, [0, 1, 2, 3, 4, 5, 6, 7, 8, 9, 10, 11, 12, 13, 14, 15], none), (22, [0, 1, 2, 3, 4, 5, 6, 7, 8, 9, 10, 11, 12, 13, 14, 15], none), (23, [0, 1], none), (24, [0, 1, 2, 3, 4, 5, 6, 7, 8, 9, 10, 11, 12, 13, 14, 15, 16, 17, 18, 19, 20, 21, 22, 23], none), (25, [0, 1, 2, 3, 4, 5, 6, 7, 8, 9, 10, 11, 12, 13, 14, 15, 16, 17, 18, 19, 20, 21, 22, 23, 24], none), (26, [0, 1, 2, 3, 4, 5, 6, 7, 8, 9, 10, 11, 12, 13, 14, 15, 16, 17, 18, 19, 20, 21, 22, 23, 24], none), (27, [0, 1, 2, 3, 4, 5, 6, 7, 8, 9, 10, 11, 12, 13, 14, 15, 16, 17, 18, 19, 20, 21, 22, 23], none), (28, [0, 1, 2, 3, 4, 5, 6, 7, 8, 9, 10, 11, 12, 13, 14, 15, 16, 17, 18, 19, 20, 21, 22, 23], none), (29, [0, 1, 2, 3, 4, 5, 6, 7, 8, 9, 10, 11, 12, 13, 14, 15, 16, 17, 18, 19, 20, 21, 22, 23], none), (30, [0, 1], none), (31, [], none), (32, [], some [74])]), (18, [(0, [], none), (1, [0], none), (2, [0, 1], none), (3, [0, 1], none), (4, [0, 1, 2, 3], none), (5, [0, 1], none), (6, [0, 1], none), (7, [0, 1, 2, 3, 4, 5, 6], none), (8, [0, 1, 2, 3, 4, 5, 6], none), (9, [0, 1], none), (10, [0, 1, 2, 3, 4, 5, 6, 7, 8, 9], none), (11, [0, 1, 2, 3, 4, 5, 6, 7, 8, 9, 10], none), (12, [0, 1, 2, 3, 4, 5, 6, 7, 8, 9, 10], none), (13, [0, 1, 2, 3, 4, 5, 6, 7, 8, 9], none), (14, [0, 1, 2, 3, 4, 5, 6, 7, 8, 9], none), (15, [0, 1], none), (16, [0, 1, 2, 3, 4, 5, 6, 7, 8, 9, 10, 11, 12, 13, 14, 15], none), (17, [0, 1, 6, 7, 8, 9, 10, 11, 12, 13, 14, 15], none), (18, [0, 1, 2, 3, 4, 5, 6, 7, 8, 9, 10, 11, 12, 13, 14, 15, 16, 17], none), (19, [0, 1, 6, 7, 8, 9, 10, 11, 12, 13, 14, 15], none), (20, [0, 1, 6, 7, 8, 9, 10, 11, 12, 13, 14, 15], none), (21, [0, 1, 2, 3, 4, 5, 6, 7, 8, 9, 10, 11, 12, 13, 14, 15, 16, 17, 18, 19, 20], none), (22, [0, 1, 2, 3, 4, 5, 6, 7, 8, 9, 10, 11, 12, 13, 14, 15, 16, 17, 18, 19, 20], none), (23, [0, 1, 6, 7, 8, 9, 10, 11, 12, 13, 14, 15], none), (24, [0, 1], none), (25, [0, 1, 2, 3, 4, 5, 6, 7, 8, 9, 10, 11, 12, 13, 14, 15, 16, 17, 18, 19, 20, 21, 22, 23, 24], none), (26, [0, 1, 2, 3, 4, 5, 6, 7, 8, 9, 10, 11, 12, 13, 14, 15, 16, 17, 18, 19, 20, 21, 22, 23, 24, 25], none), (27, [0, 1, 2, 3, 4, 5, 6, 7, 8, 9, 10, 11, 12, 13, 14, 15, 16, 17, 18, 19, 20, 21, 22, 23, 24, 25], none), (28, [0, 1, 2, 3, 4, 5, 6, 7, 8, 9, 10, 11, 12, 13, 14, 15, 16, 17, 18, 19, 20, 21, 22, 23, 24], none), (29, [0, 1, 2, 3, 4, 5, 6, 7, 8, 9, 10, 11, 12, 13, 14, 15, 16, 17, 18, 19, 20, 21, 22, 23, 24], none), (30, [0, 1], none), (31, [], none), (32, [], some [120])]), (25, [(0, [], none), (1, [0], none), (2, [0], none), (3, [0], none), (4, [], none), (5, [0, 1, 2, 3, 4], none), (6, [0, 1, 2, 3, 4], none), (7, [0, 1, 2, 3, 4, 5, 6], none), (8, [0, 1, 2, 3, 4, 5, 6], none), (9, [0, 1, 2, 3, 4, 5, 6], none), (10, [0, 1, 2, 3, 4], none), (11, [], none), (12, [], none)]), (26, [(0, [], none), (1, [0], none), (2, [0], none), (3, [0], none), (4, [], none), (5, [0, 1, 2, 3, 4], none), (6, [0, 1, 2, 3, 4, 5], none), (7, [0, 1, 2, 3, 4, 5], none), (8, [0, 1, 2, 3, 4, 5], none), (9, [0, 1, 2, 3, 4], none), (10, [], none), (11, [0, 1, 2, 3, 4, 5, 6, 7, 8, 9, 10], none), (12, [0, 1, 2, 3, 4, 5, 6, 7, 8, 9, 10], none), (13, [0, 1, 2, 3, 4, 5, 6, 7, 8, 9, 10], none), (14, [0, 1, 2, 3, 4, 5, 6, 7, 8, 9, 10, 11, 12, 13], none), (15, [0, 1, 2, 3, 4, 5, 6, 7, 8, 9, 10, 11, 12, 13], none), (16, [0, 1, 2, 3, 4, 5, 6, 7, 8, 9, 10, 11, 12, 13], none), (17, [0, 1, 2, 3, 4, 5, 6, 7, 8, 9, 10], none), (18, [], none), (19, [], none)]), (27, [(0, [], none), (1, [], none), (2, [], none), (3, [0, 1, 2], none), (4, [0, 1, 2], none), (5, [0, 1, 2, 3, 4], none), (6, [0, 1, 2], none), (7, [0, 1, 2], none), (8, [0, 1, 2, 3, 4, 5, 6, 7], none), (9, [0, 1, 2, 7], none), (10, [0, 1, 2], none), (11, [], none), (12, [0, 1, 2, 3, 4, 5, 6, 7, 8, 9, 10, 11], none), (13, [], none), (14, [0, 1, 2, 3, 4, 5, 6, 7, 8, 9, 10, 11, 12, 13], none), (15, [0, 1, 2, 3, 4, 5, 6, 7, 8, 9, 10, 11, 12, 13, 14], none), (16, [0, 1, 2, 3, 4, 5, 6, 7, 8, 9, 10, 11, 12, 13], none), (17, [0, 1, 2, 3, 4, 5, 6, 7, 8, 9, 10, 11, 12, 13], none), (18, [], none), (19, [0, 1, 2, 3, 4, 5, 6, 7, 8, 9, 10, 11, 12, 13, 14, 15, 16, 17, 18], none), (20, [0, 1, 2, 3, 4, 5, 6, 7, 8, 9, 10, 11, 12, 13, 14, 15, 16, 17, 18, 19], none), (21, [0, 1, 2, 3, 4, 5, 6, 7, 8, 9, 10, 11, 12, 13, 14, 15, 16, 17, 18], none), (22, [0, 1, 2, 3, 4, 5, 6, 7, 8, 9, 10, 11, 12, 13, 14, 15, 16, 17, 18], none), (23, [], none), (24, [], none)]), (29, [(0, [], none), (1, [0], none), (2, [], none), (3, [0, 1, 2], none), (4, [0, 1, 2, 3], none), (5, [0, 1, 2, 3], none), (6, [0, 1, 2, 3], none), (7, [0, 1, 2, 3, 4, 5, 6], none), (8, [0, 1, 2, 3, 4, 5, 6], none), (9, [0, 1, 2, 3, 4, 5, 6], none), (10, [0, 1, 2, 3, 4, 5, 6, 7, 8, 9], none), (11, [0, 1, 2, 3, 4, 5, 6, 7, 8, 9], none), (12, [0, 1, 2, 3, 4, 5, 6, 7, 8, 9], none), (13, [0, 1, 2, 3, 4, 5, 6, 7, 8, 9, 10, 11, 12], none), (14, [0, 1, 2, 3, 4, 5, 6, 7, 8, 9], none), (15, [0, 1, 2, 3, 4, 5, 6, 7, 8, 9, 10, 11, 12, 13, 14], none), (16, [0, 1, 2, 3, 4, 5, 6, 7, 8, 9, 10, 11, 12, 13, 14, 15], none), (17, [0, 1, 2, 3, 4, 5, 6, 7, 8, 9, 10, 11, 12, 13, 14, 15], none), (18, [0, 1, 2, 3, 4, 5, 6, 7, 8, 9, 10, 11, 12, 13, 14, 15], none), (19, [0, 1, 2, 3, 4, 5, 6, 7, 8, 9, 10, 11, 12, 13, 14, 15, 16, 17, 18], none), (20, [0, 1, 2, 3, 4, 5, 6, 7, 8, 9, 10, 11, 12, 13, 14, 15, 16, 17, 18], none), (21, [0, 1, 2, 3, 4, 5, 6, 7, 8, 9, 10, 11, 12, 13, 14, 15, 16, 17, 18], none), (22, [], none), (23, [], none)]), (33, [(0, [], none), (1, [0], none), (2, [0, 1], none), (3, [0, 1, 2], none), (4, [0, 1], none), (5, [0, 1], none), (6, [0, 1, 2, 3, 4, 5], none), (7, [0, 1, 2, 3, 4, 5, 6], none), (8, [0, 1, 2, 3, 4, 5], none), (9, [0, 1, 2, 3, 4, 5], none), (10, [0, 1], none), (11, [], none), (12, [], some [237])])]
/-- (planchet/ptree.builder).node -/
def pl98 : List (Nat × Plan) := [(6, [(0, [], none), (1, [0], none), (2, [0, 1], none), (3, [0], none), (4, [0, 1, 2, 3], none), (5, [0, 1, 2, 3], none), (6, [], none), (7, [0, 1, 2, 3, 4, 5, 6], none), (8, [0, 1, 2, 3, 4, 5, 6, 7], none), (9, [0, 1, 2, 3, 4, 5, 6, 7, 8], none), (10, [0, 1, 2, 3, 4, 5, 6, 7], none), (11, [0, 1, 2, 3, 4, 5, 6, 7, 8, 9, 10], none), (12, [0, 1, 2, 3, 4, 5, 6, 7, 8, 9, 10], none), (13, [], none), (14, [], none), (15, [], some [6])])]
/-- planchet/planchetref17.row -/
def pl99 : List (Nat × Plan) := [(5, [(0, [], none), (1, [0], none), (2, [0, 1], none), (3, [0], none), (4, [0], none), (5, [0], none), (6, [0, 1, 2, 3, 4, 5], none), (7, [0, 1, 2, 3, 4, 5, 6], none), (8, [0, 1, 2, 3, 4, 5], none), (9, [0, 1, 2, 3, 4, 5], none), (10, [0, 1, 2, 3, 4, 5], none), (11, [0], none), (12, [0], none), (13, [], some [11]), (14, [], none)])]
/-- planchet/planchetref17.up -/
def pl100 : List (Nat × Plan) := [(12, [(0, [], none), (1, [0], none), (2, [0, 1], none), (3, [0, 1, 2], none), (4, [0, 1], none), (5, [0, 1], none), (6, [0, 1], none), (7, [0, 1, 2, 3, 4, 5, 6], none), (8, [0, 1], none), (9, [0], none), (10, [0], none), (11, [], some [53]), (12, [], none)]), (13, [(0, [], none), (1, [0], none), (2, [0, 1], none), (3, [0, 1, 2], none), (4, [0, 1, 2, 3], none), (5, [0, 1, 2], none), (6, [0, 1, 2], none), (7, [0, 1, 2], none), (8, [0, 1], none), (9, [0], none), (10, [0], none), (11, [], some [65]), (12, [], none)])]
/-- slices.Reverse[[]planchet/api.Digest,planchet/api.Digest] -/
def pl102 : List (Nat × Plan) := [(3, [(0, [], none), (1, [0], none), (4, [0, 1], none), (5, [0, 1, 4], none), (6, [0, 1], none), (7, [0, 1], none), (8, [0, 1, 4, 5, 6, 7], none), (9, [0, 1, 4, 5, 6, 7, 8], none), (10, [0, 1, 4, 5, 6, 7], none), (11, [0, 1, 4, 5, 6, 7], none), (12, [], none), (13, [], some [26]), (2, [0, 1, 4, 5, 6, 7, 8, 9, 10, 11, 12, 13], none), (3, [0, 1, 4, 5, 6, 7, 8, 9, 10, 11, 12, 13, 2], none), (14, [], none), (15, [], some [27])])]
/-- planchet/planchetref17.find -/
def pl103 : List (Nat × Plan) := [(4, [(0, [], none), (1, [0], none), (2, [], none), (3, [], none), (4, [], none), (5, [0, 1, 2, 3, 4], none), (6, [], none)])]
/-- planchet/keyed.Message -/
def pl110 : List (Nat × Plan) := [(1, [(0, [], none), (1, [0], none), (2, [0, 1], none), (3, [0, 1, 2], none), (4, [1, 2], none), (5, [], none), (6, [0, 1, 2, 3, 4, 5], none), (7, [], some [14, 15]), (8, [], none), (9, [], some [8])])]
/-- (*planchet/hyper.climber).to -/
def pl111 : List (Nat × Plan) := [(0, [(0, [], none), (1, [0], none), (2, [0, 1], none), (3, [0, 1, 2], none), (4, [0, 1, 2], none), (5, [0, 1, 2], none), (6, [0, 1, 2], none), (7, [0, 1, 2], none), (8, [0, 1], none), (9, [0, 1], none), (10, [0, 1, 2, 3, 4, 5, 6, 7, 8, 9], none), (11, [0, 1, 2, 3, 4, 5, 6, 7, 8, 9, 10], none), (12, [0, 1, 2, 3, 4, 5, 6, 7, 8, 9, 10], none), (13, [0, 1, 2, 3, 4, 5, 6, 7, 8, 9, 10], none), (14, [0, 1, 2, 3, 4, 5, 6, 7, 8, 9, 10], none), (15, [0, 1, 2, 3, 4, 5, 6, 7, 8, 9, 10], none), (16, [0, 1, 2, 3, 4, 5, 6, 7, 8, 9, 10], none), (17, [0, 1, 2, 3, 4, 5, 6, 7, 8, 9, 10], none), (18, [0, 1, 2, 3, 4, 5, 6, 7, 8, 9], none), (19, [0], none), (20, [], none), (21, [], none), (22, [], some [27])])]
/-- (*planchet/tree.builder).add -/
def pl112 : List (Nat × Plan) := [(2, [(0, [], none), (1, [], none), (2, [], none), (3, [], none), (4, [], none), (5, [], none), (6, [], none), (7, [], none), (8, [], none), (9, [], none), (10, [], none), (11, [7, 8, 9, 10], none), (12, [7, 8, 9, 10], none), (13, [7, 8, 9, 10], none), (14, [7, 8, 9, 10], none), (15, [7, 8, 9, 10], none), (16, [7, 8, 9, 10], none), (17, [], none), (18, [], none), (19, [], none), (20, [7, 8, 9, 10, 11, 12, 13, 14, 15, 16, 17, 18, 19], none), (21, [7, 8, 9, 10, 11, 12, 13, 14, 15, 16, 17, 18, 19], none), (22, [], none), (23, [], none)]), (3, [(0, [], none), (1, [], none), (2, [], none), (3, [], none), (4, [0, 1, 2, 3], none), (5, [0, 1, 2, 3], none), (6, [0, 1, 2, 3], none), (7, [0, 1, 2, 3], none), (8, [0, 1, 2, 3], none), (9, [0, 1, 2, 3], none), (10, [], none), (11, [], none), (12, [0, 1, 2, 3, 4, 5, 6, 7, 8, 9, 10, 11], none), (13, [], some [4])]), (4, [(0, [], none), (1, [0], none), (2, [0], none), (3, [0], none), (4, [0], none), (5, [0, 1, 2, 3, 4], none), (6, [0, 1, 2, 3, 4], none), (7, [0, 1, 2, 3, 4], none), (8, [0, 1, 2, 3, 4], none), (9, [0, 1, 2, 3, 4], none), (10, [0, 1, 2, 3, 4], none), (11, [0], none), (12, [], none), (13, [], none), (14, [], some [57])]), (5, [(0, [], none), (1, [], none), (2, [], none), (3, [], none), (4, [0, 1, 2, 3], none), (5, [0, 1, 2, 3], none), (6, [0, 1, 2, 3, 4, 5], none), (7, [0, 1, 2, 3, 4, 5], none), (8, [0, 1, 2, 3, 4, 5, 6, 7], none), (9, [0, 1, 2, 3, 4, 5, 6, 7], none), (10, [0, 1, 2, 3, 4, 5, 6, 7, 8, 9], none), (11, [0, 1, 2, 3, 4, 5, 6, 7, 8, 9], none), (12, [0, 1, 2, 3, 4, 5, 6, 7, 8, 9], none), (13, [], none), (14, [0, 1, 2, 3, 4, 5, 6, 7, 8, 9, 10, 11, 12, 13], none), (15, [0, 1, 2, 3, 4, 5, 6, 7, 8, 9, 10, 11, 12, 13], none), (16, [0, 1, 2, 3, 4, 5, 6, 7, 8, 9, 10, 11, 12, 13], none), (17, [0, 1, 2, 3, 4, 5, 6, 7, 8, 9, 10, 11, 12, 13, 14, 15, 16], none), (18, [0, 1, 2, 3, 4, 5, 6, 7, 8, 9, 10, 11, 12, 13, 14, 15, 16], none), (19, [0, 1, 2, 3, 4, 5, 6, 7, 8, 9, 10, 11, 12, 13, 14, 15, 16], none), (20, [], none), (21, [], some [3])]), (7, [(1, [], none), (2, [], none), (3, [], none), (4, [], none), (5, [1, 2, 3, 4], none), (6, [1, 2, 3, 4], none), (7, [], some [86]), (0, [1, 2, 3, 4, 5, 6, 7], none), (8, [], none), (9, [], none), (10, [], some [91])])]
/-- planchet/tree.Leaf -/
def pl113 : List (Nat × Plan) := [(1, [(0, [], none), (1, [], none), (2, [0, 1], none), (3, [0, 1], none), (4, [0, 1, 2, 3], none), (5, [0, 1, 2, 3, 4], none), (6, [0, 1, 2, 3, 4, 5], none), (7, [0, 1, 2, 3, 4, 5], none), (8, [0, 1, 2, 3], none), (9, [], none), (10, [], none)]), (2, [(0, [], none), (1, [0], none), (2, [0], none), (3, [0, 1, 2], none), (4, [0, 1, 2, 3], none), (5, [0, 1, 2, 3, 4], none), (6, [0, 1, 2, 3, 4], none), (7, [0, 1, 2], none), (8, [], none), (9, [], none), (10, [], none), (12, [0, 1, 2, 3, 4, 5, 6, 7, 8, 9, 10], none), (13, [], some [10]), (11, [10, 12, 13], none), (14, [], none)])]
/-- planchet/wots.Sign$1 -/
def pl116 : List (Nat × Plan) := [(1, [(0, [], none), (1, [0], none), (2, [], none), (3, [0, 1, 2], none), (4, [0, 1, 2], none), (5, [0, 1, 2], none), (6, [0, 1, 2, 3, 4, 5], none), (7, [0, 1, 2, 3, 4, 5, 6], none), (8, [], none), (9, [], some [7])])]
/-- planchet/keyed.At -/
def pl118 : List (Nat × Plan) := [(1, [(0, [], none), (1, [0], none), (2, [0], none), (3, [], none), (4, [], some [4])])]
/-- planchet/planchetref05.of -/
def pl120 : List (Nat × Plan) := [(1, [(0, [], none), (1, [], none), (2, [0, 1], none), (3, [], some [9]), (4, [], none)])]
/-- planchet/planchetref05.Message -/
def pl121 : List (Nat × Plan) := [(2, [(1, [], none), (2, [1], none), (3, [], some [17]), (0, [1, 2, 3], none), (4, [], none), (5, [], some [8])])]
/-- planchet/planchetref10.Rows -/
def pl122 : List (Nat × Plan) := [(20, [(0, [], none), (1, [0], none), (2, [0, 1], none), (3, [0, 1], none), (4, [0], none), (5, [0], none), (6, [0, 1, 2, 3, 4, 5], none), (7, [0, 1, 2, 3, 4, 5, 6], none), (8, [0, 1, 2, 3, 4, 5, 6], none), (9, [0, 1, 2, 3, 4, 5, 6], none), (10, [0, 1, 2, 3, 4, 5], none), (11, [0, 1, 2, 3, 4, 5], none), (12, [0, 1, 2, 3, 4, 5, 6, 7, 8, 9, 10, 11], none), (13, [0, 1, 2, 3, 4, 5, 6, 7, 8, 9, 10, 11], none), (14, [0, 1, 2, 3, 4, 5, 6, 7, 8, 9, 10, 11, 12, 13], none), (15, [0, 1, 2, 3, 4, 5, 6, 7, 8, 9, 10, 11, 12, 13, 14], none), (16, [0, 1, 2, 3, 4, 5, 6, 7, 8, 9, 10, 11, 12, 13, 14, 15], none), (17, [0, 1, 2, 3, 4, 5, 6, 7, 8, 9, 10, 11, 12, 13, 14, 15, 16], none), (18, [0], none), (19, [0], none), (20, [], some [55]), (21, [], none)])]
/-- planchet/planchetref08.runs -/
def pl124 : List (Nat × Plan) := [(5, [(0, [], none), (1, [0], none), (2, [0, 1], none), (3, [0], none), (4, [0], none), (5, [0, 1, 2, 3, 4], none), (6, [0, 1, 2, 3, 4, 5], none), (7, [0, 1, 2, 3, 4], none), (8, [0, 1, 2, 3, 4], none), (9, [0, 1, 2, 3, 4, 5, 6, 7, 8], none), (10, [0, 1, 2, 3, 4, 5, 6, 7, 8, 9], none), (11, [0, 1, 2, 3, 4, 5, 6, 7, 8], none), (12, [0, 1, 2, 3, 4, 5, 6, 7, 8], none), (13, [0, 1, 2, 3, 4, 5, 6, 7, 8, 9, 10, 11, 12], none), (14, [0, 1, 2, 3, 4, 5, 6, 7, 8, 9, 10, 11, 12, 13], none), (15, [0, 1, 2, 3, 4, 5, 6, 7, 8, 9, 10, 11, 12], none), (16, [0, 1, 2, 3, 4, 5, 6, 7, 8, 9, 10, 11, 12], none), (17, [0, 1, 2, 3, 4, 5, 6, 7, 8], none), (18, [0, 1, 2, 3, 4, 5, 6, 7, 8, 9, 10, 11, 12, 13, 14, 15, 16, 17], none), (19, [0, 1, 2, 3, 4, 5, 6, 7, 8, 9, 10, 11, 12, 13, 14, 15, 16, 17, 18], none), (20, [0, 1, 2, 3, 4, 5, 6, 7, 8, 9, 10, 11, 12, 13, 14, 15, 16, 17, 18, 19], none), (21, [0, 1, 2, 3, 4, 5, 6, 7, 8, 9, 10, 11, 12, 13, 14, 15, 16, 17, 18, 19], none), (22, [0, 1, 2, 3, 4, 5, 6, 7, 8, 9, 10, 11, 12, 13, 14, 15, 16, 17, 18], none), (23, [0], none), (24, [0], none), (25, [], some [17]), (26, [], none)])]
/-- planchet/planchetref08.Secret -/
def pl125 : List (Nat × Plan) := [(5, [(0, [], none), (1, [0], none), (2, [0, 1], none), (3, [0, 1, 2], none), (4, [0, 1, 2], none), (5, [0, 1], none), (6, [0], none), (7, [0], none), (8, [], some [11]), (9, [], none)])]
/-- planchet/ltree.Compress -/
def pl129 : List (Nat × Plan) := [(12, [(0, [], none), (1, [0], none), (2, [0, 1], none), (3, [0, 1, 2], none), (4, [0, 1, 2], none), (5, [0, 1], none), (6, [0, 1], none), (7, [0, 1, 2, 3, 4, 5, 6], none), (8, [0, 1, 2, 3, 4, 5, 6, 7], none), (9, [0, 1, 2, 3, 4, 5, 6, 7], none), (10, [0, 1, 2, 3, 4, 5, 6, 7], none), (11, [0, 1, 2, 3, 4, 5, 6], none), (12, [0, 1, 2, 3, 4, 5, 6], none), (13, [0, 1, 2, 3, 4, 5, 6, 7, 8, 9, 10, 11, 12], none), (14, [0, 1, 2, 3, 4, 5, 6, 7, 8, 9, 10, 11, 12, 13], none), (15, [0, 1, 2, 3, 4, 5, 6, 7, 8, 9, 10, 11, 12, 13, 14], none), (16, [0, 1, 2, 3, 4, 5, 6, 7, 8, 9, 10, 11, 12, 13, 14, 15], none), (17, [0, 1, 2, 3, 4, 5, 6, 7, 8, 9, 10, 11, 12, 13, 14, 15], none), (18, [0, 1, 2, 3, 4, 5, 6, 7, 8, 9, 10, 11, 12, 13], none), (19, [0, 1], none), (20, [], none), (21, [], some [59])])]
/-- planchet/planchetref09.up -/
def pl132 : List (Nat × Plan) := [(7, [(0, [], none), (1, [0], none), (2, [0, 1], none), (3, [0], none), (4, [0], none), (5, [0, 1, 2, 3, 4], none), (6, [0, 1, 2, 3, 4, 5], none), (7, [0, 1, 2, 3, 4, 5], none), (8, [0, 1, 2, 3, 4], none), (9, [0, 1, 2, 3, 4], none), (10, [0, 1, 2, 3, 4, 5, 6, 7, 8, 9], none), (11, [0, 1, 2, 3, 4, 5, 6, 7, 8, 9, 10], none), (12, [0, 1, 2, 3, 4, 5, 6, 7, 8, 9, 10, 11], none), (13, [0, 1, 2, 3, 4, 5, 6, 7, 8, 9, 10, 11, 12], none), (14, [0, 1, 2, 3, 4, 5, 6, 7, 8, 9, 10, 11, 12], none), (15, [0, 1, 2, 3, 4, 5, 6, 7, 8, 9, 10, 11, 12], none), (16, [0, 1, 2, 3, 4, 5, 6, 7, 8, 9, 10], none), (17, [0], none), (18, [0], none), (19, [], some [24]), (20, [], none)])]
/-- planchet/planchetref10.two -/
def pl133 : List (Nat × Plan) := [(1, [(0, [], none), (1, [0], none), (2, [0, 1], none), (3, [0, 1, 2], none), (4, [0, 1, 2, 3], none), (5, [0, 1, 2], none), (6, [0, 1, 2, 3, 4, 5], none), (7, [0, 1, 2, 3, 4, 5], none), (8, [0, 1, 2, 3, 4, 5, 6, 7], none), (9, [0, 1, 2, 3, 4, 5, 6, 7], none), (10, [0, 1, 2], none), (11, [], none), (12, [], some [14])])]
/-- (*planchet/sha.Hash).Sum -/
def pl136 : List (Nat × Plan) := [(3, [(4, [], none), (5, [4], none), (6, [4], none), (7, [4], none), (8, [4], none), (9, [], some [16]), (0, [4, 5, 6, 7, 8, 9], none), (1, [4, 5, 6, 7, 8, 9], none), (2, [4, 5, 6, 7, 8, 9], none), (3, [4, 5, 6, 7, 8, 9], none), (10, [], none), (11, [], none), (12, [], none)])]
/-- planchet/planchetref01.right -/
def pl139 : List (Nat × Plan) := [(1, [(0, [], none), (1, [0], none), (2, [], none), (3, [0, 1, 2], none), (4, [0, 1, 2, 3], none), (5, [0, 1, 2], none), (6, [0, 1, 2, 3, 4, 5], none), (7, [0, 1, 2], none), (8, [], none), (9, [], none)])]
/-- planchet/ptree.sorted$1 -/
def pl142 : List (Nat × Plan) := [(1, [(0, [], none), (1, [], none), (2, [0, 1], none), (3, [0, 1], none), (4, [], none), (5, [], none)])]
/-- (*planchet/tree.builder).see -/
def pl148 : List (Nat × Plan) := [(1, [(0, [], none), (1, [], none), (2, [0, 1], none), (3, [0, 1], none), (4, [0, 1], none), (5, [0, 1], none), (6, [0, 1], none), (7, [], none), (8, [], none), (9, [], none), (10, [], none), (11, [9, 10], none), (12, [9, 10], none), (13, [9, 10], none), (14, [9, 10], none), (15, [9, 10, 11, 12, 13, 14], none), (16, [9, 10, 11, 12, 13, 14], none), (17, [9, 10], none), (18, [9, 10], none), (19, [], none), (20, [], none)]), (2, [(0, [], none), (1, [], none), (2, [], none), (3, [], none), (4, [0, 1, 2, 3], none), (5, [0, 1, 2, 3], none), (6, [0, 1, 2, 3, 4, 5], none), (7, [0, 1, 2, 3, 4, 5], none), (8, [], none), (9, [], some [33])])]
/-- (planchet/tree.place).join -/
def pl149 : List (Nat × Plan) := [(1, [(0, [], none), (1, [0], none), (2, [0, 1], none), (3, [0, 1], none), (4, [0, 1, 2, 3], none), (5, [0, 1, 2, 3], none), (6, [0, 1, 2, 3, 4, 5], none), (7, [0, 1, 2, 3, 4, 5], none), (8, [0, 1, 2, 3], none), (9, [0, 1, 2, 3, 4, 5, 6, 7, 8], none), (10, [0, 1, 2, 3, 4, 5, 6, 7, 8], none), (11, [0, 1, 2, 3, 4, 5, 6, 7, 8, 9, 10], none), (12, [0, 1, 2, 3, 4, 5, 6, 7, 8, 9, 10], none), (13, [0, 1, 2, 3], none), (14, [], none), (15, [], some [10])])]
/-- planchet/planchetref10.Leaf -/
def pl156 : List (Nat × Plan) := [(1, [(0, [], none), (1, [], none), (2, [0, 1], none), (3, [0, 1], none), (4, [0, 1, 2, 3], none), (5, [0, 1, 2, 3, 4], none), (6, [0, 1, 2, 3, 4, 5], none), (7, [0, 1, 2, 3], none), (8, [], none), (9, [], none)]), (2, [(0, [], none), (1, [0], none), (2, [0], none), (3, [0, 1, 2], none), (4, [0, 1, 2, 3], none), (5, [0, 1, 2, 3, 4], none), (6, [0, 1, 2], none), (7, [], none), (8, [], some [8])])]
/-- planchet/planchetref07.Run -/
def pl157 : List (Nat × Plan) := [(5, [(0, [], none), (1, [0], none), (2, [0, 1], none), (3, [0, 1], none), (4, [0, 1, 2, 3], none), (5, [0], none), (6, [], none), (7, [0, 1, 2, 3, 4, 5, 6], none), (8, [], some [13])]), (6, [(0, [], none), (1, [0], none), (2, [0, 1], none), (3, [0, 1], none), (4, [0, 1, 2, 3], none), (5, [0], none), (6, [], none), (7, [0, 1, 2, 3, 4, 5, 6], none), (8, [], some [14])]), (7, [(0, [], none), (1, [0], none), (2, [0, 1], none), (3, [0], none), (4, [], none), (5, [], some [10])])]
/-- planchet/planchetref05.At -/
def pl159 : List (Nat × Plan) := [(1, [(0, [], none), (1, [0], none), (2, [0], none), (3, [], none), (4, [], some [4])])]
/-- planchet/wots.From$1 -/
def pl160 : List (Nat × Plan) := [(1, [(0, [], none), (1, [0], none), (2, [], none), (3, [], none), (4, [0, 1, 2, 3], none), (5, [0, 1, 2, 3], none), (6, [0, 1, 2, 3], none), (7, [0, 1, 2, 3, 4, 5, 6], none), (8, [0, 1, 2, 3, 4, 5, 6, 7], none), (9, [], none), (10, [], some [7])])]
/-- planchet/ltree.Join -/
def pl161 : List (Nat × Plan) := [(5, [(0, [], none), (1, [0], none), (2, [0, 1], none), (3, [0, 1, 2], none), (4, [0, 1, 2], none), (5, [0, 1], none), (6, [0], none), (7, [], none), (8, [], some [21])]), (7, [(0, [], none), (1, [], none), (2, [0, 1], none), (3, [0, 1, 2], none), (4, [0, 1, 2], none), (5, [0, 1], none), (6, [0, 1, 2, 3, 4, 5], none), (7, [0, 1, 2, 3, 4, 5, 6], none), (8, [0, 1, 2, 3, 4, 5, 6], none), (9, [0, 1], none), (10, [], none), (11, [], some [8])])]
/-- planchet/planchetref09.Join -/
def pl162 : List (Nat × Plan) := [(1, [(0, [], none), (1, [0], none), (2, [0, 1], none), (3, [0, 1], none), (4, [0, 1, 2, 3], none), (5, [0, 1, 2, 3], none), (6, [0], none), (7, [], none), (8, [0, 1, 2, 3, 4, 5, 6, 7], none), (9, [], some [9])]), (2, [(0, [], none), (1, [0], none), (2, [0, 1], none), (3, [0, 1], none), (4, [0, 1, 2, 3], none), (5, [0, 1, 2, 3], none), (6, [0], none), (7, [], none), (8, [0, 1, 2, 3, 4, 5, 6, 7], none), (9, [], some [10])]), (3, [(0, [], none), (1, [0], none), (2, [0, 1], none), (3, [0, 1], none), (4, [0, 1, 2, 3], none), (5, [0, 1, 2, 3], none), (6, [0], none), (7, [], none), (8, [0, 1, 2, 3, 4, 5, 6, 7], none), (9, [], some [11])]), (4, [(0, [], none), (1, [0], none), (2, [0, 1], none), (3, [0], none), (4, [0, 1, 2, 3], none), (5, [0, 1, 2, 3, 4], none), (6, [0], none), (7, [], none), (8, [], some [8])])]
/-- (*planchet/sha.Hash).take -/
def pl163 : List (Nat × Plan) := [(5, [(0, [], none), (1, [], none), (2, [0, 1], none), (3, [0, 1], none), (4, [2, 3], none), (5, [], none)]), (6, [(0, [], none), (1, [], none), (2, [0, 1], none), (3, [0, 1], none), (4, [0, 1, 2, 3], none), (5, [0, 1], none), (6, [0, 1], none), (7, [0, 1, 2, 3, 4, 5, 6], none), (8, [0, 1, 6], none), (9, [0, 1], none), (10, [], none), (11, [0, 1, 2, 3, 4, 5, 6, 7, 8, 9, 10], none), (12, [0, 1, 2, 3, 4, 5, 6, 7, 8, 9, 10, 11], none), (13, [0, 1, 2, 3, 4, 5, 6, 7, 8, 9, 10, 11], none), (14, [0, 1, 2, 3, 4, 5, 6, 7, 8, 9, 10], none), (15, [0, 1, 2, 3, 4, 5, 6, 7, 8, 9, 10, 11, 12, 13, 14], none), (16, [0, 1, 2, 3, 4, 5, 6, 7, 8, 9, 10, 11, 12, 13, 14], none), (17, [0, 1, 2, 3, 4, 5, 6, 7, 8, 9, 10, 11, 12, 13, 14, 15, 16], none), (18, [0, 1, 2, 3, 4, 5, 6, 7, 8, 9, 10, 11, 12, 13, 14, 15, 16], none), (19, [0, 1, 2, 3, 4, 5, 6, 7, 8, 9, 10, 11, 12, 13, 14], none), (20, [0, 1, 2, 3, 4, 5, 6, 7, 8, 9, 10], none), (21, [], none), (22, [0, 1, 2, 3, 4, 5, 6, 7, 8, 9, 10, 11, 12, 13, 14, 15, 16, 17, 18, 19, 20, 21], none), (23, [0, 1, 2, 3, 4, 5, 6, 7, 8, 9, 10, 11, 12, 13, 14, 15, 16, 17, 18, 19, 20, 21], none), (24, [0, 1, 2, 3, 4, 5, 6, 7, 8, 9, 10, 11, 12, 13, 14, 15, 16, 17, 18, 19, 20, 21], none), (25, [], none), (26, [0, 1, 2, 3, 4, 5, 6, 7, 8, 9, 10, 11, 12, 13, 14, 15, 16, 17, 18, 19, 20, 21, 22, 23, 24, 25], none), (27, [0, 1, 2, 3, 4, 5, 6, 7, 8, 9, 10, 11, 12, 13, 14, 15, 16, 17, 18, 19, 20, 21, 22, 23, 24, 25], none), (28, [0, 1, 2, 3, 4, 5, 6, 7, 8, 9, 10, 11, 12, 13, 14, 15, 16, 17, 18, 19, 20, 21, 22, 23, 24, 25], none), (29, [], none), (30, [], none)]), (7, [(0, [], none), (1, [], none), (2, [0, 1], none), (3, [], none), (4, [], none), (5, [0, 1, 2, 3, 4], none), (6, [4], none), (7, [], none), (8, [0, 1, 2, 3, 4, 5, 6, 7], none), (9, [0, 1, 2, 3, 4, 5, 6, 7, 8], none), (10, [0, 1, 2, 3, 4, 5, 6, 7, 8], none), (11, [0, 1, 2, 3, 4, 5, 6, 7], none), (12, [0, 1, 2, 3, 4, 5, 6, 7, 8, 9, 10, 11], none), (13, [0, 1, 2, 3, 4, 5, 6, 7, 8, 9, 10, 11, 12], none), (14, [0, 1, 2, 3, 4, 5, 6, 7, 8, 9, 10, 11, 12], none), (15, [0, 1, 2, 3, 4, 5, 6, 7, 8, 9, 10, 11], none), (16, [0, 1, 2, 3, 4, 5, 6, 7], none), (17, [0, 1, 2, 3, 4, 5, 6, 7, 8, 9, 10, 11, 12, 13, 14, 15, 16], none), (18, [0, 1, 2, 3, 4, 5, 6, 7, 8, 9, 10, 11, 12, 13, 14, 15, 16], none), (19, [0, 1, 2, 3, 4, 5, 6, 7, 8, 9, 10, 11, 12, 13, 14, 15, 16, 17, 18], none), (20, [0, 1, 2, 3, 4, 5, 6, 7, 8, 9, 10, 11, 12, 13, 14, 15, 16, 17, 18], none), (21, [0, 1, 2, 3, 4, 5, 6, 7, 8, 9, 10, 11, 12, 13, 14, 15, 16], none), (22, [0, 1, 2, 3, 4, 5, 6, 7], none), (23, [], none), (24, [], none)]), (13, [(0, [], none), (1, [0], none), (2, [1], none), (3, [1], none), (4, [], none), (5, [], none), (6, [0, 1, 2, 3, 4, 5], none), (7, [], none), (8, [1, 2, 3, 4, 5, 6, 7], none), (9, [1, 2, 3, 4, 5, 6, 7], none), (10, [], none), (11, [], some [116])])]
/-- slices.pdqsortCmpFunc[planchet/ptree.Entry] -/
def pl164 : List (Nat × Plan) := [(17, [(0, [], none), (1, [], none), (2, [], none), (3, [], none), (4, [3], none), (5, [3, 4], none), (6, [3, 4], none), (7, [3], none), (8, [3], none), (9, [3, 4, 5, 6, 7, 8], none), (10, [3, 4, 5, 6, 7, 8, 9], none), (11, [3, 4, 5, 6, 7, 8], none), (12, [3, 4, 5, 6, 7, 8], none), (13, [], none), (14, [], none), (15, [], none), (16, [], none)])]
/-- planchet/wots.Public$1 -/
def pl168 : List (Nat × Plan) := [(1, [(0, [], none), (1, [0], none), (2, [], none), (3, [0, 1, 2], none), (4, [0, 1, 2, 3], none), (5, [], none), (6, [], some [6])])]
/-- planchet/chain.Run$1 -/
def pl169 : List (Nat × Plan) := [(2, [(0, [], none), (1, [0], none), (2, [0], none), (3, [], none), (4, [0, 1, 2, 3], none), (5, [0, 1, 2, 3, 4], none), (6, [4], none), (7, [], none), (8, [0, 1, 2, 3, 4, 5, 6, 7], none), (9, [0, 1, 2, 3, 4, 5, 6, 7, 8], none), (10, [], some [8]), (11, [], some [9])]), (3, [(0, [], none), (1, [0], none), (2, [0, 1], none), (3, [0], none), (4, [], none), (5, [], some [6])])]
/-- planchet/keyed.F -/
def pl171 : List (Nat × Plan) := [(1, [(0, [], none), (1, [0], none), (2, [0, 1], none), (3, [], none), (4, [], none), (5, [], some [4])])]
/-- planchet/keyed.Mask -/
def pl172 : List (Nat × Plan) := [(4, [(0, [], none), (1, [], none), (2, [], none), (3, [0, 1, 2], none), (4, [0, 1, 2], none), (5, [0, 1, 2], none), (6, [], none), (7, [], none), (8, [], some [16])])]
/-- planchet/planchetref08.Public -/
def pl173 : List (Nat × Plan) := [(1, [(0, [], none), (1, [0], none), (2, [], none), (3, [], none), (4, [], none), (5, [0, 1, 2, 3, 4], none), (6, [0, 1, 2, 3, 4, 5], none), (7, [], none), (8, [], none)])]
/-- planchet/planchetref05.F -/
def pl174 : List (Nat × Plan) := [(1, [(0, [], none), (1, [0], none), (2, [], none), (3, [], some [4])])]
/-- planchet/planchetref05.Mask -/
def pl175 : List (Nat × Plan) := [(5, [(0, [], none), (1, [0], none), (2, [0], none), (3, [0], none), (4, [0, 1, 2, 3], none), (5, [0, 1, 2, 3], none), (6, [0, 1, 2, 3], none), (7, [0], none), (8, [], none), (9, [], some [19])])]
/-- planchet/keyed.H -/
def pl177 : List (Nat × Plan) := [(1, [(0, [], none), (1, [0], none), (2, [0, 1], none), (3, [0, 1, 2], none), (4, [], none), (5, [], none), (6, [], some [6])])]
/-- planchet/planchetref05.H -/
def pl178 : List (Nat × Plan) := [(1, [(1, [], none), (2, [1], none), (3, [], some [8]), (4, [1, 2, 3], none), (5, [], some [10]), (0, [1, 2, 3, 4, 5], none), (6, [], none), (7, [], some [6])])]
/-- planchet/sha.schedule -/
def pl179 : List (Nat × Plan) := [(14, [(0, [], none), (1, [], none), (2, [], none), (3, [], none), (4, [0, 1, 2, 3], none), (5, [0, 1, 2, 3], none), (6, [0, 1, 2, 3], none), (7, [0, 1, 2, 3], none), (8, [4, 5, 6, 7], none), (9, [], none)]), (15, [(0, [], none), (1, [0], none), (2, [0], none), (3, [0, 1, 2], none), (4, [0], none), (5, [0], none), (6, [0, 1, 2, 3, 4, 5], none), (7, [0, 1, 2, 3, 4, 5], none), (8, [0], none), (9, [0, 1, 2, 3, 4, 5, 6, 7, 8], none), (10, [0, 1, 2, 3, 4, 5, 6, 7, 8], none), (11, [0, 1, 2, 3, 4, 5, 6, 7, 8], none), (12, [0, 1, 2, 3, 4, 5, 6, 7, 8], none), (13, [0], none), (14, [0, 1, 2, 3, 4, 5, 6, 7, 8, 9, 10, 11, 12, 13], none), (15, [0, 5, 6, 7, 8, 9, 10, 11, 12, 13], none), (16, [0, 1, 2, 3, 4, 5, 6, 7, 8, 9, 10, 11, 12, 13, 14, 15], none), (17, [0, 5, 6, 7, 8, 9, 10, 11, 12, 13], none), (18, [0, 5, 6, 7, 8, 9, 10, 11, 12, 13], none), (19, [0, 1, 2, 3, 4, 5, 6, 7, 8, 9, 10, 11, 12, 13, 14, 15, 16, 17, 18], none), (20, [0, 1, 2, 3, 4, 5, 6, 7, 8, 9, 10, 11, 12, 13, 14, 15, 16, 17, 18], none), (21, [0, 5, 6, 7, 8, 9, 10, 11, 12, 13], none), (22, [0], none), (23, [0, 1, 2, 3, 4, 5, 6, 7, 8, 9, 10, 11, 12, 13, 14, 15, 16, 17, 18, 19, 20, 21, 22], none), (24, [0, 1, 2, 3, 4, 5, 6, 7, 8, 9, 10, 11, 12, 13, 14, 15, 16, 17, 18, 19, 20, 21, 22], none), (25, [0, 1, 2, 3, 4, 5, 6, 7, 8, 9, 10, 11, 12, 13, 14, 15, 16, 17, 18, 19, 20, 21, 22], none), (26, [0, 1, 2, 3, 4, 5, 6, 7, 8, 9, 10, 11, 12, 13, 14, 15, 16, 17, 18, 19, 20, 21, 22], none), (27, [0], none), (28, [], none), (29, [], some [76])])]
/-- slices.insertionSortCmpFunc[planchet/ptree.Entry] -/
def pl182 : List (Nat × Plan) := [(4, [(0, [], none), (1, [0], none), (2, [], none), (3, [], none), (4, [], none), (5, [4], none), (6, [4, 5], none), (7, [4], none), (8, [4], none), (9, [4, 5, 6, 7, 8], none), (10, [4, 5, 6, 7, 8, 9], none), (11, [4, 5, 6, 7, 8, 9], none), (12, [4, 5, 6, 7, 8], none), (13, [4, 5, 6, 7, 8], none), (14, [], none), (15, [], none), (16, [], none)]), (6, [(0, [], none), (1, [0], none), (5, [0, 1], none), (6, [0, 1, 5], none), (7, [0, 1, 5], none), (8, [0, 1], none), (9, [0, 1], none), (10, [0, 1, 5, 6, 7, 8, 9], none), (11, [0, 1, 5, 6, 7, 8, 9, 10], none), (12, [0, 1, 5, 6, 7, 8, 9], none), (13, [0, 1, 5, 6, 7, 8, 9], none), (14, [], none), (15, [], some [51]), (2, [0, 1, 5, 6, 7, 8, 9, 10, 11, 12, 13, 14, 15], none), (3, [0, 1, 5, 6, 7, 8, 9, 10, 11, 12, 13, 14, 15, 2], none), (4, [0, 1, 5, 6, 7, 8, 9, 10, 11, 12, 13, 14, 15, 2], none), (16, [], none), (17, [], some [52])])]
/-- slices.heapSortCmpFunc[planchet/ptree.Entry] -/
def pl183 : List (Nat × Plan) := [(10, [(0, [], none), (1, [0], none), (6, [0, 1], none), (7, [0, 1, 6], none), (8, [0, 1, 6, 7], none), (9, [0, 1, 6], none), (10, [0, 1], none), (11, [0, 1], none), (12, [0, 1, 6, 7, 8, 9, 10, 11], none), (13, [0, 1, 6, 7, 8, 9, 10, 11, 12], none), (14, [0, 1, 6, 7, 8, 9, 10, 11], none), (15, [0, 1, 6, 7, 8, 9, 10, 11], none), (16, [], none), (17, [], some [52]), (2, [0, 1, 6, 7, 8, 9, 10, 11, 12, 13, 14, 15, 16, 17], none), (3, [0, 1, 6, 7, 8, 9, 10, 11, 12, 13, 14, 15, 16, 17, 2], none), (4, [0, 1, 6, 7, 8, 9, 10, 11, 12, 13, 14, 15, 16, 17, 2, 3], none), (5, [0, 1, 6, 7, 8, 9, 10, 11, 12, 13, 14, 15, 16, 17, 2], none), (18, [], none), (19, [], some [53])])]
/-- slices.breakPatternsCmpFunc[planchet/ptree.Entry] -/
def pl184 : List (Nat × Plan) := [(10, [(0, [], none), (1, [0], none), (6, [0, 1], none), (7, [0, 1, 6], none), (8, [0, 1, 6, 7], none), (9, [0, 1, 6], none), (10, [0, 1], none), (11, [0, 1], none), (12, [0, 1, 6, 7, 8, 9, 10, 11], none), (13, [0, 1, 6, 7, 8, 9, 10, 11, 12], none), (14, [0, 1, 6, 7, 8, 9, 10, 11], none), (15, [0, 1, 6, 7, 8, 9, 10, 11], none), (16, [], none), (17, [], some [65]), (2, [0, 1, 6, 7, 8, 9, 10, 11, 12, 13, 14, 15, 16, 17], none), (3, [0, 1, 6, 7, 8, 9, 10, 11, 12, 13, 14, 15, 16, 17, 2], none), (4, [0, 1, 6, 7, 8, 9, 10, 11, 12, 13, 14, 15, 16, 17, 2, 3], none), (5, [0, 1, 6, 7, 8, 9, 10, 11, 12, 13, 14, 15, 16, 17, 2], none), (18, [], none), (19, [], some [66])])]
/-- slices.reverseRangeCmpFunc[planchet/ptree.Entry] -/
def pl186 : List (Nat × Plan) := [(3, [(0, [], none), (1, [0], none), (4, [0, 1], none), (5, [0, 1, 4], none), (6, [0, 1], none), (7, [0, 1], none), (8, [0, 1, 4, 5, 6, 7], none), (9, [0, 1, 4, 5, 6, 7, 8], none), (10, [0, 1, 4, 5, 6, 7], none), (11, [0, 1, 4, 5, 6, 7], none), (12, [], none), (13, [], some [28]), (2, [0, 1, 4, 5, 6, 7, 8, 9, 10, 11, 12, 13], none), (3, [0, 1, 4, 5, 6, 7, 8, 9, 10, 11, 12, 13, 2], none), (14, [], none), (15, [], some [29])])]
/-- slices.partialInsertionSortCmpFunc[planchet/ptree.Entry] -/
def pl187 : List (Nat × Plan) := [(5, [(0, [], none), (1, [0], none), (2, [], none), (3, [], none), (4, [], none), (5, [4], none), (6, [4, 5], none), (7, [4], none), (8, [4], none), (9, [4, 5, 6, 7, 8], none), (10, [4, 5, 6, 7, 8, 9], none), (11, [4, 5, 6, 7, 8, 9], none), (12, [4, 5, 6, 7, 8], none), (13, [4, 5, 6, 7, 8], none), (14, [], none), (15, [], none), (16, [], none), (17, [], none)]), (11, [(0, [], none), (1, [0], none), (5, [0, 1], none), (6, [0, 1, 5], none), (7, [0, 1, 5], none), (8, [0, 1], none), (9, [0, 1], none), (10, [0, 1, 5, 6, 7, 8, 9], none), (11, [0, 1, 5, 6, 7, 8, 9, 10], none), (12, [0, 1, 5, 6, 7, 8, 9], none), (13, [0, 1, 5, 6, 7, 8, 9], none), (14, [], none), (15, [], some [60]), (2, [0, 1, 5, 6, 7, 8, 9, 10, 11, 12, 13, 14, 15], none), (3, [0, 1, 5, 6, 7, 8, 9, 10, 11, 12, 13, 14, 15, 2], none), (4, [0, 1, 5, 6, 7, 8, 9, 10, 11, 12, 13, 14, 15, 2], none), (16, [], none), (17, [], some [61])]), (16, [(0, [], none), (1, [0], none), (2, [0, 1], none), (3, [0], none), (4, [0], none), (5, [0, 1, 2, 3, 4], none), (6, [0, 1, 2, 3, 4, 5], none), (7, [0, 1, 2, 3, 4, 5], none), (8, [0, 1, 2, 3, 4], none), (9, [0, 1, 2, 3, 4], none), (10, [], none), (11, [], none), (12, [], none)]), (17, [(0, [], none), (1, [0], none), (5, [0, 1], none), (6, [0, 1, 5], none), (7, [0, 1, 5], none), (8, [0, 1], none), (9, [0, 1], none), (10, [0, 1, 5, 6, 7, 8, 9], none), (11, [0, 1, 5, 6, 7, 8, 9, 10], none), (12, [0, 1, 5, 6, 7, 8, 9], none), (13, [0, 1, 5, 6, 7, 8, 9], none), (14, [], none), (15, [], some [99]), (2, [0, 1, 5, 6, 7, 8, 9, 10, 11, 12, 13, 14, 15], none), (3, [0, 1, 5, 6, 7, 8, 9, 10, 11, 12, 13, 14, 15, 2], none), (4, [0, 1, 5, 6, 7, 8, 9, 10, 11, 12, 13, 14, 15, 2], none), (16, [], none), (17, [], some [100])]), (22, [(0, [], none), (1, [0], none), (2, [0, 1], none), (3, [0], none), (4, [0], none), (5, [0, 1, 2, 3, 4], none), (6, [0, 1, 2, 3, 4, 5], none), (7, [0, 1, 2, 3, 4, 5], none), (8, [0, 1, 2, 3, 4], none), (9, [0, 1, 2, 3, 4], none), (10, [], none), (11, [], none), (12, [], none)]), (23, [(0, [], none), (1, [0], none), (5, [0, 1], none), (6, [0, 1, 5], none), (7, [0, 1, 5], none), (8, [0, 1], none), (9, [0, 1], none), (10, [0, 1, 5, 6, 7, 8, 9], none), (11, [0, 1, 5, 6, 7, 8, 9, 10], none), (12, [0, 1, 5, 6, 7, 8, 9], none), (13, [0, 1, 5, 6, 7, 8, 9], none), (14, [], none), (15, [], some [139]), (2, [0, 1, 5, 6, 7, 8, 9, 10, 11, 12, 13, 14, 15], none), (3, [0, 1, 5, 6, 7, 8, 9, 10, 11, 12, 13, 14, 15, 2], none), (4, [0, 1, 5, 6, 7, 8, 9, 10, 11, 12, 13, 14, 15, 2], none), (16, [], none), (17, [], some [140])])]
/-- slices.partitionEqualCmpFunc[planchet/ptree.Entry] -/
def pl188 : List (Nat × Plan) := [(1, [(0, [], none), (1, [0], none), (4, [0, 1], none), (5, [0, 1, 4], none), (6, [0, 1], none), (7, [0, 1], none), (8, [0, 1, 4, 5, 6, 7], none), (9, [0, 1, 4, 5, 6, 7, 8], none), (10, [0, 1, 4, 5, 6, 7], none), (11, [0, 1, 4, 5, 6, 7], none), (12, [], none), (13, [], some [25]), (2, [0, 1, 4, 5, 6, 7, 8, 9, 10, 11, 12, 13], none), (3, [0, 1, 4, 5, 6, 7, 8, 9, 10, 11, 12, 13, 2], none), (14, [], none), (15, [], some [26])]), (3, [(0, [], none), (1, [0], none), (2, [], none), (3, [], none), (4, [], none), (5, [4], none), (6, [4, 5], none), (7, [4], none), (8, [4], none), (9, [4, 5, 6, 7, 8], none), (10, [4, 5, 6, 7, 8, 9], none), (11, [4, 5, 6, 7, 8], none), (12, [4, 5, 6, 7, 8], none), (13, [], none), (14, [], none), (15, [], none), (16, [], none)]), (5, [(0, [], none), (1, [0], none), (2, [], none), (3, [], none), (4, [], none), (5, [4], none), (6, [4, 5], none), (7, [4], none), (8, [4], none), (9, [4, 5, 6, 7, 8], none), (10, [4, 5, 6, 7, 8, 9], none), (11, [4, 5, 6, 7, 8], none), (12, [4, 5, 6, 7, 8], none), (13, [], none), (14, [], none), (15, [], none)]), (8, [(0, [], none), (1, [0], none), (4, [0, 1], none), (5, [0, 1, 4], none), (6, [0, 1], none), (7, [0, 1], none), (8, [0, 1, 4, 5, 6, 7], none), (9, [0, 1, 4, 5, 6, 7, 8], none), (10, [0, 1, 4, 5, 6, 7], none), (11, [0, 1, 4, 5, 6, 7], none), (12, [], none), (13, [], some [83]), (2, [0, 1, 4, 5, 6, 7, 8, 9, 10, 11, 12, 13], none), (3, [0, 1, 4, 5, 6, 7, 8, 9, 10, 11, 12, 13, 2], none), (14, [], none), (15, [], some [84])])]
/-- slices.partitionCmpFunc[planchet/ptree.Entry] -/
def pl189 : List (Nat × Plan) := [(1, [(0, [], none), (1, [0], none), (4, [0, 1], none), (5, [0, 1, 4], none), (6, [0, 1], none), (7, [0, 1], none), (8, [0, 1, 4, 5, 6, 7], none), (9, [0, 1, 4, 5, 6, 7, 8], none), (10, [0, 1, 4, 5, 6, 7], none), (11, [0, 1, 4, 5, 6, 7], none), (12, [], none), (13, [], some [26]), (2, [0, 1, 4, 5, 6, 7, 8, 9, 10, 11, 12, 13], none), (3, [0, 1, 4, 5, 6, 7, 8, 9, 10, 11, 12, 13, 2], none), (14, [], none), (15, [], some [27])]), (3, [(0, [], none), (1, [0], none), (2, [], none), (3, [], none), (4, [], none), (5, [4], none), (6, [4, 5], none), (7, [4], none), (8, [4], none), (9, [4, 5, 6, 7, 8], none), (10, [4, 5, 6, 7, 8, 9], none), (11, [4, 5, 6, 7, 8], none), (12, [4, 5, 6, 7, 8], none), (13, [], none), (14, [], none), (15, [], none)]), (5, [(0, [], none), (1, [0], none), (2, [], none), (3, [], none), (4, [], none), (5, [4], none), (6, [4, 5], none), (7, [4], none), (8, [4], none), (9, [4, 5, 6, 7, 8], none), (10, [4, 5, 6, 7, 8, 9], none), (11, [4, 5, 6, 7, 8], none), (12, [4, 5, 6, 7, 8], none), (13, [], none), (14, [], none), (15, [], none), (16, [], none)]), (8, [(0, [], none), (1, [0], none), (4, [0, 1], none), (5, [0, 1, 4], none), (6, [0, 1], none), (7, [0, 1], none), (8, [0, 1, 4, 5, 6, 7], none), (9, [0, 1, 4, 5, 6, 7, 8], none), (10, [0, 1, 4, 5, 6, 7], none), (11, [0, 1, 4, 5, 6, 7], none), (12, [], none), (13, [], some [84]), (2, [0, 1, 4, 5, 6, 7, 8, 9, 10, 11, 12, 13], none), (3, [0, 1, 4, 5, 6, 7, 8, 9, 10, 11, 12, 13, 2], none), (14, [], none), (15, [], some [85])]), (10, [(0, [], none), (1, [0], none), (4, [0, 1], none), (5, [0, 1, 4], none), (6, [0, 1], none), (7, [0, 1], none), (8, [0, 1, 4, 5, 6, 7], none), (9, [0, 1, 4, 5, 6, 7, 8], none), (10, [0, 1, 4, 5, 6, 7], none), (11, [0, 1, 4, 5, 6, 7], none), (12, [], none), (13, [], some [99]), (2, [0, 1, 4, 5, 6, 7, 8, 9, 10, 11, 12, 13], none), (3, [0, 1, 4, 5, 6, 7, 8, 9, 10, 11, 12, 13, 2], none), (14, [], none), (15, [], some [100])]), (13, [(0, [], none), (1, [0], none), (2, [], none), (3, [], none), (4, [], none), (5, [4], none), (6, [4, 5], none), (7, [4], none), (8, [4], none), (9, [4, 5, 6, 7, 8], none), (10, [4, 5, 6, 7, 8, 9], none), (11, [4, 5, 6, 7, 8], none), (12, [4, 5, 6, 7, 8], none), (13, [], none), (14, [], none), (15, [], none)]), (15, [(0, [], none), (1, [0], none), (2, [], none), (3, [], none), (4, [], none), (5, [4], none), (6, [4, 5], none), (7, [4], none), (8, [4], none), (9, [4, 5, 6, 7, 8], none), (10, [4, 5, 6, 7, 8, 9], none), (11, [4, 5, 6, 7, 8], none), (12, [4, 5, 6, 7, 8], none), (13, [], none), (14, [], none), (15, [], none), (16, [], none)]), (18, [(0, [], none), (1, [0], none), (4, [0, 1], none), (5, [0, 1, 4], none), (6, [0, 1], none), (7, [0, 1], none), (8, [0, 1, 4, 5, 6, 7], none), (9, [0, 1, 4, 5, 6, 7, 8], none), (10, [0, 1, 4, 5, 6, 7], none), (11, [0, 1, 4, 5, 6, 7], none), (12, [], none), (13, [], some [157]), (2, [0, 1, 4, 5, 6, 7, 8, 9, 10, 11, 12, 13], none), (3, [0, 1, 4, 5, 6, 7, 8, 9, 10, 11, 12, 13, 2], none), (14, [], none), (15, [], some [158])]), (21, [(0, [], none), (1, [0], none), (4, [0, 1], none), (5, [0, 1, 4], none), (6, [0, 1], none), (7, [0, 1], none), (8, [0, 1, 4, 5, 6, 7], none), (9, [0, 1, 4, 5, 6, 7, 8], none), (10, [0, 1, 4, 5, 6, 7], none), (11, [0, 1, 4, 5, 6, 7], none), (12, [], none), (13, [], some [175]), (2, [0, 1, 4, 5, 6, 7, 8, 9, 10, 11, 12, 13], none), (3, [0, 1, 4, 5, 6, 7, 8, 9, 10, 11, 12, 13, 2], none), (14, [], none), (15, [], some [176])])]
/-- slices.siftDownCmpFunc[planchet/ptree.Entry] -/
def pl193 : List (Nat × Plan) := [(3, [(0, [], none), (1, [], none), (2, [0, 1], none), (3, [], none), (4, [], none), (5, [], none), (6, [5], none), (7, [5, 6], none), (8, [5, 6, 7], none), (9, [5, 6], none), (10, [5], none), (11, [5], none), (12, [5, 6, 7, 8, 9, 10, 11], none), (13, [5, 6, 7, 8, 9, 10, 11, 12], none), (14, [5, 6, 7, 8, 9, 10, 11, 12, 13], none), (15, [5, 6, 7, 8, 9, 10, 11, 12], none), (16, [5, 6, 7, 8, 9, 10, 11, 12], none), (17, [5, 6, 7, 8, 9, 10, 11], none), (18, [5, 6, 7, 8, 9, 10, 11], none), (19, [], none), (20, [], none), (21, [], none)]), (5, [(0, [], none), (1, [0], none), (2, [0, 1], none), (3, [0, 1, 2], none), (4, [0, 1], none), (5, [0], none), (6, [0], none), (7, [0, 1, 2, 3, 4, 5, 6], none), (8, [0, 1, 2, 3, 4, 5, 6, 7], none), (9, [0, 1, 2, 3, 4, 5, 6, 7, 8], none), (10, [0, 1, 2, 3, 4, 5, 6, 7], none), (11, [0, 1, 2, 3, 4, 5, 6], none), (12, [0, 1, 2, 3, 4, 5, 6], none), (13, [], none), (14, [], none), (15, [], none)]), (6, [(0, [], none), (1, [0], none), (2, [0, 1], none), (3, [0], none), (8, [0, 1, 2, 3], none), (9, [0, 1, 2, 3, 8], none), (10, [0, 1, 2, 3, 8, 9], none), (11, [0, 1, 2, 3, 8], none), (12, [0, 1, 2, 3], none), (13, [0, 1, 2, 3], none), (14, [0, 1, 2, 3, 8, 9, 10, 11, 12, 13], none), (15, [0, 1, 2, 3, 8, 9, 10, 11, 12, 13, 14], none), (16, [0, 1, 2, 3, 8, 9, 10, 11, 12, 13, 14, 15], none), (17, [0, 1, 2, 3, 8, 9, 10, 11, 12, 13, 14], none), (18, [0, 1, 2, 3, 8, 9, 10, 11, 12, 13], none), (19, [0, 1, 2, 3, 8, 9, 10, 11, 12, 13], none), (20, [], none), (21, [], some [79]), (4, [0, 1, 2, 3, 8, 9, 10, 11, 12, 13, 14, 15, 16, 17, 18, 19, 20, 21], none), (5, [0, 1, 2, 3, 8, 9, 10, 11, 12, 13, 14, 15, 16, 17, 18, 19, 20, 21, 4], none), (6, [0, 1, 2, 3, 8, 9, 10, 11, 12, 13, 14, 15, 16, 17, 18, 19, 20, 21, 4, 5], none), (7, [0, 1, 2, 3, 8, 9, 10, 11, 12, 13, 14, 15, 16, 17, 18, 19, 20, 21, 4], none), (22, [], none), (23, [], some [80])])]
/-- (*slices.xorshift).Next -/
def pl195 : List (Nat × Plan) := [(1, [(0, [], none), (1, [], none), (2, [], none), (3, [0, 1, 2], none), (4, [0, 1, 2], none), (5, [0, 1, 2], none), (6, [0, 1, 2], none), (7, [], none), (8, [], none), (9, [], some [11])]), (2, [(0, [], none), (1, [], none), (2, [], none), (3, [0, 1, 2], none), (4, [0, 1, 2], none), (5, [0, 1, 2], none), (6, [0, 1, 2], none), (7, [], none), (8, [], none), (9, [], some [20])]), (3, [(0, [], none), (1, [], none), (2, [], none), (3, [0, 1, 2], none), (4, [0, 1, 2], none), (5, [0, 1, 2], none), (6, [0, 1, 2], none), (7, [], none), (8, [], none), (9, [], some [29])])]
/-- slices.order2CmpFunc[planchet/ptree.Entry] -/
def pl198 : List (Nat × Plan) := [(1, [(0, [], none), (1, [0], none), (2, [0, 1], none), (3, [0], none), (4, [0], none), (5, [0, 1, 2, 3, 4], none), (6, [0, 1, 2, 3, 4, 5], none), (7, [0, 1, 2, 3, 4], none), (8, [0, 1, 2, 3, 4], none), (9, [], none), (10, [], none)])]
end Go.Proofs.Ytclkaibkepaebaa
