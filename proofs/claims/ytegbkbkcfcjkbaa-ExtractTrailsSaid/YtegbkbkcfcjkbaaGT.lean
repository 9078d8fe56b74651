/- Texts, joined. -/
import Derived.Test.YtegbkbkcfcjkbaaGG
import Derived.Test.YtegbkbkcfcjkbaaProg
namespace Go.Proofs.Ytegbkbkcfcjkbaa
open Go Go.Sy Go.Proofs.Try
set_option maxRecDepth 100000
theorem mix : Try.prog.follows .mixedOrders = true := by kernel_rfl
theorem ty1 (K : Ty → Prop) : tyC Try.prog 1 K = K .func := tyC_of (by kernel_rfl) K
theorem by1 (K : Nat → Prop) : byC Try.prog 1 K = K 8 := byC_of (by kernel_rfl) K
theorem ty2 (K : Ty → Prop) : tyC Try.prog 2 K = K (.int .i64) := tyC_of (by kernel_rfl) K
theorem by2 (K : Nat → Prop) : byC Try.prog 2 K = K 8 := byC_of (by kernel_rfl) K
theorem ty3 (K : Ty → Prop) : tyC Try.prog 3 K = K (.int .i64) := tyC_of (by kernel_rfl) K
theorem by3 (K : Nat → Prop) : byC Try.prog 3 K = K 8 := byC_of (by kernel_rfl) K
theorem ty4 (K : Ty → Prop) : tyC Try.prog 4 K = K .bool := tyC_of (by kernel_rfl) K
theorem by4 (K : Nat → Prop) : byC Try.prog 4 K = K 1 := byC_of (by kernel_rfl) K
theorem ty5 (K : Ty → Prop) : tyC Try.prog 5 K = K (.int .u8) := tyC_of (by kernel_rfl) K
theorem by5 (K : Nat → Prop) : byC Try.prog 5 K = K 1 := byC_of (by kernel_rfl) K
theorem ty9 (K : Ty → Prop) : tyC Try.prog 9 K = K .str := tyC_of (by kernel_rfl) K
theorem by9 (K : Nat → Prop) : byC Try.prog 9 K = K 16 := byC_of (by kernel_rfl) K
theorem ty12 (K : Ty → Prop) : tyC Try.prog 12 K = K (.int .u64) := tyC_of (by kernel_rfl) K
theorem by12 (K : Nat → Prop) : byC Try.prog 12 K = K 8 := byC_of (by kernel_rfl) K
theorem ty15 (K : Ty → Prop) : tyC Try.prog 15 K = K (.ptr 176) := tyC_of (by kernel_rfl) K
theorem by15 (K : Nat → Prop) : byC Try.prog 15 K = K 8 := byC_of (by kernel_rfl) K
theorem ty16 (K : Ty → Prop) : tyC Try.prog 16 K = K (.ptr 179) := tyC_of (by kernel_rfl) K
theorem by16 (K : Nat → Prop) : byC Try.prog 16 K = K 8 := byC_of (by kernel_rfl) K
theorem ty17 (K : Ty → Prop) : tyC Try.prog 17 K = K (.ptr 187) := tyC_of (by kernel_rfl) K
theorem by17 (K : Nat → Prop) : byC Try.prog 17 K = K 8 := byC_of (by kernel_rfl) K
theorem ty21 (K : Ty → Prop) : tyC Try.prog 21 K = K (.int .i32) := tyC_of (by kernel_rfl) K
theorem by21 (K : Nat → Prop) : byC Try.prog 21 K = K 4 := byC_of (by kernel_rfl) K
theorem ty22 (K : Ty → Prop) : tyC Try.prog 22 K = K (.slice 5) := tyC_of (by kernel_rfl) K
theorem by22 (K : Nat → Prop) : byC Try.prog 22 K = K 24 := byC_of (by kernel_rfl) K
theorem ty23 (K : Ty → Prop) : tyC Try.prog 23 K = K (.ptr 94) := tyC_of (by kernel_rfl) K
theorem by23 (K : Nat → Prop) : byC Try.prog 23 K = K 8 := byC_of (by kernel_rfl) K
theorem ty24 (K : Ty → Prop) : tyC Try.prog 24 K = K (.int .i64) := tyC_of (by kernel_rfl) K
theorem by24 (K : Nat → Prop) : byC Try.prog 24 K = K 8 := byC_of (by kernel_rfl) K
theorem ty26 (K : Ty → Prop) : tyC Try.prog 26 K = K .func := tyC_of (by kernel_rfl) K
theorem by26 (K : Nat → Prop) : byC Try.prog 26 K = K 8 := byC_of (by kernel_rfl) K
theorem ty27 (K : Ty → Prop) : tyC Try.prog 27 K = K .func := tyC_of (by kernel_rfl) K
theorem by27 (K : Nat → Prop) : byC Try.prog 27 K = K 8 := byC_of (by kernel_rfl) K
theorem ty28 (K : Ty → Prop) : tyC Try.prog 28 K = K .func := tyC_of (by kernel_rfl) K
theorem by28 (K : Nat → Prop) : byC Try.prog 28 K = K 8 := byC_of (by kernel_rfl) K
theorem ty29 (K : Ty → Prop) : tyC Try.prog 29 K = K .func := tyC_of (by kernel_rfl) K
theorem by29 (K : Nat → Prop) : byC Try.prog 29 K = K 8 := byC_of (by kernel_rfl) K
theorem ty30 (K : Ty → Prop) : tyC Try.prog 30 K = K (.slice 3) := tyC_of (by kernel_rfl) K
theorem by30 (K : Nat → Prop) : byC Try.prog 30 K = K 24 := byC_of (by kernel_rfl) K
theorem ty32 (K : Ty → Prop) : tyC Try.prog 32 K = K .func := tyC_of (by kernel_rfl) K
theorem by32 (K : Nat → Prop) : byC Try.prog 32 K = K 8 := byC_of (by kernel_rfl) K
theorem ty33 (K : Ty → Prop) : tyC Try.prog 33 K = K .func := tyC_of (by kernel_rfl) K
theorem by33 (K : Nat → Prop) : byC Try.prog 33 K = K 8 := byC_of (by kernel_rfl) K
theorem ty34 (K : Ty → Prop) : tyC Try.prog 34 K = K .func := tyC_of (by kernel_rfl) K
theorem by34 (K : Nat → Prop) : byC Try.prog 34 K = K 8 := byC_of (by kernel_rfl) K
theorem ty35 (K : Ty → Prop) : tyC Try.prog 35 K = K (.slice 40) := tyC_of (by kernel_rfl) K
theorem by35 (K : Nat → Prop) : byC Try.prog 35 K = K 24 := byC_of (by kernel_rfl) K
theorem ty36 (K : Ty → Prop) : tyC Try.prog 36 K = K .func := tyC_of (by kernel_rfl) K
theorem by36 (K : Nat → Prop) : byC Try.prog 36 K = K 8 := byC_of (by kernel_rfl) K
theorem ty37 (K : Ty → Prop) : tyC Try.prog 37 K = K (.ptr 101) := tyC_of (by kernel_rfl) K
theorem by37 (K : Nat → Prop) : byC Try.prog 37 K = K 8 := byC_of (by kernel_rfl) K
theorem ty38 (K : Ty → Prop) : tyC Try.prog 38 K = K .func := tyC_of (by kernel_rfl) K
theorem by38 (K : Nat → Prop) : byC Try.prog 38 K = K 8 := byC_of (by kernel_rfl) K
theorem ty39 (K : Ty → Prop) : tyC Try.prog 39 K = K (.st [(.int .i64), (.int .i64), (.slice 5), (.slice 3)]) := tyC_of (by kernel_rfl) K
theorem by39 (K : Nat → Prop) : byC Try.prog 39 K = K 64 := byC_of (by kernel_rfl) K
theorem ty40 (K : Ty → Prop) : tyC Try.prog 40 K = K (.st [(.int .i64), (.int .i64), (.slice 5), (.slice 3)]) := tyC_of (by kernel_rfl) K
theorem by40 (K : Nat → Prop) : byC Try.prog 40 K = K 64 := byC_of (by kernel_rfl) K
theorem ty42 (K : Ty → Prop) : tyC Try.prog 42 K = K .func := tyC_of (by kernel_rfl) K
theorem by42 (K : Nat → Prop) : byC Try.prog 42 K = K 8 := byC_of (by kernel_rfl) K
theorem ty43 (K : Ty → Prop) : tyC Try.prog 43 K = K .func := tyC_of (by kernel_rfl) K
theorem by43 (K : Nat → Prop) : byC Try.prog 43 K = K 8 := byC_of (by kernel_rfl) K
theorem ty44 (K : Ty → Prop) : tyC Try.prog 44 K = K .func := tyC_of (by kernel_rfl) K
theorem by44 (K : Nat → Prop) : byC Try.prog 44 K = K 8 := byC_of (by kernel_rfl) K
theorem ty45 (K : Ty → Prop) : tyC Try.prog 45 K = K .func := tyC_of (by kernel_rfl) K
theorem by45 (K : Nat → Prop) : byC Try.prog 45 K = K 8 := byC_of (by kernel_rfl) K
theorem ty46 (K : Ty → Prop) : tyC Try.prog 46 K = K (.slice 22) := tyC_of (by kernel_rfl) K
theorem by46 (K : Nat → Prop) : byC Try.prog 46 K = K 24 := byC_of (by kernel_rfl) K
theorem ty47 (K : Ty → Prop) : tyC Try.prog 47 K = K .func := tyC_of (by kernel_rfl) K
theorem by47 (K : Nat → Prop) : byC Try.prog 47 K = K 8 := byC_of (by kernel_rfl) K
theorem ty49 (K : Ty → Prop) : tyC Try.prog 49 K = K .func := tyC_of (by kernel_rfl) K
theorem by49 (K : Nat → Prop) : byC Try.prog 49 K = K 8 := byC_of (by kernel_rfl) K
theorem ty50 (K : Ty → Prop) : tyC Try.prog 50 K = K .func := tyC_of (by kernel_rfl) K
theorem by50 (K : Nat → Prop) : byC Try.prog 50 K = K 8 := byC_of (by kernel_rfl) K
theorem ty51 (K : Ty → Prop) : tyC Try.prog 51 K = K .func := tyC_of (by kernel_rfl) K
theorem by51 (K : Nat → Prop) : byC Try.prog 51 K = K 8 := byC_of (by kernel_rfl) K
theorem ty52 (K : Ty → Prop) : tyC Try.prog 52 K = K .func := tyC_of (by kernel_rfl) K
theorem by52 (K : Nat → Prop) : byC Try.prog 52 K = K 8 := byC_of (by kernel_rfl) K
theorem ty53 (K : Ty → Prop) : tyC Try.prog 53 K = K (.slice 58) := tyC_of (by kernel_rfl) K
theorem by53 (K : Nat → Prop) : byC Try.prog 53 K = K 24 := byC_of (by kernel_rfl) K
theorem ty54 (K : Ty → Prop) : tyC Try.prog 54 K = K (.ptr 108) := tyC_of (by kernel_rfl) K
theorem by54 (K : Nat → Prop) : byC Try.prog 54 K = K 8 := byC_of (by kernel_rfl) K
theorem ty56 (K : Ty → Prop) : tyC Try.prog 56 K = K .func := tyC_of (by kernel_rfl) K
theorem by56 (K : Nat → Prop) : byC Try.prog 56 K = K 8 := byC_of (by kernel_rfl) K
theorem ty57 (K : Ty → Prop) : tyC Try.prog 57 K = K (.st [(.slice 5), .bool, (.int .i64), (.slice 3), .bool]) := tyC_of (by kernel_rfl) K
theorem by57 (K : Nat → Prop) : byC Try.prog 57 K = K 72 := byC_of (by kernel_rfl) K
theorem ty58 (K : Ty → Prop) : tyC Try.prog 58 K = K (.st [(.slice 5), .bool, (.int .i64), (.slice 3), .bool]) := tyC_of (by kernel_rfl) K
theorem by58 (K : Nat → Prop) : byC Try.prog 58 K = K 72 := byC_of (by kernel_rfl) K
theorem ty59 (K : Ty → Prop) : tyC Try.prog 59 K = K .func := tyC_of (by kernel_rfl) K
theorem by59 (K : Nat → Prop) : byC Try.prog 59 K = K 8 := byC_of (by kernel_rfl) K
theorem ty60 (K : Ty → Prop) : tyC Try.prog 60 K = K .func := tyC_of (by kernel_rfl) K
theorem by60 (K : Nat → Prop) : byC Try.prog 60 K = K 8 := byC_of (by kernel_rfl) K
theorem ty61 (K : Ty → Prop) : tyC Try.prog 61 K = K .func := tyC_of (by kernel_rfl) K
theorem by61 (K : Nat → Prop) : byC Try.prog 61 K = K 8 := byC_of (by kernel_rfl) K
theorem ty62 (K : Ty → Prop) : tyC Try.prog 62 K = K (.arr 32 5 (.int .u8)) := tyC_of (by kernel_rfl) K
theorem by62 (K : Nat → Prop) : byC Try.prog 62 K = K 32 := byC_of (by kernel_rfl) K
theorem ty63 (K : Ty → Prop) : tyC Try.prog 63 K = K (.arr 32 5 (.int .u8)) := tyC_of (by kernel_rfl) K
theorem by63 (K : Nat → Prop) : byC Try.prog 63 K = K 32 := byC_of (by kernel_rfl) K
theorem ty64 (K : Ty → Prop) : tyC Try.prog 64 K = K .func := tyC_of (by kernel_rfl) K
theorem by64 (K : Nat → Prop) : byC Try.prog 64 K = K 8 := byC_of (by kernel_rfl) K
theorem ty65 (K : Ty → Prop) : tyC Try.prog 65 K = K .func := tyC_of (by kernel_rfl) K
theorem by65 (K : Nat → Prop) : byC Try.prog 65 K = K 8 := byC_of (by kernel_rfl) K
theorem ty66 (K : Ty → Prop) : tyC Try.prog 66 K = K .func := tyC_of (by kernel_rfl) K
theorem by66 (K : Nat → Prop) : byC Try.prog 66 K = K 8 := byC_of (by kernel_rfl) K
theorem ty67 (K : Ty → Prop) : tyC Try.prog 67 K = K (.slice 63) := tyC_of (by kernel_rfl) K
theorem by67 (K : Nat → Prop) : byC Try.prog 67 K = K 24 := byC_of (by kernel_rfl) K
theorem ty68 (K : Ty → Prop) : tyC Try.prog 68 K = K .func := tyC_of (by kernel_rfl) K
theorem by68 (K : Nat → Prop) : byC Try.prog 68 K = K 8 := byC_of (by kernel_rfl) K
theorem ty69 (K : Ty → Prop) : tyC Try.prog 69 K = K .func := tyC_of (by kernel_rfl) K
theorem by69 (K : Nat → Prop) : byC Try.prog 69 K = K 8 := byC_of (by kernel_rfl) K
theorem ty70 (K : Ty → Prop) : tyC Try.prog 70 K = K .func := tyC_of (by kernel_rfl) K
theorem by70 (K : Nat → Prop) : byC Try.prog 70 K = K 8 := byC_of (by kernel_rfl) K
theorem ty71 (K : Ty → Prop) : tyC Try.prog 71 K = K .func := tyC_of (by kernel_rfl) K
theorem by71 (K : Nat → Prop) : byC Try.prog 71 K = K 8 := byC_of (by kernel_rfl) K
theorem ty72 (K : Ty → Prop) : tyC Try.prog 72 K = K .func := tyC_of (by kernel_rfl) K
theorem by72 (K : Nat → Prop) : byC Try.prog 72 K = K 8 := byC_of (by kernel_rfl) K
theorem ty73 (K : Ty → Prop) : tyC Try.prog 73 K = K .func := tyC_of (by kernel_rfl) K
theorem by73 (K : Nat → Prop) : byC Try.prog 73 K = K 8 := byC_of (by kernel_rfl) K
theorem ty74 (K : Ty → Prop) : tyC Try.prog 74 K = K (.st [(.arr 32 5 (.int .u8)), (.slice 63)]) := tyC_of (by kernel_rfl) K
theorem by74 (K : Nat → Prop) : byC Try.prog 74 K = K 56 := byC_of (by kernel_rfl) K
theorem ty75 (K : Ty → Prop) : tyC Try.prog 75 K = K (.st [(.arr 32 5 (.int .u8)), (.slice 63)]) := tyC_of (by kernel_rfl) K
theorem by75 (K : Nat → Prop) : byC Try.prog 75 K = K 56 := byC_of (by kernel_rfl) K
theorem ty76 (K : Ty → Prop) : tyC Try.prog 76 K = K (.st [.bool, (.arr 32 5 (.int .u8)), (.st [(.arr 32 5 (.int .u8)), (.slice 63)])]) := tyC_of (by kernel_rfl) K
theorem by76 (K : Nat → Prop) : byC Try.prog 76 K = K 96 := byC_of (by kernel_rfl) K
theorem ty77 (K : Ty → Prop) : tyC Try.prog 77 K = K (.st [.bool, (.arr 32 5 (.int .u8)), (.st [(.arr 32 5 (.int .u8)), (.slice 63)])]) := tyC_of (by kernel_rfl) K
theorem by77 (K : Nat → Prop) : byC Try.prog 77 K = K 96 := byC_of (by kernel_rfl) K
theorem ty78 (K : Ty → Prop) : tyC Try.prog 78 K = K .func := tyC_of (by kernel_rfl) K
theorem by78 (K : Nat → Prop) : byC Try.prog 78 K = K 8 := byC_of (by kernel_rfl) K
theorem ty79 (K : Ty → Prop) : tyC Try.prog 79 K = K .func := tyC_of (by kernel_rfl) K
theorem by79 (K : Nat → Prop) : byC Try.prog 79 K = K 8 := byC_of (by kernel_rfl) K
theorem ty80 (K : Ty → Prop) : tyC Try.prog 80 K = K .func := tyC_of (by kernel_rfl) K
theorem by80 (K : Nat → Prop) : byC Try.prog 80 K = K 8 := byC_of (by kernel_rfl) K
theorem ty81 (K : Ty → Prop) : tyC Try.prog 81 K = K .func := tyC_of (by kernel_rfl) K
theorem by81 (K : Nat → Prop) : byC Try.prog 81 K = K 8 := byC_of (by kernel_rfl) K
theorem ty82 (K : Ty → Prop) : tyC Try.prog 82 K = K .func := tyC_of (by kernel_rfl) K
theorem by82 (K : Nat → Prop) : byC Try.prog 82 K = K 8 := byC_of (by kernel_rfl) K
theorem ty84 (K : Ty → Prop) : tyC Try.prog 84 K = K .func := tyC_of (by kernel_rfl) K
theorem by84 (K : Nat → Prop) : byC Try.prog 84 K = K 8 := byC_of (by kernel_rfl) K
theorem ty86 (K : Ty → Prop) : tyC Try.prog 86 K = K .func := tyC_of (by kernel_rfl) K
theorem by86 (K : Nat → Prop) : byC Try.prog 86 K = K 8 := byC_of (by kernel_rfl) K
theorem ty87 (K : Ty → Prop) : tyC Try.prog 87 K = K .func := tyC_of (by kernel_rfl) K
theorem by87 (K : Nat → Prop) : byC Try.prog 87 K = K 8 := byC_of (by kernel_rfl) K
theorem ty88 (K : Ty → Prop) : tyC Try.prog 88 K = K .func := tyC_of (by kernel_rfl) K
theorem by88 (K : Nat → Prop) : byC Try.prog 88 K = K 8 := byC_of (by kernel_rfl) K
theorem ty89 (K : Ty → Prop) : tyC Try.prog 89 K = K .func := tyC_of (by kernel_rfl) K
theorem by89 (K : Nat → Prop) : byC Try.prog 89 K = K 8 := byC_of (by kernel_rfl) K
theorem ty90 (K : Ty → Prop) : tyC Try.prog 90 K = K .func := tyC_of (by kernel_rfl) K
theorem by90 (K : Nat → Prop) : byC Try.prog 90 K = K 8 := byC_of (by kernel_rfl) K
theorem ty91 (K : Ty → Prop) : tyC Try.prog 91 K = K .func := tyC_of (by kernel_rfl) K
theorem by91 (K : Nat → Prop) : byC Try.prog 91 K = K 8 := byC_of (by kernel_rfl) K
theorem ty92 (K : Ty → Prop) : tyC Try.prog 92 K = K (.slice 97) := tyC_of (by kernel_rfl) K
theorem by92 (K : Nat → Prop) : byC Try.prog 92 K = K 24 := byC_of (by kernel_rfl) K
theorem ty93 (K : Ty → Prop) : tyC Try.prog 93 K = K (.st [(.int .i64), (.slice 5), (.slice 97), .bool, .bool, (.int .i64), (.slice 3)]) := tyC_of (by kernel_rfl) K
theorem by93 (K : Nat → Prop) : byC Try.prog 93 K = K 96 := byC_of (by kernel_rfl) K
theorem ty94 (K : Ty → Prop) : tyC Try.prog 94 K = K (.st [(.int .i64), (.slice 5), (.slice 97), .bool, .bool, (.int .i64), (.slice 3)]) := tyC_of (by kernel_rfl) K
theorem by94 (K : Nat → Prop) : byC Try.prog 94 K = K 96 := byC_of (by kernel_rfl) K
theorem ty95 (K : Ty → Prop) : tyC Try.prog 95 K = K .func := tyC_of (by kernel_rfl) K
theorem by95 (K : Nat → Prop) : byC Try.prog 95 K = K 8 := byC_of (by kernel_rfl) K
theorem ty96 (K : Ty → Prop) : tyC Try.prog 96 K = K (.st [(.int .i64), (.slice 5)]) := tyC_of (by kernel_rfl) K
theorem by96 (K : Nat → Prop) : byC Try.prog 96 K = K 32 := byC_of (by kernel_rfl) K
theorem ty97 (K : Ty → Prop) : tyC Try.prog 97 K = K (.st [(.int .i64), (.slice 5)]) := tyC_of (by kernel_rfl) K
theorem by97 (K : Nat → Prop) : byC Try.prog 97 K = K 32 := byC_of (by kernel_rfl) K
theorem ty98 (K : Ty → Prop) : tyC Try.prog 98 K = K .func := tyC_of (by kernel_rfl) K
theorem by98 (K : Nat → Prop) : byC Try.prog 98 K = K 8 := byC_of (by kernel_rfl) K
theorem ty99 (K : Ty → Prop) : tyC Try.prog 99 K = K (.slice 9) := tyC_of (by kernel_rfl) K
theorem by99 (K : Nat → Prop) : byC Try.prog 99 K = K 24 := byC_of (by kernel_rfl) K
theorem ty100 (K : Ty → Prop) : tyC Try.prog 100 K = K (.st [(.int .i64), (.slice 9), (.slice 3), (.slice 9), .bool, (.int .i64), (.slice 3)]) := tyC_of (by kernel_rfl) K
theorem by100 (K : Nat → Prop) : byC Try.prog 100 K = K 120 := byC_of (by kernel_rfl) K
theorem ty101 (K : Ty → Prop) : tyC Try.prog 101 K = K (.st [(.int .i64), (.slice 9), (.slice 3), (.slice 9), .bool, (.int .i64), (.slice 3)]) := tyC_of (by kernel_rfl) K
theorem by101 (K : Nat → Prop) : byC Try.prog 101 K = K 120 := byC_of (by kernel_rfl) K
theorem ty102 (K : Ty → Prop) : tyC Try.prog 102 K = K .func := tyC_of (by kernel_rfl) K
theorem by102 (K : Nat → Prop) : byC Try.prog 102 K = K 8 := byC_of (by kernel_rfl) K
theorem ty104 (K : Ty → Prop) : tyC Try.prog 104 K = K .func := tyC_of (by kernel_rfl) K
theorem by104 (K : Nat → Prop) : byC Try.prog 104 K = K 8 := byC_of (by kernel_rfl) K
theorem ty105 (K : Ty → Prop) : tyC Try.prog 105 K = K .func := tyC_of (by kernel_rfl) K
theorem by105 (K : Nat → Prop) : byC Try.prog 105 K = K 8 := byC_of (by kernel_rfl) K
theorem ty106 (K : Ty → Prop) : tyC Try.prog 106 K = K .func := tyC_of (by kernel_rfl) K
theorem by106 (K : Nat → Prop) : byC Try.prog 106 K = K 8 := byC_of (by kernel_rfl) K
theorem ty107 (K : Ty → Prop) : tyC Try.prog 107 K = K (.st [(.ptr 94), (.int .i64), (.int .i64), (.slice 5), .bool]) := tyC_of (by kernel_rfl) K
theorem by107 (K : Nat → Prop) : byC Try.prog 107 K = K 56 := byC_of (by kernel_rfl) K
theorem ty108 (K : Ty → Prop) : tyC Try.prog 108 K = K (.st [(.ptr 94), (.int .i64), (.int .i64), (.slice 5), .bool]) := tyC_of (by kernel_rfl) K
theorem by108 (K : Nat → Prop) : byC Try.prog 108 K = K 56 := byC_of (by kernel_rfl) K
theorem ty110 (K : Ty → Prop) : tyC Try.prog 110 K = K .func := tyC_of (by kernel_rfl) K
theorem by110 (K : Nat → Prop) : byC Try.prog 110 K = K 8 := byC_of (by kernel_rfl) K
theorem ty111 (K : Ty → Prop) : tyC Try.prog 111 K = K .func := tyC_of (by kernel_rfl) K
theorem by111 (K : Nat → Prop) : byC Try.prog 111 K = K 8 := byC_of (by kernel_rfl) K
theorem ty112 (K : Ty → Prop) : tyC Try.prog 112 K = K .func := tyC_of (by kernel_rfl) K
theorem by112 (K : Nat → Prop) : byC Try.prog 112 K = K 8 := byC_of (by kernel_rfl) K
theorem ty113 (K : Ty → Prop) : tyC Try.prog 113 K = K .func := tyC_of (by kernel_rfl) K
theorem by113 (K : Nat → Prop) : byC Try.prog 113 K = K 8 := byC_of (by kernel_rfl) K
theorem ty115 (K : Ty → Prop) : tyC Try.prog 115 K = K .func := tyC_of (by kernel_rfl) K
theorem by115 (K : Nat → Prop) : byC Try.prog 115 K = K 8 := byC_of (by kernel_rfl) K
theorem ty116 (K : Ty → Prop) : tyC Try.prog 116 K = K .func := tyC_of (by kernel_rfl) K
theorem by116 (K : Nat → Prop) : byC Try.prog 116 K = K 8 := byC_of (by kernel_rfl) K
theorem ty117 (K : Ty → Prop) : tyC Try.prog 117 K = K .func := tyC_of (by kernel_rfl) K
theorem by117 (K : Nat → Prop) : byC Try.prog 117 K = K 8 := byC_of (by kernel_rfl) K
theorem ty118 (K : Ty → Prop) : tyC Try.prog 118 K = K .func := tyC_of (by kernel_rfl) K
theorem by118 (K : Nat → Prop) : byC Try.prog 118 K = K 8 := byC_of (by kernel_rfl) K
theorem ty120 (K : Ty → Prop) : tyC Try.prog 120 K = K .func := tyC_of (by kernel_rfl) K
theorem by120 (K : Nat → Prop) : byC Try.prog 120 K = K 8 := byC_of (by kernel_rfl) K
theorem ty121 (K : Ty → Prop) : tyC Try.prog 121 K = K .func := tyC_of (by kernel_rfl) K
theorem by121 (K : Nat → Prop) : byC Try.prog 121 K = K 8 := byC_of (by kernel_rfl) K
theorem ty122 (K : Ty → Prop) : tyC Try.prog 122 K = K .func := tyC_of (by kernel_rfl) K
theorem by122 (K : Nat → Prop) : byC Try.prog 122 K = K 8 := byC_of (by kernel_rfl) K
theorem ty124 (K : Ty → Prop) : tyC Try.prog 124 K = K .func := tyC_of (by kernel_rfl) K
theorem by124 (K : Nat → Prop) : byC Try.prog 124 K = K 8 := byC_of (by kernel_rfl) K
theorem ty125 (K : Ty → Prop) : tyC Try.prog 125 K = K .func := tyC_of (by kernel_rfl) K
theorem by125 (K : Nat → Prop) : byC Try.prog 125 K = K 8 := byC_of (by kernel_rfl) K
theorem ty126 (K : Ty → Prop) : tyC Try.prog 126 K = K .func := tyC_of (by kernel_rfl) K
theorem by126 (K : Nat → Prop) : byC Try.prog 126 K = K 8 := byC_of (by kernel_rfl) K
theorem ty127 (K : Ty → Prop) : tyC Try.prog 127 K = K .func := tyC_of (by kernel_rfl) K
theorem by127 (K : Nat → Prop) : byC Try.prog 127 K = K 8 := byC_of (by kernel_rfl) K
theorem ty128 (K : Ty → Prop) : tyC Try.prog 128 K = K .func := tyC_of (by kernel_rfl) K
theorem by128 (K : Nat → Prop) : byC Try.prog 128 K = K 8 := byC_of (by kernel_rfl) K
theorem ty129 (K : Ty → Prop) : tyC Try.prog 129 K = K .func := tyC_of (by kernel_rfl) K
theorem by129 (K : Nat → Prop) : byC Try.prog 129 K = K 8 := byC_of (by kernel_rfl) K
theorem ty130 (K : Ty → Prop) : tyC Try.prog 130 K = K .func := tyC_of (by kernel_rfl) K
theorem by130 (K : Nat → Prop) : byC Try.prog 130 K = K 8 := byC_of (by kernel_rfl) K
theorem ty131 (K : Ty → Prop) : tyC Try.prog 131 K = K (.slice 163) := tyC_of (by kernel_rfl) K
theorem by131 (K : Nat → Prop) : byC Try.prog 131 K = K 24 := byC_of (by kernel_rfl) K
theorem ty132 (K : Ty → Prop) : tyC Try.prog 132 K = K .func := tyC_of (by kernel_rfl) K
theorem by132 (K : Nat → Prop) : byC Try.prog 132 K = K 8 := byC_of (by kernel_rfl) K
theorem ty133 (K : Ty → Prop) : tyC Try.prog 133 K = K .func := tyC_of (by kernel_rfl) K
theorem by133 (K : Nat → Prop) : byC Try.prog 133 K = K 8 := byC_of (by kernel_rfl) K
theorem ty135 (K : Ty → Prop) : tyC Try.prog 135 K = K .func := tyC_of (by kernel_rfl) K
theorem by135 (K : Nat → Prop) : byC Try.prog 135 K = K 8 := byC_of (by kernel_rfl) K
theorem ty136 (K : Ty → Prop) : tyC Try.prog 136 K = K .func := tyC_of (by kernel_rfl) K
theorem by136 (K : Nat → Prop) : byC Try.prog 136 K = K 8 := byC_of (by kernel_rfl) K
theorem ty137 (K : Ty → Prop) : tyC Try.prog 137 K = K .func := tyC_of (by kernel_rfl) K
theorem by137 (K : Nat → Prop) : byC Try.prog 137 K = K 8 := byC_of (by kernel_rfl) K
theorem ty138 (K : Ty → Prop) : tyC Try.prog 138 K = K (.st [(.arr 32 5 (.int .u8)), (.arr 32 5 (.int .u8))]) := tyC_of (by kernel_rfl) K
theorem by138 (K : Nat → Prop) : byC Try.prog 138 K = K 64 := byC_of (by kernel_rfl) K
theorem ty139 (K : Ty → Prop) : tyC Try.prog 139 K = K (.st [(.arr 32 5 (.int .u8)), (.arr 32 5 (.int .u8))]) := tyC_of (by kernel_rfl) K
theorem by139 (K : Nat → Prop) : byC Try.prog 139 K = K 64 := byC_of (by kernel_rfl) K
theorem ty140 (K : Ty → Prop) : tyC Try.prog 140 K = K .func := tyC_of (by kernel_rfl) K
theorem by140 (K : Nat → Prop) : byC Try.prog 140 K = K 8 := byC_of (by kernel_rfl) K
theorem ty141 (K : Ty → Prop) : tyC Try.prog 141 K = K (.int .u64) := tyC_of (by kernel_rfl) K
theorem by141 (K : Nat → Prop) : byC Try.prog 141 K = K 8 := byC_of (by kernel_rfl) K
theorem ty143 (K : Ty → Prop) : tyC Try.prog 143 K = K .func := tyC_of (by kernel_rfl) K
theorem by143 (K : Nat → Prop) : byC Try.prog 143 K = K 8 := byC_of (by kernel_rfl) K
theorem ty144 (K : Ty → Prop) : tyC Try.prog 144 K = K .func := tyC_of (by kernel_rfl) K
theorem by144 (K : Nat → Prop) : byC Try.prog 144 K = K 8 := byC_of (by kernel_rfl) K
theorem ty145 (K : Ty → Prop) : tyC Try.prog 145 K = K .func := tyC_of (by kernel_rfl) K
theorem by145 (K : Nat → Prop) : byC Try.prog 145 K = K 8 := byC_of (by kernel_rfl) K
theorem ty146 (K : Ty → Prop) : tyC Try.prog 146 K = K .func := tyC_of (by kernel_rfl) K
theorem by146 (K : Nat → Prop) : byC Try.prog 146 K = K 8 := byC_of (by kernel_rfl) K
theorem ty147 (K : Ty → Prop) : tyC Try.prog 147 K = K .func := tyC_of (by kernel_rfl) K
theorem by147 (K : Nat → Prop) : byC Try.prog 147 K = K 8 := byC_of (by kernel_rfl) K
theorem ty148 (K : Ty → Prop) : tyC Try.prog 148 K = K (.int .u32) := tyC_of (by kernel_rfl) K
theorem by148 (K : Nat → Prop) : byC Try.prog 148 K = K 4 := byC_of (by kernel_rfl) K
theorem ty149 (K : Ty → Prop) : tyC Try.prog 149 K = K (.slice 148) := tyC_of (by kernel_rfl) K
theorem by149 (K : Nat → Prop) : byC Try.prog 149 K = K 24 := byC_of (by kernel_rfl) K
theorem ty150 (K : Ty → Prop) : tyC Try.prog 150 K = K .func := tyC_of (by kernel_rfl) K
theorem by150 (K : Nat → Prop) : byC Try.prog 150 K = K 8 := byC_of (by kernel_rfl) K
theorem ty151 (K : Ty → Prop) : tyC Try.prog 151 K = K .func := tyC_of (by kernel_rfl) K
theorem by151 (K : Nat → Prop) : byC Try.prog 151 K = K 8 := byC_of (by kernel_rfl) K
theorem ty152 (K : Ty → Prop) : tyC Try.prog 152 K = K .func := tyC_of (by kernel_rfl) K
theorem by152 (K : Nat → Prop) : byC Try.prog 152 K = K 8 := byC_of (by kernel_rfl) K
theorem ty153 (K : Ty → Prop) : tyC Try.prog 153 K = K .func := tyC_of (by kernel_rfl) K
theorem by153 (K : Nat → Prop) : byC Try.prog 153 K = K 8 := byC_of (by kernel_rfl) K
theorem ty154 (K : Ty → Prop) : tyC Try.prog 154 K = K .func := tyC_of (by kernel_rfl) K
theorem by154 (K : Nat → Prop) : byC Try.prog 154 K = K 8 := byC_of (by kernel_rfl) K
theorem ty155 (K : Ty → Prop) : tyC Try.prog 155 K = K .func := tyC_of (by kernel_rfl) K
theorem by155 (K : Nat → Prop) : byC Try.prog 155 K = K 8 := byC_of (by kernel_rfl) K
theorem ty156 (K : Ty → Prop) : tyC Try.prog 156 K = K (.ptr 170) := tyC_of (by kernel_rfl) K
theorem by156 (K : Nat → Prop) : byC Try.prog 156 K = K 8 := byC_of (by kernel_rfl) K
theorem ty157 (K : Ty → Prop) : tyC Try.prog 157 K = K .func := tyC_of (by kernel_rfl) K
theorem by157 (K : Nat → Prop) : byC Try.prog 157 K = K 8 := byC_of (by kernel_rfl) K
theorem ty158 (K : Ty → Prop) : tyC Try.prog 158 K = K .func := tyC_of (by kernel_rfl) K
theorem by158 (K : Nat → Prop) : byC Try.prog 158 K = K 8 := byC_of (by kernel_rfl) K
theorem ty159 (K : Ty → Prop) : tyC Try.prog 159 K = K .func := tyC_of (by kernel_rfl) K
theorem by159 (K : Nat → Prop) : byC Try.prog 159 K = K 8 := byC_of (by kernel_rfl) K
theorem ty160 (K : Ty → Prop) : tyC Try.prog 160 K = K .func := tyC_of (by kernel_rfl) K
theorem by160 (K : Nat → Prop) : byC Try.prog 160 K = K 8 := byC_of (by kernel_rfl) K
theorem ty161 (K : Ty → Prop) : tyC Try.prog 161 K = K .func := tyC_of (by kernel_rfl) K
theorem by161 (K : Nat → Prop) : byC Try.prog 161 K = K 8 := byC_of (by kernel_rfl) K
theorem ty162 (K : Ty → Prop) : tyC Try.prog 162 K = K (.st [.bool]) := tyC_of (by kernel_rfl) K
theorem by162 (K : Nat → Prop) : byC Try.prog 162 K = K 1 := byC_of (by kernel_rfl) K
theorem ty163 (K : Ty → Prop) : tyC Try.prog 163 K = K (.st [.bool]) := tyC_of (by kernel_rfl) K
theorem by163 (K : Nat → Prop) : byC Try.prog 163 K = K 1 := byC_of (by kernel_rfl) K
theorem ty164 (K : Ty → Prop) : tyC Try.prog 164 K = K .func := tyC_of (by kernel_rfl) K
theorem by164 (K : Nat → Prop) : byC Try.prog 164 K = K 8 := byC_of (by kernel_rfl) K
theorem ty165 (K : Ty → Prop) : tyC Try.prog 165 K = K (.int .u64) := tyC_of (by kernel_rfl) K
theorem by165 (K : Nat → Prop) : byC Try.prog 165 K = K 8 := byC_of (by kernel_rfl) K
theorem ty166 (K : Ty → Prop) : tyC Try.prog 166 K = K .func := tyC_of (by kernel_rfl) K
theorem by166 (K : Nat → Prop) : byC Try.prog 166 K = K 8 := byC_of (by kernel_rfl) K
theorem ty167 (K : Ty → Prop) : tyC Try.prog 167 K = K .func := tyC_of (by kernel_rfl) K
theorem by167 (K : Nat → Prop) : byC Try.prog 167 K = K 8 := byC_of (by kernel_rfl) K
theorem ty168 (K : Ty → Prop) : tyC Try.prog 168 K = K (.arr 8 148 (.int .u32)) := tyC_of (by kernel_rfl) K
theorem by168 (K : Nat → Prop) : byC Try.prog 168 K = K 32 := byC_of (by kernel_rfl) K
theorem ty169 (K : Ty → Prop) : tyC Try.prog 169 K = K (.st [(.arr 8 148 (.int .u32)), (.slice 5), (.int .i64)]) := tyC_of (by kernel_rfl) K
theorem by169 (K : Nat → Prop) : byC Try.prog 169 K = K 64 := byC_of (by kernel_rfl) K
theorem ty170 (K : Ty → Prop) : tyC Try.prog 170 K = K (.st [(.arr 8 148 (.int .u32)), (.slice 5), (.int .i64)]) := tyC_of (by kernel_rfl) K
theorem by170 (K : Nat → Prop) : byC Try.prog 170 K = K 64 := byC_of (by kernel_rfl) K
theorem ty171 (K : Ty → Prop) : tyC Try.prog 171 K = K (.arr 64 148 (.int .u32)) := tyC_of (by kernel_rfl) K
theorem by171 (K : Nat → Prop) : byC Try.prog 171 K = K 256 := byC_of (by kernel_rfl) K
theorem ty172 (K : Ty → Prop) : tyC Try.prog 172 K = K .func := tyC_of (by kernel_rfl) K
theorem by172 (K : Nat → Prop) : byC Try.prog 172 K = K 8 := byC_of (by kernel_rfl) K
theorem ty173 (K : Ty → Prop) : tyC Try.prog 173 K = K .func := tyC_of (by kernel_rfl) K
theorem by173 (K : Nat → Prop) : byC Try.prog 173 K = K 8 := byC_of (by kernel_rfl) K
theorem ty174 (K : Ty → Prop) : tyC Try.prog 174 K = K .func := tyC_of (by kernel_rfl) K
theorem by174 (K : Nat → Prop) : byC Try.prog 174 K = K 8 := byC_of (by kernel_rfl) K
theorem ty182 (K : Ty → Prop) : tyC Try.prog 182 K = K .func := tyC_of (by kernel_rfl) K
theorem by182 (K : Nat → Prop) : byC Try.prog 182 K = K 8 := byC_of (by kernel_rfl) K
theorem ty183 (K : Ty → Prop) : tyC Try.prog 183 K = K (.ptr 5) := tyC_of (by kernel_rfl) K
theorem by183 (K : Nat → Prop) : byC Try.prog 183 K = K 8 := byC_of (by kernel_rfl) K
attribute [go_sem ↓] ty1 by1 ty2 by2 ty3 by3 ty4 by4 ty5 by5 ty9 by9 ty12 by12 ty15 by15 ty16 by16 ty17 by17 ty21 by21 ty22 by22 ty23 by23 ty24 by24 ty26 by26 ty27 by27 ty28 by28 ty29 by29 ty30 by30 ty32 by32 ty33 by33 ty34 by34 ty35 by35 ty36 by36 ty37 by37 ty38 by38 ty39 by39 ty40 by40 ty42 by42 ty43 by43 ty44 by44 ty45 by45 ty46 by46 ty47 by47 ty49 by49 ty50 by50 ty51 by51 ty52 by52 ty53 by53 ty54 by54 ty56 by56 ty57 by57 ty58 by58 ty59 by59 ty60 by60 ty61 by61 ty62 by62 ty63 by63 ty64 by64 ty65 by65 ty66 by66 ty67 by67 ty68 by68 ty69 by69 ty70 by70 ty71 by71 ty72 by72 ty73 by73 ty74 by74 ty75 by75 ty76 by76 ty77 by77 ty78 by78 ty79 by79 ty80 by80 ty81 by81 ty82 by82 ty84 by84 ty86 by86 ty87 by87 ty88 by88 ty89 by89 ty90 by90 ty91 by91 ty92 by92 ty93 by93 ty94 by94 ty95 by95 ty96 by96 ty97 by97 ty98 by98 ty99 by99 ty100 by100 ty101 by101 ty102 by102 ty104 by104 ty105 by105 ty106 by106 ty107 by107 ty108 by108 ty110 by110 ty111 by111 ty112 by112 ty113 by113 ty115 by115 ty116 by116 ty117 by117 ty118 by118 ty120 by120 ty121 by121 ty122 by122 ty124 by124 ty125 by125 ty126 by126 ty127 by127 ty128 by128 ty129 by129 ty130 by130 ty131 by131 ty132 by132 ty133 by133 ty135 by135 ty136 by136 ty137 by137 ty138 by138 ty139 by139 ty140 by140 ty141 by141 ty143 by143 ty144 by144 ty145 by145 ty146 by146 ty147 by147 ty148 by148 ty149 by149 ty150 by150 ty151 by151 ty152 by152 ty153 by153 ty154 by154 ty155 by155 ty156 by156 ty157 by157 ty158 by158 ty159 by159 ty160 by160 ty161 by161 ty162 by162 ty163 by163 ty164 by164 ty165 by165 ty166 by166 ty167 by167 ty168 by168 ty169 by169 ty170 by170 ty171 by171 ty172 by172 ty173 by173 ty174 by174 ty182 by182 ty183 by183
end Go.Proofs.Ytegbkbkcfcjkbaa
namespace Go.Proofs.Ytegbkbkcfcjkbaa
open Go Go.Sy
/-- planchet/planchetlaw12.DiskPlays -/
def pl4 : List (Nat × Plan) := [(19, [(0, [], none), (1, [], none), (2, [], none), (3, [0, 1, 2], none), (4, [2], none), (5, [], none), (6, [], none), (7, [], none), (8, [], none), (9, [], none)])]
/-- planchet/planchetlaw23.ExtractParts -/
def pl5 : List (Nat × Plan) := [(7, [(0, [], none), (1, [], none), (2, [], none), (3, [], none), (4, [2, 3], none), (5, [2, 3, 4], none), (6, [2, 3], none), (7, [2, 3], none), (8, [2, 3], none), (9, [], none), (10, [], none), (11, [], none), (12, [], none), (13, [], none), (14, [12, 13], none), (15, [12, 13, 14], none), (16, [12, 13], none), (17, [12, 13], none), (18, [12, 13], none), (19, [], none), (20, [], none), (21, [], none), (22, [], none), (23, [], none), (24, [], none)])]
/-- (*planchet/disk.Disk).Write -/
def pl13 : List (Nat × Plan) := [(5, [(6, [], none), (7, [6], none), (8, [], some [30]), (1, [6, 7, 8], none), (2, [6, 7, 8], none), (3, [6, 7, 8], none), (4, [6, 7, 8], none), (5, [6, 7, 8, 1, 2, 3, 4], none), (9, [1, 2, 3, 4], none), (10, [1, 2, 3, 4], none), (11, [], some [28, 34]), (0, [6, 7, 8, 1, 2, 3, 4, 5, 9, 10, 11], none), (12, [], none), (13, [], none), (14, [], some [37])])]
/-- (*planchet/disk.Disk).Sync -/
def pl14 : List (Nat × Plan) := [(6, [(0, [], none), (1, [0], none), (2, [0, 1], none), (3, [0, 1], none), (4, [0, 1], none), (5, [0, 1], none), (6, [], some [20, 21, 25])])]
/-- (*planchet/disk.Disk).Crash -/
def pl15 : List (Nat × Plan) := [(5, [(0, [], none), (1, [0], none), (2, [0, 1], none), (3, [0, 1, 2], none), (4, [0, 1], none), (5, [0, 1], none), (6, [0, 1, 2, 3, 4, 5], none), (7, [0, 1, 2, 3, 4, 5], none), (8, [0, 1, 2, 3, 4, 5], none), (9, [0, 1, 2, 3, 4, 5], none), (10, [0, 1], none), (11, [0, 1], none), (12, [], some [22, 23, 33])])]
/-- (*planchet/disk.Disk).Read -/
def pl17 : List (Nat × Plan) := [(5, [(0, [], none), (1, [0], none), (2, [0], none), (3, [0], none), (4, [0], none), (5, [0, 1, 2, 3, 4], none), (6, [0, 1, 2, 3, 4, 5], none), (7, [0, 1, 2, 3, 4, 5], none), (8, [0, 1, 2, 3, 4, 5], none), (9, [0, 1, 2, 3, 4, 5], none), (10, [0, 1, 2, 3, 4], none), (11, [0, 1, 2, 3, 4, 5, 6, 7, 8, 9, 10], none), (12, [0, 1, 2, 3, 4, 5, 6, 7, 8, 9, 10], none), (13, [0, 1, 2, 3, 4, 5, 6, 7, 8, 9, 10, 11, 12], none), (14, [0, 1, 2, 3, 4, 5, 6, 7, 8, 9, 10, 11, 12], none), (15, [0, 1, 2, 3, 4, 5, 6, 7, 8, 9, 10, 11, 12], none), (16, [0, 1, 2, 3, 4, 5, 6, 7, 8, 9, 10, 11, 12], none), (17, [0, 1, 2, 3, 4, 5, 6, 7, 8, 9, 10], none), (18, [0], none), (19, [], some [17]), (20, [], none)])]
/-- (*planchet/disk.Disk).Sectors -/
def pl19 : List (Nat × Plan) := [(3, [(0, [], none), (1, [], none), (2, [], none), (3, [], none), (4, [], none), (5, [0, 1, 2, 3, 4], none), (6, [0, 1, 2, 3, 4], none), (7, [0, 1, 2, 3, 4], none), (8, [0, 1, 2, 3, 4], none), (9, [0, 1, 2, 3, 4], none), (10, [], none), (11, [], none)])]
/-- planchet/planchetref12.New -/
def pl21 : List (Nat × Plan) := [(5, [(1, [], none), (2, [], none), (3, [], none), (4, [], none), (5, [1, 2, 3, 4], none), (6, [1, 2, 3, 4], none), (7, [1, 2, 3, 4], none), (8, [1, 2, 3, 4], none), (9, [], some [19, 23]), (0, [1, 2, 3, 4, 5, 6, 7, 8, 9], none), (10, [], none), (11, [], none), (12, [], some [26])])]
/-- planchet/planchetlaw12.step -/
def pl22 : List (Nat × Plan) := [(5, [(0, [], none), (1, [0], none), (2, [0], none), (3, [], some [30]), (4, [0, 1, 2, 3], none), (5, [0, 1, 2, 3], none), (6, [0, 1, 2, 3], none), (7, [0, 1, 2, 3], none), (8, [], some [33]), (9, [0, 1, 2, 3, 4, 5, 6, 7, 8], none), (10, [0, 1, 2, 3, 4, 5, 6, 7, 8], none), (11, [0, 1, 2, 3, 4, 5, 6, 7, 8], none), (12, [0, 1, 2, 3, 4, 5, 6, 7, 8], none), (13, [], none), (14, [], none)]), (6, [(1, [], none), (2, [1], none), (3, [1], none), (4, [1, 2, 3], none), (5, [], some [45, 47, 48]), (6, [1, 2, 3, 4, 5], none), (7, [1, 2, 3, 4, 5, 6], none), (8, [1, 2, 3, 4, 5, 6], none), (9, [1, 2, 3, 4, 5, 6, 7, 8], none), (10, [], some [50, 52, 53]), (0, [1, 2, 3, 4, 5, 6, 7, 8, 9, 10], none), (11, [0], none), (12, [11], none), (13, [], none)]), (23, [(0, [], none), (1, [], none), (2, [0, 1], none), (3, [], none), (4, [], none), (5, [0, 1, 2, 3, 4], none), (6, [4], none), (7, [], none), (8, [4, 7], none), (9, [], none)]), (25, [(0, [], none), (1, [], none), (2, [0, 1], none), (3, [0, 1], none), (4, [0, 1], none), (5, [0, 1], none), (6, [0, 1], none), (7, [0, 1, 2, 3, 4, 5, 6], none), (8, [0, 1, 2, 3, 4, 5, 6], none), (9, [0, 1, 2, 3, 4, 5, 6], none), (10, [0, 1, 2, 3, 4, 5, 6], none), (11, [0, 1], none), (12, [], none)]), (29, [(0, [], none), (1, [], none), (2, [], none), (3, [0, 1, 2], none), (4, [0, 1, 2], none), (5, [0, 1, 2], none), (6, [0, 1, 2], none), (7, [0, 1, 2], none), (8, [0, 1, 2, 3, 4, 5, 6, 7], none), (9, [0, 1, 2, 3, 4, 5, 6, 7], none), (10, [0, 1, 2, 3, 4, 5, 6, 7], none), (11, [0, 1, 2, 3, 4, 5, 6, 7], none), (12, [0, 1, 2], none), (13, [], none)])]
/-- planchet/extract.Part -/
def pl27 : List (Nat × Plan) := [(4, [(0, [], none), (1, [0], none), (2, [], none), (3, [], none), (4, [0, 1, 2, 3], none), (5, [0, 1, 2, 3, 4], none), (6, [0, 1, 2, 3], none), (7, [0, 1, 2, 3], none), (8, [], none), (9, [], none)]), (5, [(0, [], none), (1, [0], none), (2, [0, 1], none), (3, [0], none), (4, [0], none), (5, [], some [26]), (6, [0, 1, 2, 3, 4, 5], none), (7, [0, 1, 2, 3, 4, 5, 6], none), (8, [0, 1, 2, 3, 4, 5, 6, 7], none), (9, [0, 1, 2, 3, 4, 5, 6], none), (10, [0, 1, 2, 3, 4, 5, 6], none), (11, [], some [32]), (12, [], none), (13, [], none), (14, [], none)])]
/-- planchet/planchetref23.Part -/
def pl28 : List (Nat × Plan) := [(4, [(0, [], none), (1, [0], none), (2, [], none), (3, [], none), (4, [], none), (5, [0, 1, 2, 3, 4], none), (6, [0, 1, 2, 3, 4, 5], none), (7, [0, 1, 2, 3, 4], none), (8, [0, 1, 2, 3, 4], none), (9, [0, 1, 2, 3, 4], none), (10, [], none)])]
/-- planchet/slots.Open -/
def pl31 : List (Nat × Plan) := [(4, [(0, [], none), (1, [], none), (2, [], none), (3, [], none), (4, [], none), (5, [], none), (6, [], none), (7, [], none), (8, [], none), (9, [8], none), (10, [8], none), (11, [8], none), (12, [], none), (13, [], none)])]
/-- (*planchet/slots.Slots).Replace -/
def pl33 : List (Nat × Plan) := [(8, [(0, [], none), (1, [], none), (2, [], none), (3, [], none), (4, [0, 1, 2, 3], none), (5, [0, 1, 2, 3], none), (6, [0, 1, 2, 3], none), (7, [0, 1, 2, 3], none), (8, [0, 1, 2, 3, 4, 5, 6, 7], none), (9, [0, 1, 2, 3, 4, 5, 6, 7], none), (10, [0, 1, 2, 3], none), (11, [0, 1, 2, 3, 4, 5, 6, 7, 8, 9, 10], none), (12, [0, 1, 2, 3, 4, 5, 6, 7, 8, 9, 10, 11], none), (13, [0, 1, 2, 3, 4, 5, 6, 7, 8, 9, 10, 11, 12], none), (14, [0, 1, 2, 3, 4, 5, 6, 7, 8, 9, 10], none), (15, [], some [29, 36, 40]), (16, [], none)])]
/-- planchet/extract.Values -/
def pl35 : List (Nat × Plan) := [(4, [(0, [], none), (1, [0], none), (2, [0, 1], none), (3, [], none), (4, [0, 1, 2, 3], none), (5, [0, 1, 2, 3, 4], none), (6, [0, 1, 2, 3, 4, 5], none), (7, [], none), (8, [], none), (9, [], none), (10, [], none)])]
/-- planchet/extract.Logs -/
def pl40 : List (Nat × Plan) := [(3, [(0, [], none), (1, [0], none), (2, [0, 1], none), (3, [0, 1, 2], none), (4, [], none), (5, [0, 1, 2, 3, 4], none), (6, [0, 1, 2, 3, 4, 5], none), (7, [0, 1, 2, 3, 4, 5, 6], none), (8, [0, 1, 2, 3, 4, 5, 6, 7], none), (9, [], none), (10, [], none), (11, [], none), (12, [11], none), (13, [11, 12], none), (14, [], none), (15, [], none), (16, [], none)])]
/-- planchet/extract.TreeTrail -/
def pl42 : List (Nat × Plan) := [(10, [(0, [], none), (1, [], none), (2, [], none), (5, [], some [10]), (3, [0, 1, 2, 5], none), (4, [0, 1, 2, 5], none), (6, [], none)])]
/-- planchet/planchetref03.Same -/
def pl44 : List (Nat × Plan) := [(6, [(0, [], none), (1, [0], none), (2, [], none), (3, [], none), (4, [], none), (5, [0, 1, 2, 3, 4], none), (6, [0, 1, 2, 3, 4, 5], none), (7, [0, 1, 2, 3, 4], none), (8, [0, 1, 2, 3, 4], none), (9, [0, 1, 2, 3, 4], none), (10, [], none)])]
/-- planchet/planchetref23.Tree -/
def pl45 : List (Nat × Plan) := [(3, [(0, [], none), (1, [0], none), (2, [], some [23]), (3, [0, 1, 2], none), (4, [], some [25]), (5, [], none)])]
/-- planchet/extract.GrowTrail -/
def pl47 : List (Nat × Plan) := [(8, [(0, [], none), (1, [], none), (2, [], none), (5, [], some [11]), (3, [0, 1, 2, 5], none), (4, [0, 1, 2, 5], none), (6, [], none)])]
/-- planchet/planchetref23.Grow -/
def pl49 : List (Nat × Plan) := [(3, [(0, [], none), (4, [0], none), (5, [], some [11]), (1, [0, 4, 5], none), (2, [0, 4, 5], none), (3, [0, 4, 5], none), (6, [], none)]), (5, [(0, [], none), (1, [0], none), (2, [], some [11]), (3, [], none)]), (6, [(0, [], none), (1, [], none), (2, [], none), (3, [0, 1, 2], none), (4, [], some [11]), (5, [], none)]), (8, [(0, [], none), (1, [0], none), (2, [], some [11]), (3, [], none)])]
/-- planchet/extract.Trees -/
def pl50 : List (Nat × Plan) := [(4, [(0, [], none), (1, [0], none), (2, [], none), (3, [0, 1, 2], none), (4, [0, 1, 2, 3], none), (5, [], none), (6, [], none), (7, [], none), (8, [7], none), (9, [7, 8], none), (10, [], none), (11, [], none), (12, [], none)])]
/-- planchet/proof.Present -/
def pl51 : List (Nat × Plan) := [(1, [(0, [], none), (1, [0], none), (2, [], none), (3, [], none), (4, [0, 1, 2, 3], none), (5, [0, 1, 2, 3, 4], none), (6, [0, 1, 2, 3, 4, 5], none), (7, [], none), (8, [], none)])]
/-- planchet/proof.Absent -/
def pl52 : List (Nat × Plan) := [(1, [(0, [], none), (1, [], none), (2, [], none), (3, [0, 1, 2], none), (4, [0, 1, 2, 3], none), (5, [0, 1, 2, 3, 4], none), (6, [], none), (7, [], none)])]
/-- (*planchet/disk.Disk).put -/
def pl56 : List (Nat × Plan) := [(1, [(0, [], none), (1, [], none), (2, [], none), (3, [], none), (4, [0, 1, 2, 3], none), (5, [0, 1, 2, 3], none), (6, [0, 1, 2, 3, 4, 5], none), (7, [0, 1, 2, 3, 4, 5], none), (8, [0, 1, 2, 3, 4, 5], none), (9, [0, 1, 2, 3, 4, 5], none), (10, [0, 1, 2, 3], none), (11, [], none), (12, [0, 1, 2, 3, 4, 5, 6, 7, 8, 9, 10, 11], none), (13, [0, 1, 2, 3, 4, 5, 6, 7, 8, 9, 10, 11], none), (14, [0, 1, 2, 3, 4, 5, 6, 7, 8, 9, 10, 11, 12, 13], none), (15, [0, 1, 2, 3, 4, 5, 6, 7, 8, 9, 10, 11], none), (16, [], some [17])])]
/-- (*planchet/planchetref12.Disk).Write -/
def pl57 : List (Nat × Plan) := [(6, [(1, [], none), (2, [], none), (3, [], none), (4, [], none), (5, [1, 2, 3, 4], none), (6, [1, 2, 3, 4], none), (7, [1, 2, 3, 4], none), (8, [], some [45, 48]), (0, [1, 2, 3, 4, 5, 6, 7, 8], none), (9, [], none), (10, [], none), (11, [], some [51])])]
/-- (*planchet/planchetref12.Disk).Sync -/
def pl59 : List (Nat × Plan) := [(8, [(0, [], none), (1, [], none), (2, [], none), (3, [], none), (4, [0, 1, 2, 3], none), (5, [0, 1, 2, 3], none), (6, [0, 1, 2, 3], none), (7, [0, 1, 2, 3], none), (8, [0, 1, 2, 3, 4, 5, 6, 7], none), (9, [0, 1, 2, 3], none), (10, [0, 1, 2, 3], none), (11, [0, 1, 2, 3, 4, 5, 6, 7, 8, 9, 10], none), (12, [0, 1, 2, 3, 4, 5, 6, 7, 8, 9, 10], none), (13, [0, 1, 2, 3, 4, 5, 6, 7, 8, 9, 10], none), (14, [0, 1, 2, 3, 4, 5, 6, 7, 8, 9, 10], none), (15, [0, 1, 2, 3, 4, 5, 6, 7, 8, 9, 10, 11, 12, 13, 14], none), (16, [0, 1, 2, 3, 4, 5, 6, 7, 8, 9, 10], none), (17, [0, 1, 2, 3, 4, 5, 6, 7, 8, 9, 10], none), (18, [], none), (19, [], some [37])])]
/-- (*planchet/planchetref12.Disk).Crash -/
def pl61 : List (Nat × Plan) := [(7, [(0, [], none), (1, [], none), (2, [], none), (3, [], none), (4, [0, 1, 2, 3], none), (5, [0, 1, 2, 3], none), (6, [0, 1, 2, 3], none), (7, [0, 1, 2, 3], none), (8, [0, 1, 2, 3, 4, 5, 6, 7], none), (9, [0, 1, 2, 3], none), (10, [0, 1, 2, 3], none), (11, [0, 1, 2, 3, 4, 5, 6, 7, 8, 9, 10], none), (12, [0, 1, 2, 3, 4, 5, 6, 7, 8, 9, 10], none), (13, [0, 1, 2, 3, 4, 5, 6, 7, 8, 9, 10], none), (14, [0, 1, 2, 3, 4, 5, 6, 7, 8, 9, 10], none), (15, [0, 1, 2, 3, 4, 5, 6, 7, 8, 9, 10, 11, 12, 13, 14], none), (16, [0, 1, 2, 3, 4, 5, 6, 7, 8, 9, 10, 11, 12, 13, 14], none), (17, [0, 1, 2, 3, 4, 5, 6, 7, 8, 9, 10, 11, 12, 13, 14], none), (18, [0, 1, 2, 3, 4, 5, 6, 7, 8, 9, 10, 11, 12, 13, 14], none), (19, [0, 1, 2, 3, 4, 5, 6, 7, 8, 9, 10, 11, 12, 13, 14, 15, 16, 17, 18], none), (20, [0, 1, 2, 3, 4, 5, 6, 7, 8, 9, 10, 11, 12, 13, 14], none), (21, [0, 1, 2, 3, 4, 5, 6, 7, 8, 9, 10, 11, 12, 13, 14], none), (22, [0, 1, 2, 3, 4, 5, 6, 7, 8, 9, 10], none), (23, [0, 1, 2, 3, 4, 5, 6, 7, 8, 9, 10], none), (24, [0, 1, 2, 3, 4, 5, 6, 7, 8, 9, 10, 11, 12, 13, 14, 15, 16, 17, 18, 19, 20, 21, 22, 23], none), (25, [0, 1, 2, 3, 4, 5, 6, 7, 8, 9, 10, 11, 12, 13, 14, 15, 16, 17, 18, 19, 20, 21, 22, 23], none), (26, [0, 1, 2, 3, 4, 5, 6, 7, 8, 9, 10, 11, 12, 13, 14, 15, 16, 17, 18, 19, 20, 21, 22, 23], none), (27, [0, 1, 2, 3, 4, 5, 6, 7, 8, 9, 10, 11, 12, 13, 14, 15, 16, 17, 18, 19, 20, 21, 22, 23], none), (28, [0, 1, 2, 3, 4, 5, 6, 7, 8, 9, 10, 11, 12, 13, 14, 15, 16, 17, 18, 19, 20, 21, 22, 23, 24, 25, 26, 27], none), (29, [0, 1, 2, 3, 4, 5, 6, 7, 8, 9, 10, 11, 12, 13, 14, 15, 16, 17, 18, 19, 20, 21, 22, 23], none), (30, [0, 1, 2, 3, 4, 5, 6, 7, 8, 9, 10, 11, 12, 13, 14, 15, 16, 17, 18, 19, 20, 21, 22, 23], none), (31, [0, 1, 2, 3, 4, 5, 6, 7, 8, 9, 10, 11, 12, 13, 14, 15, 16, 17, 18, 19, 20, 21, 22, 23, 24, 25, 26, 27, 28, 29, 30], none), (32, [0, 1, 2, 3, 4, 5, 6, 7, 8, 9, 10], none), (33, [], none), (34, [], some [60])])]
/-- (*planchet/planchetref12.Disk).Restore -/
def pl63 : List (Nat × Plan) := [(3, [(0, [], none), (1, [], none), (2, [], none), (3, [], none), (4, [0, 1, 2, 3], none), (5, [0, 1, 2, 3, 4], none), (6, [0, 1, 2, 3, 4, 5], none), (7, [0, 1, 2, 3, 4, 5, 6], none), (8, [0, 1, 2, 3, 4, 5, 6], none), (9, [0, 1, 2, 3, 4, 5, 6], none), (10, [0, 1, 2, 3, 4, 5, 6], none), (11, [0, 1, 2, 3, 4, 5], none), (12, [0, 1, 2, 3, 4, 5, 6, 7, 8, 9, 10, 11], none), (13, [0, 1, 2, 3, 4, 5, 6, 7, 8, 9, 10, 11], none), (14, [0, 1, 2, 3, 4, 5, 6, 7, 8, 9, 10, 11, 12, 13], none), (15, [0, 1, 2, 3, 4, 5, 6, 7, 8, 9, 10, 11, 12, 13], none), (16, [0, 1, 2, 3, 4, 5, 6, 7, 8, 9, 10, 11, 12, 13], none), (17, [0, 1, 2, 3, 4, 5, 6, 7, 8, 9, 10, 11, 12, 13], none), (18, [0, 1, 2, 3, 4, 5, 6, 7, 8, 9, 10, 11], none), (19, [0, 1, 2, 3, 4], none), (20, [], none), (21, [], some [34])])]
/-- planchet/slots.Open$1 -/
def pl68 : List (Nat × Plan) := [(4, [(0, [], none), (2, [0], none), (4, [], none), (5, [], none), (6, [], some [35]), (1, [0, 2, 4, 5, 6], none), (3, [0, 2, 4, 5, 6, 1], none), (7, [], none), (8, [], none), (9, [], some [37])])]
/-- planchet/commit.Made -/
def pl72 : List (Nat × Plan) := [(3, [(0, [], none), (1, [0], none), (2, [0, 1], none), (3, [0], none), (4, [], none), (5, [], some [4]), (6, [], none)])]
/-- planchet/planchetref01.Sum -/
def pl73 : List (Nat × Plan) := [(12, [(0, [], none), (1, [0], none), (2, [0, 1], none), (3, [0, 1, 2], none), (4, [0, 1], none), (5, [0, 1], none), (6, [0, 1], none), (7, [0, 1], none), (8, [0, 1, 2, 3, 4, 5, 6, 7], none), (9, [0, 1, 2, 3, 4, 5, 6, 7, 8], none), (10, [0, 1, 2, 3, 4, 5, 6, 7, 8], none), (11, [0, 1, 2, 3, 4, 5, 6, 7], none), (12, [0, 1, 2, 3, 4, 5, 6, 7], none), (13, [0, 1, 2, 3, 4, 5, 6, 7], none), (14, [0, 1, 2, 3, 4, 5, 6, 7], none), (15, [0, 1], none), (16, [0, 1, 2, 3, 4, 5, 6, 7, 8, 9, 10, 11, 12, 13, 14, 15], none), (17, [0, 1, 2, 3, 4, 5, 6, 7, 8, 9, 10, 11, 12, 13, 14, 15, 16], none), (18, [0, 1, 2, 3, 4, 5, 6, 7, 8, 9, 10, 11, 12, 13, 14, 15, 16], none), (19, [0, 1, 2, 3, 4, 5, 6, 7, 8, 9, 10, 11, 12, 13, 14, 15], none), (20, [0, 1, 2, 3, 4, 5, 6, 7, 8, 9, 10, 11, 12, 13, 14, 15], none), (21, [0, 1, 2, 3, 4, 5, 6, 7, 8, 9, 10, 11, 12, 13, 14, 15], none), (22, [0, 1, 2, 3, 4, 5, 6, 7, 8, 9, 10, 11, 12, 13, 14, 15], none), (23, [0, 1], none), (24, [0, 1, 2, 3, 4, 5, 6, 7, 8, 9, 10, 11, 12, 13, 14, 15, 16, 17, 18, 19, 20, 21, 22, 23], none), (25, [0, 1, 2, 3, 4, 5, 6, 7, 8, 9, 10, 11, 12, 13, 14, 15, 16, 17, 18, 19, 20, 21, 22, 23, 24], none), (26, [0, 1, 2, 3, 4, 5, 6, 7, 8, 9, 10, 11, 12, 13, 14, 15, 16, 17, 18, 19, 20, 21, 22, 23, 24], none), (27, [0, 1, 2, 3, 4, 5, 6, 7, 8, 9, 10, 11, 12, 13, 14, 15, 16, 17, 18, 19, 20, 21, 22, 23], none), (28, [0, 1, 2, 3, 4, 5, 6, 7, 8, 9, 10, 11, 12, 13, 14, 15, 16, 17, 18, 19, 20, 21, 22, 23], none), (29, [0, 1, 2, 3, 4, 5, 6, 7, 8, 9, 10, 11, 12, 13, 14, 15, 16, 17, 18, 19, 20, 21, 22, 23], none), (30, [0, 1], none), (31, [], none), (32, [], some [74])]), (18, [(0, [], none), (1, [0], none), (2, [0, 1], none), (3, [0, 1], none), (4, [0, 1, 2, 3], none), (5, [0, 1], none), (6, [0, 1], none), (7, [0, 1, 2, 3, 4, 5, 6], none), (8, [0, 1, 2, 3, 4, 5, 6], none), (9, [0, 1], none), (10, [0, 1, 2, 3, 4, 5, 6, 7, 8, 9], none), (11, [0, 1, 2, 3, 4, 5, 6, 7, 8, 9, 10], none), (12, [0, 1, 2, 3, 4, 5, 6, 7, 8, 9, 10], none), (13, [0, 1, 2, 3, 4, 5, 6, 7, 8, 9], none), (14, [0, 1, 2, 3, 4, 5, 6, 7, 8, 9], none), (15, [0, 1], none), (16, [0, 1, 2, 3, 4, 5, 6, 7, 8, 9, 10, 11, 12, 13, 14, 15], none), (17, [0, 1, 6, 7, 8, 9, 10, 11, 12, 13, 14, 15], none), (18, [0, 1, 2, 3, 4, 5, 6, 7, 8, 9, 10, 11, 12, 13, 14, 15, 16, 17], none), (19, [0, 1, 6, 7, 8, 9, 10, 11, 12, 13, 14, 15], none), (20, [0, 1, 6, 7, 8, 9, 10, 11, 12, 13, 14, 15], none), (21, [0, 1, 2, 3, 4, 5, 6, 7, 8, 9, 10, 11, 12, 13, 14, 15, 16, 17, 18, 19, 20], none), (22, [0, 1, 2, 3, 4, 5, 6, 7, 8, 9, 10, 11, 12, 13, 14, 15, 16, 17, 18, 19, 20], none), (23, [0, 1, 6, 7, 8, 9, 10, 11, 12, 13, 14, 15], none), (24, [0, 1], none), (25, [0, 1, 2, 3, 4, 5, 6, 7, 8, 9, 10, 11, 12, 13, 14, 15, 16, 17, 18, 19, 20, 21, 22, 23, 24], none), (26, [0, 1, 2, 3, 4, 5, 6, 7, 8, 9, 10, 11, 12, 13, 14, 15, 16, 17, 18, 19, 20, 21, 22, 23, 24, 25], none), (27, [0, 1, 2, 3, 4, 5, 6, 7, 8, 9, 10, 11, 12, 13, 14, 15, 16, 17, 18, 19, 20, 21, 22, 23, 24, 25], none), (28, [0, 1, 2, 3, 4, 5, 6, 7, 8, 9, 10, 11, 12, 13, 14, 15, 16, 17, 18, 19, 20, 21, 22, 23, 24], none), (29, [0, 1, 2, 3, 4, 5, 6, 7, 8, 9, 10, 11, 12, 13, 14, 15, 16, 17, 18, 19, 20, 21, 22, 23, 24], none), (30, [0, 1], none), (31, [], none), (32, [], some [120])]), (25, [(0, [], none), (1, [0], none), (2, [0], none), (3, [0], none), (4, [], none), (5, [0, 1, 2, 3, 4], none), (6, [0, 1, 2, 3, 4], none), (7, [0, 1, 2, 3, 4, 5, 6], none), (8, [0, 1, 2, 3, 4, 5, 6], none), (9, [0, 1, 2, 3, 4, 5, 6], none), (10, [0, 1, 2, 3, 4], none), (11, [], none), (12, [], none)]), (26, [(0, [], none), (1, [0], none), (2, [0], none), (3, [0], none), (4, [], none), (5, [0, 1, 2, 3, 4], none), (6, [0, 1, 2, 3, 4, 5], none), (7, [0, 1, 2, 3, 4, 5], none), (8, [0, 1, 2, 3, 4, 5], none), (9, [0, 1, 2, 3, 4], none), (10, [], none), (11, [0, 1, 2, 3, 4, 5, 6, 7, 8, 9, 10], none), (12, [0, 1, 2, 3, 4, 5, 6, 7, 8, 9, 10], none), (13, [0, 1, 2, 3, 4, 5, 6, 7, 8, 9, 10], none), (14, [0, 1, 2, 3, 4, 5, 6, 7, 8, 9, 10, 11, 12, 13], none), (15, [0, 1, 2, 3, 4, 5, 6, 7, 8, 9, 10, 11, 12, 13], none), (16, [0, 1, 2, 3, 4, 5, 6, 7, 8, 9, 10, 11, 12, 13], none), (17, [0, 1, 2, 3, 4, 5, 6, 7, 8, 9, 10], none), (18, [], none), (19, [], none)]), (27, [(0, [], none), (1, [], none), (2, [], none), (3, [0, 1, 2], none), (4, [0, 1, 2], none), (5, [0, 1, 2, 3, 4], none), (6, [0, 1, 2], none), (7, [0, 1, 2], none), (8, [0, 1, 2, 3, 4, 5, 6, 7], none), (9, [0, 1, 2, 7], none), (10, [0, 1, 2], none), (11, [], none), (12, [0, 1, 2, 3, 4, 5, 6, 7, 8, 9, 10, 11], none), (13, [], none), (14, [0, 1, 2, 3, 4, 5, 6, 7, 8, 9, 10, 11, 12, 13], none), (15, [0, 1, 2, 3, 4, 5, 6, 7, 8, 9, 10, 11, 12, 13, 14], none), (16, [0, 1, 2, 3, 4, 5, 6, 7, 8, 9, 10, 11, 12, 13], none), (17, [0, 1, 2, 3, 4, 5, 6, 7, 8, 9, 10, 11, 12, 13], none), (18, [], none), (19, [0, 1, 2, 3, 4, 5, 6, 7, 8, 9, 10, 11, 12, 13, 14, 15, 16, 17, 18], none), (20, [0, 1, 2, 3, 4, 5, 6, 7, 8, 9, 10, 11, 12, 13, 14, 15, 16, 17, 18, 19], none), (21, [0, 1, 2, 3, 4, 5, 6, 7, 8, 9, 10, 11, 12, 13, 14, 15, 16, 17, 18], none), (22, [0, 1, 2, 3, 4, 5, 6, 7, 8, 9, 10, 11, 12, 13, 14, 15, 16, 17, 18], none), (23, [], none), (24, [], none)]), (29, [(0, [], none), (1, [0], none), (2, [], none), (3, [0, 1, 2], none), (4, [0, 1, 2, 3], none), (5, [0, 1, 2, 3], none), (6, [0, 1, 2, 3], none), (7, [0, 1, 2, 3, 4, 5, 6], none), (8, [0, 1, 2, 3, 4, 5, 6], none), (9, [0, 1, 2, 3, 4, 5, 6], none), (10, [0, 1, 2, 3, 4, 5, 6, 7, 8, 9], none), (11, [0, 1, 2, 3, 4, 5, 6, 7, 8, 9], none), (12, [0, 1, 2, 3, 4, 5, 6, 7, 8, 9], none), (13, [0, 1, 2, 3, 4, 5, 6, 7, 8, 9, 10, 11, 12], none), (14, [0, 1, 2, 3, 4, 5, 6, 7, 8, 9], none), (15, [0, 1, 2, 3, 4, 5, 6, 7, 8, 9, 10, 11, 12, 13, 14], none), (16, [0, 1, 2, 3, 4, 5, 6, 7, 8, 9, 10, 11, 12, 13, 14, 15], none), (17, [0, 1, 2, 3, 4, 5, 6, 7, 8, 9, 10, 11, 12, 13, 14, 15], none), (18, [0, 1, 2, 3, 4, 5, 6, 7, 8, 9, 10, 11, 12, 13, 14, 15], none), (19, [0, 1, 2, 3, 4, 5, 6, 7, 8, 9, 10, 11, 12, 13, 14, 15, 16, 17, 18], none), (20, [0, 1, 2, 3, 4, 5, 6, 7, 8, 9, 10, 11, 12, 13, 14, 15, 16, 17, 18], none), (21, [0, 1, 2, 3, 4, 5, 6, 7, 8, 9, 10, 11, 12, 13, 14, 15, 16, 17, 18], none), (22, [], none), (23, [], none)]), (33, [(0, [], none), (1, [0], none), (2, [0, 1], none), (3, [0, 1, 2], none), (4, [0, 1], none), (5, [0, 1], none), (6, [0, 1, 2, 3, 4, 5], none), (7, [0, 1, 2, 3, 4, 5, 6], none), (8, [0, 1, 2, 3, 4, 5], none), (9, [0, 1, 2, 3, 4, 5], none), (10, [0, 1], none), (11, [], none), (12, [], some [237])])]
/-- planchet/ptree.Node -/
def pl77 : List (Nat × Plan) := [(1, [(0, [], none), (1, [0], none), (2, [0, 1], none), (3, [], none), (4, [], none), (5, [], some [4])])]
/-- planchet/log.Grows$2 -/
def pl79 : List (Nat × Plan) := [(3, [(0, [], none), (2, [], some [9]), (1, [0, 2], none), (3, [], some [10]), (4, [], none)]), (5, [(0, [], none), (3, [], some [9]), (1, [0, 3], none), (4, [], some [10]), (2, [0, 3, 1, 4], none), (5, [], none)]), (10, [(0, [], none), (1, [0], none), (2, [0, 1], none), (3, [0], none), (4, [0, 1, 2, 3], none), (5, [0], none), (8, [], some [9]), (9, [], some [10]), (6, [0, 8, 9], none), (7, [0, 8, 9], none), (10, [], none)]), (13, [(0, [], none), (1, [0], none), (2, [], none), (3, [0, 1, 2], none), (4, [0, 1, 2, 3], none), (5, [], none), (6, [0, 1, 2, 3, 4, 5], none), (7, [], none), (10, [], some [9]), (11, [], some [10]), (8, [10, 11], none), (9, [10, 11], none), (12, [], none)])]
/-- (planchet/extract.Side).leaf -/
def pl81 : List (Nat × Plan) := [(3, [(0, [], none), (1, [0], none), (2, [], some [9]), (3, [0, 1, 2], none), (4, [0, 1, 2], none), (5, [], some [11]), (6, [], none)])]
/-- planchet/ptree.Empty -/
def pl82 : List (Nat × Plan) := [(6, [(0, [], none), (1, [0], none), (2, [0], none), (3, [0, 1, 2], none), (4, [0, 1, 2, 3], none), (5, [0, 1, 2], none), (6, [0, 1, 2], none), (7, [0, 1, 2, 3, 4, 5, 6], none), (8, [0, 1, 2, 3, 4, 5, 6, 7], none), (9, [0, 1, 2, 3, 4, 5, 6], none), (10, [0, 1, 2, 3, 4, 5, 6], none), (11, [0, 1, 2], none), (12, [], none), (13, [], some [24])])]
/-- planchet/extract.pair -/
def pl85 : List (Nat × Plan) := [(1, [(0, [], none), (1, [0], none), (2, [], some [5]), (3, [0, 1, 2], none), (4, [], some [7]), (5, [], none)])]
/-- planchet/planchetref23.pair -/
def pl89 : List (Nat × Plan) := [(1, [(0, [], none), (1, [0], none), (2, [], some [5]), (3, [0, 1, 2], none), (4, [], some [7]), (5, [], none)])]
/-- planchet/extract.up -/
def pl92 : List (Nat × Plan) := [(5, [(0, [], none), (1, [0], none), (2, [0, 1], none), (3, [0], none), (4, [0], none), (5, [], none), (6, [], none)]), (7, [(0, [], none), (1, [0], none), (2, [], none), (3, [], none), (4, [0, 1, 2, 3], none), (5, [], none), (6, [], none)])]
/-- planchet/ptree.Leaf -/
def pl97 : List (Nat × Plan) := [(1, [(0, [], none), (1, [0], none), (2, [0], none), (3, [0, 1, 2], none), (4, [0, 1, 2], none), (5, [], none), (6, [], none), (7, [], some [2])])]
/-- planchet/planchetref12.part -/
def pl99 : List (Nat × Plan) := [(5, [(0, [], none), (1, [0], none), (2, [], none), (3, [0, 1, 2], none), (4, [0, 1, 2, 3], none), (5, [0, 1, 2], none), (6, [], none), (7, [], none)])]
/-- planchet/planchetref01.right -/
def pl106 : List (Nat × Plan) := [(1, [(0, [], none), (1, [0], none), (2, [], none), (3, [0, 1, 2], none), (4, [0, 1, 2, 3], none), (5, [0, 1, 2], none), (6, [0, 1, 2, 3, 4, 5], none), (7, [0, 1, 2], none), (8, [], none), (9, [], none)])]
/-- (*planchet/sha.Hash).Sum -/
def pl111 : List (Nat × Plan) := [(3, [(4, [], none), (5, [4], none), (6, [4], none), (7, [4], none), (8, [4], none), (9, [], some [16]), (0, [4, 5, 6, 7, 8, 9], none), (1, [4, 5, 6, 7, 8, 9], none), (2, [4, 5, 6, 7, 8, 9], none), (3, [4, 5, 6, 7, 8, 9], none), (10, [], none), (11, [], none), (12, [], none)])]
/-- planchet/planchetref17.Node -/
def pl113 : List (Nat × Plan) := [(1, [(0, [], none), (1, [0], none), (2, [], some [5]), (3, [0, 1, 2], none), (4, [], some [7]), (5, [], none), (6, [], some [4])])]
/-- (*planchet/sha.Hash).take -/
def pl119 : List (Nat × Plan) := [(5, [(0, [], none), (1, [], none), (2, [0, 1], none), (3, [0, 1], none), (4, [2, 3], none), (5, [], none)]), (6, [(0, [], none), (1, [], none), (2, [0, 1], none), (3, [0, 1], none), (4, [0, 1, 2, 3], none), (5, [0, 1], none), (6, [0, 1], none), (7, [0, 1, 2, 3, 4, 5, 6], none), (8, [0, 1, 6], none), (9, [0, 1], none), (10, [], none), (11, [0, 1, 2, 3, 4, 5, 6, 7, 8, 9, 10], none), (12, [0, 1, 2, 3, 4, 5, 6, 7, 8, 9, 10, 11], none), (13, [0, 1, 2, 3, 4, 5, 6, 7, 8, 9, 10, 11], none), (14, [0, 1, 2, 3, 4, 5, 6, 7, 8, 9, 10], none), (15, [0, 1, 2, 3, 4, 5, 6, 7, 8, 9, 10, 11, 12, 13, 14], none), (16, [0, 1, 2, 3, 4, 5, 6, 7, 8, 9, 10, 11, 12, 13, 14], none), (17, [0, 1, 2, 3, 4, 5, 6, 7, 8, 9, 10, 11, 12, 13, 14, 15, 16], none), (18, [0, 1, 2, 3, 4, 5, 6, 7, 8, 9, 10, 11, 12, 13, 14, 15, 16], none), (19, [0, 1, 2, 3, 4, 5, 6, 7, 8, 9, 10, 11, 12, 13, 14], none), (20, [0, 1, 2, 3, 4, 5, 6, 7, 8, 9, 10], none), (21, [], none), (22, [0, 1, 2, 3, 4, 5, 6, 7, 8, 9, 10, 11, 12, 13, 14, 15, 16, 17, 18, 19, 20, 21], none), (23, [0, 1, 2, 3, 4, 5, 6, 7, 8, 9, 10, 11, 12, 13, 14, 15, 16, 17, 18, 19, 20, 21], none), (24, [0, 1, 2, 3, 4, 5, 6, 7, 8, 9, 10, 11, 12, 13, 14, 15, 16, 17, 18, 19, 20, 21], none), (25, [], none), (26, [0, 1, 2, 3, 4, 5, 6, 7, 8, 9, 10, 11, 12, 13, 14, 15, 16, 17, 18, 19, 20, 21, 22, 23, 24, 25], none), (27, [0, 1, 2, 3, 4, 5, 6, 7, 8, 9, 10, 11, 12, 13, 14, 15, 16, 17, 18, 19, 20, 21, 22, 23, 24, 25], none), (28, [0, 1, 2, 3, 4, 5, 6, 7, 8, 9, 10, 11, 12, 13, 14, 15, 16, 17, 18, 19, 20, 21, 22, 23, 24, 25], none), (29, [], none), (30, [], none)]), (7, [(0, [], none), (1, [], none), (2, [0, 1], none), (3, [], none), (4, [], none), (5, [0, 1, 2, 3, 4], none), (6, [4], none), (7, [], none), (8, [0, 1, 2, 3, 4, 5, 6, 7], none), (9, [0, 1, 2, 3, 4, 5, 6, 7, 8], none), (10, [0, 1, 2, 3, 4, 5, 6, 7, 8], none), (11, [0, 1, 2, 3, 4, 5, 6, 7], none), (12, [0, 1, 2, 3, 4, 5, 6, 7, 8, 9, 10, 11], none), (13, [0, 1, 2, 3, 4, 5, 6, 7, 8, 9, 10, 11, 12], none), (14, [0, 1, 2, 3, 4, 5, 6, 7, 8, 9, 10, 11, 12], none), (15, [0, 1, 2, 3, 4, 5, 6, 7, 8, 9, 10, 11], none), (16, [0, 1, 2, 3, 4, 5, 6, 7], none), (17, [0, 1, 2, 3, 4, 5, 6, 7, 8, 9, 10, 11, 12, 13, 14, 15, 16], none), (18, [0, 1, 2, 3, 4, 5, 6, 7, 8, 9, 10, 11, 12, 13, 14, 15, 16], none), (19, [0, 1, 2, 3, 4, 5, 6, 7, 8, 9, 10, 11, 12, 13, 14, 15, 16, 17, 18], none), (20, [0, 1, 2, 3, 4, 5, 6, 7, 8, 9, 10, 11, 12, 13, 14, 15, 16, 17, 18], none), (21, [0, 1, 2, 3, 4, 5, 6, 7, 8, 9, 10, 11, 12, 13, 14, 15, 16], none), (22, [0, 1, 2, 3, 4, 5, 6, 7], none), (23, [], none), (24, [], none)]), (13, [(0, [], none), (1, [0], none), (2, [1], none), (3, [1], none), (4, [], none), (5, [], none), (6, [0, 1, 2, 3, 4, 5], none), (7, [], none), (8, [1, 2, 3, 4, 5, 6, 7], none), (9, [1, 2, 3, 4, 5, 6, 7], none), (10, [], none), (11, [], some [116])])]
/-- planchet/sha.schedule -/
def pl120 : List (Nat × Plan) := [(14, [(0, [], none), (1, [], none), (2, [], none), (3, [], none), (4, [0, 1, 2, 3], none), (5, [0, 1, 2, 3], none), (6, [0, 1, 2, 3], none), (7, [0, 1, 2, 3], none), (8, [4, 5, 6, 7], none), (9, [], none)]), (15, [(0, [], none), (1, [0], none), (2, [0], none), (3, [0, 1, 2], none), (4, [0], none), (5, [0], none), (6, [0, 1, 2, 3, 4, 5], none), (7, [0, 1, 2, 3, 4, 5], none), (8, [0], none), (9, [0, 1, 2, 3, 4, 5, 6, 7, 8], none), (10, [0, 1, 2, 3, 4, 5, 6, 7, 8], none), (11, [0, 1, 2, 3, 4, 5, 6, 7, 8], none), (12, [0, 1, 2, 3, 4, 5, 6, 7, 8], none), (13, [0], none), (14, [0, 1, 2, 3, 4, 5, 6, 7, 8, 9, 10, 11, 12, 13], none), (15, [0, 5, 6, 7, 8, 9, 10, 11, 12, 13], none), (16, [0, 1, 2, 3, 4, 5, 6, 7, 8, 9, 10, 11, 12, 13, 14, 15], none), (17, [0, 5, 6, 7, 8, 9, 10, 11, 12, 13], none), (18, [0, 5, 6, 7, 8, 9, 10, 11, 12, 13], none), (19, [0, 1, 2, 3, 4, 5, 6, 7, 8, 9, 10, 11, 12, 13, 14, 15, 16, 17, 18], none), (20, [0, 1, 2, 3, 4, 5, 6, 7, 8, 9, 10, 11, 12, 13, 14, 15, 16, 17, 18], none), (21, [0, 5, 6, 7, 8, 9, 10, 11, 12, 13], none), (22, [0], none), (23, [0, 1, 2, 3, 4, 5, 6, 7, 8, 9, 10, 11, 12, 13, 14, 15, 16, 17, 18, 19, 20, 21, 22], none), (24, [0, 1, 2, 3, 4, 5, 6, 7, 8, 9, 10, 11, 12, 13, 14, 15, 16, 17, 18, 19, 20, 21, 22], none), (25, [0, 1, 2, 3, 4, 5, 6, 7, 8, 9, 10, 11, 12, 13, 14, 15, 16, 17, 18, 19, 20, 21, 22], none), (26, [0, 1, 2, 3, 4, 5, 6, 7, 8, 9, 10, 11, 12, 13, 14, 15, 16, 17, 18, 19, 20, 21, 22], none), (27, [0], none), (28, [], none), (29, [], some [76])])]
end Go.Proofs.Ytegbkbkcfcjkbaa
