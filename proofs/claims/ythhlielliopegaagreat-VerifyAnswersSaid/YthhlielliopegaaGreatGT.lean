/- Texts, joined. -/
import Derived.Test.YthhlielliopegaaGreatGG
import Derived.Test.YthhlielliopegaaGreatProg
namespace Go.Proofs.YthhlielliopegaaGreat
open Go Go.Sy Go.Proofs.Tryz
set_option maxRecDepth 100000
theorem mix : Tryz.prog.follows .mixedOrders = true := by kernel_rfl
theorem ty1 (K : Ty → Prop) : tyC Tryz.prog 1 K = K .func := tyC_of (by kernel_rfl) K
theorem by1 (K : Nat → Prop) : byC Tryz.prog 1 K = K 8 := byC_of (by kernel_rfl) K
theorem ty2 (K : Ty → Prop) : tyC Tryz.prog 2 K = K (.int .i64) := tyC_of (by kernel_rfl) K
theorem by2 (K : Nat → Prop) : byC Tryz.prog 2 K = K 8 := byC_of (by kernel_rfl) K
theorem ty3 (K : Ty → Prop) : tyC Tryz.prog 3 K = K (.int .i64) := tyC_of (by kernel_rfl) K
theorem by3 (K : Nat → Prop) : byC Tryz.prog 3 K = K 8 := byC_of (by kernel_rfl) K
theorem ty4 (K : Ty → Prop) : tyC Tryz.prog 4 K = K .bool := tyC_of (by kernel_rfl) K
theorem by4 (K : Nat → Prop) : byC Tryz.prog 4 K = K 1 := byC_of (by kernel_rfl) K
theorem ty5 (K : Ty → Prop) : tyC Tryz.prog 5 K = K (.int .u8) := tyC_of (by kernel_rfl) K
theorem by5 (K : Nat → Prop) : byC Tryz.prog 5 K = K 1 := byC_of (by kernel_rfl) K
theorem ty9 (K : Ty → Prop) : tyC Tryz.prog 9 K = K .str := tyC_of (by kernel_rfl) K
theorem by9 (K : Nat → Prop) : byC Tryz.prog 9 K = K 16 := byC_of (by kernel_rfl) K
theorem ty12 (K : Ty → Prop) : tyC Tryz.prog 12 K = K (.int .u64) := tyC_of (by kernel_rfl) K
theorem by12 (K : Nat → Prop) : byC Tryz.prog 12 K = K 8 := byC_of (by kernel_rfl) K
theorem ty15 (K : Ty → Prop) : tyC Tryz.prog 15 K = K (.ptr 189) := tyC_of (by kernel_rfl) K
theorem by15 (K : Nat → Prop) : byC Tryz.prog 15 K = K 8 := byC_of (by kernel_rfl) K
theorem ty16 (K : Ty → Prop) : tyC Tryz.prog 16 K = K (.ptr 192) := tyC_of (by kernel_rfl) K
theorem by16 (K : Nat → Prop) : byC Tryz.prog 16 K = K 8 := byC_of (by kernel_rfl) K
theorem ty17 (K : Ty → Prop) : tyC Tryz.prog 17 K = K (.ptr 201) := tyC_of (by kernel_rfl) K
theorem by17 (K : Nat → Prop) : byC Tryz.prog 17 K = K 8 := byC_of (by kernel_rfl) K
theorem ty21 (K : Ty → Prop) : tyC Tryz.prog 21 K = K (.int .i32) := tyC_of (by kernel_rfl) K
theorem by21 (K : Nat → Prop) : byC Tryz.prog 21 K = K 4 := byC_of (by kernel_rfl) K
theorem ty22 (K : Ty → Prop) : tyC Tryz.prog 22 K = K (.arr 32 5 (.int .u8)) := tyC_of (by kernel_rfl) K
theorem by22 (K : Nat → Prop) : byC Tryz.prog 22 K = K 32 := byC_of (by kernel_rfl) K
theorem ty23 (K : Ty → Prop) : tyC Tryz.prog 23 K = K (.arr 32 5 (.int .u8)) := tyC_of (by kernel_rfl) K
theorem by23 (K : Nat → Prop) : byC Tryz.prog 23 K = K 32 := byC_of (by kernel_rfl) K
theorem ty24 (K : Ty → Prop) : tyC Tryz.prog 24 K = K (.slice 5) := tyC_of (by kernel_rfl) K
theorem by24 (K : Nat → Prop) : byC Tryz.prog 24 K = K 24 := byC_of (by kernel_rfl) K
theorem ty25 (K : Ty → Prop) : tyC Tryz.prog 25 K = K (.slice 34) := tyC_of (by kernel_rfl) K
theorem by25 (K : Nat → Prop) : byC Tryz.prog 25 K = K 24 := byC_of (by kernel_rfl) K
theorem ty26 (K : Ty → Prop) : tyC Tryz.prog 26 K = K (.slice 23) := tyC_of (by kernel_rfl) K
theorem by26 (K : Nat → Prop) : byC Tryz.prog 26 K = K 24 := byC_of (by kernel_rfl) K
theorem ty27 (K : Ty → Prop) : tyC Tryz.prog 27 K = K (.st [(.arr 32 5 (.int .u8)), (.slice 23)]) := tyC_of (by kernel_rfl) K
theorem by27 (K : Nat → Prop) : byC Tryz.prog 27 K = K 56 := byC_of (by kernel_rfl) K
theorem ty28 (K : Ty → Prop) : tyC Tryz.prog 28 K = K (.st [(.arr 32 5 (.int .u8)), (.slice 23)]) := tyC_of (by kernel_rfl) K
theorem by28 (K : Nat → Prop) : byC Tryz.prog 28 K = K 56 := byC_of (by kernel_rfl) K
theorem ty29 (K : Ty → Prop) : tyC Tryz.prog 29 K = K (.st [(.slice 34), (.arr 32 5 (.int .u8)), (.st [(.arr 32 5 (.int .u8)), (.slice 23)])]) := tyC_of (by kernel_rfl) K
theorem by29 (K : Nat → Prop) : byC Tryz.prog 29 K = K 112 := byC_of (by kernel_rfl) K
theorem ty30 (K : Ty → Prop) : tyC Tryz.prog 30 K = K (.st [(.slice 34), (.arr 32 5 (.int .u8)), (.st [(.arr 32 5 (.int .u8)), (.slice 23)])]) := tyC_of (by kernel_rfl) K
theorem by30 (K : Nat → Prop) : byC Tryz.prog 30 K = K 112 := byC_of (by kernel_rfl) K
theorem ty31 (K : Ty → Prop) : tyC Tryz.prog 31 K = K .func := tyC_of (by kernel_rfl) K
theorem by31 (K : Nat → Prop) : byC Tryz.prog 31 K = K 8 := byC_of (by kernel_rfl) K
theorem ty32 (K : Ty → Prop) : tyC Tryz.prog 32 K = K .func := tyC_of (by kernel_rfl) K
theorem by32 (K : Nat → Prop) : byC Tryz.prog 32 K = K 8 := byC_of (by kernel_rfl) K
theorem ty33 (K : Ty → Prop) : tyC Tryz.prog 33 K = K (.st [(.int .i64), (.slice 5), (.arr 32 5 (.int .u8)), (.arr 32 5 (.int .u8)), (.st [(.arr 32 5 (.int .u8)), (.slice 23)])]) := tyC_of (by kernel_rfl) K
theorem by33 (K : Nat → Prop) : byC Tryz.prog 33 K = K 152 := byC_of (by kernel_rfl) K
theorem ty34 (K : Ty → Prop) : tyC Tryz.prog 34 K = K (.st [(.int .i64), (.slice 5), (.arr 32 5 (.int .u8)), (.arr 32 5 (.int .u8)), (.st [(.arr 32 5 (.int .u8)), (.slice 23)])]) := tyC_of (by kernel_rfl) K
theorem by34 (K : Nat → Prop) : byC Tryz.prog 34 K = K 152 := byC_of (by kernel_rfl) K
theorem ty35 (K : Ty → Prop) : tyC Tryz.prog 35 K = K .func := tyC_of (by kernel_rfl) K
theorem by35 (K : Nat → Prop) : byC Tryz.prog 35 K = K 8 := byC_of (by kernel_rfl) K
theorem ty36 (K : Ty → Prop) : tyC Tryz.prog 36 K = K .func := tyC_of (by kernel_rfl) K
theorem by36 (K : Nat → Prop) : byC Tryz.prog 36 K = K 8 := byC_of (by kernel_rfl) K
theorem ty37 (K : Ty → Prop) : tyC Tryz.prog 37 K = K .func := tyC_of (by kernel_rfl) K
theorem by37 (K : Nat → Prop) : byC Tryz.prog 37 K = K 8 := byC_of (by kernel_rfl) K
theorem ty38 (K : Ty → Prop) : tyC Tryz.prog 38 K = K .func := tyC_of (by kernel_rfl) K
theorem by38 (K : Nat → Prop) : byC Tryz.prog 38 K = K 8 := byC_of (by kernel_rfl) K
theorem ty39 (K : Ty → Prop) : tyC Tryz.prog 39 K = K (.st [(.int .i64), (.int .i64)]) := tyC_of (by kernel_rfl) K
theorem by39 (K : Nat → Prop) : byC Tryz.prog 39 K = K 16 := byC_of (by kernel_rfl) K
theorem ty40 (K : Ty → Prop) : tyC Tryz.prog 40 K = K (.st [(.int .i64), (.int .i64)]) := tyC_of (by kernel_rfl) K
theorem by40 (K : Nat → Prop) : byC Tryz.prog 40 K = K 16 := byC_of (by kernel_rfl) K
theorem ty41 (K : Ty → Prop) : tyC Tryz.prog 41 K = K (.st [(.st [(.int .i64), (.int .i64)]), (.arr 32 5 (.int .u8)), (.arr 32 5 (.int .u8))]) := tyC_of (by kernel_rfl) K
theorem by41 (K : Nat → Prop) : byC Tryz.prog 41 K = K 80 := byC_of (by kernel_rfl) K
theorem ty42 (K : Ty → Prop) : tyC Tryz.prog 42 K = K (.st [(.st [(.int .i64), (.int .i64)]), (.arr 32 5 (.int .u8)), (.arr 32 5 (.int .u8))]) := tyC_of (by kernel_rfl) K
theorem by42 (K : Nat → Prop) : byC Tryz.prog 42 K = K 80 := byC_of (by kernel_rfl) K
theorem ty43 (K : Ty → Prop) : tyC Tryz.prog 43 K = K (.st [(.int .i64), (.int .i64), (.arr 32 5 (.int .u8)), (.arr 32 5 (.int .u8))]) := tyC_of (by kernel_rfl) K
theorem by43 (K : Nat → Prop) : byC Tryz.prog 43 K = K 80 := byC_of (by kernel_rfl) K
theorem ty44 (K : Ty → Prop) : tyC Tryz.prog 44 K = K (.st [(.int .i64), (.int .i64), (.arr 32 5 (.int .u8)), (.arr 32 5 (.int .u8))]) := tyC_of (by kernel_rfl) K
theorem by44 (K : Nat → Prop) : byC Tryz.prog 44 K = K 80 := byC_of (by kernel_rfl) K
theorem ty45 (K : Ty → Prop) : tyC Tryz.prog 45 K = K (.slice 74) := tyC_of (by kernel_rfl) K
theorem by45 (K : Nat → Prop) : byC Tryz.prog 45 K = K 24 := byC_of (by kernel_rfl) K
theorem ty46 (K : Ty → Prop) : tyC Tryz.prog 46 K = K (.st [(.int .i64), (.arr 32 5 (.int .u8)), (.slice 74)]) := tyC_of (by kernel_rfl) K
theorem by46 (K : Nat → Prop) : byC Tryz.prog 46 K = K 64 := byC_of (by kernel_rfl) K
theorem ty47 (K : Ty → Prop) : tyC Tryz.prog 47 K = K (.st [(.int .i64), (.arr 32 5 (.int .u8)), (.slice 74)]) := tyC_of (by kernel_rfl) K
theorem by47 (K : Nat → Prop) : byC Tryz.prog 47 K = K 64 := byC_of (by kernel_rfl) K
theorem ty48 (K : Ty → Prop) : tyC Tryz.prog 48 K = K .func := tyC_of (by kernel_rfl) K
theorem by48 (K : Nat → Prop) : byC Tryz.prog 48 K = K 8 := byC_of (by kernel_rfl) K
theorem ty49 (K : Ty → Prop) : tyC Tryz.prog 49 K = K .func := tyC_of (by kernel_rfl) K
theorem by49 (K : Nat → Prop) : byC Tryz.prog 49 K = K 8 := byC_of (by kernel_rfl) K
theorem ty50 (K : Ty → Prop) : tyC Tryz.prog 50 K = K .func := tyC_of (by kernel_rfl) K
theorem by50 (K : Nat → Prop) : byC Tryz.prog 50 K = K 8 := byC_of (by kernel_rfl) K
theorem ty51 (K : Ty → Prop) : tyC Tryz.prog 51 K = K .func := tyC_of (by kernel_rfl) K
theorem by51 (K : Nat → Prop) : byC Tryz.prog 51 K = K 8 := byC_of (by kernel_rfl) K
theorem ty52 (K : Ty → Prop) : tyC Tryz.prog 52 K = K .func := tyC_of (by kernel_rfl) K
theorem by52 (K : Nat → Prop) : byC Tryz.prog 52 K = K 8 := byC_of (by kernel_rfl) K
theorem ty53 (K : Ty → Prop) : tyC Tryz.prog 53 K = K .func := tyC_of (by kernel_rfl) K
theorem by53 (K : Nat → Prop) : byC Tryz.prog 53 K = K 8 := byC_of (by kernel_rfl) K
theorem ty54 (K : Ty → Prop) : tyC Tryz.prog 54 K = K .func := tyC_of (by kernel_rfl) K
theorem by54 (K : Nat → Prop) : byC Tryz.prog 54 K = K 8 := byC_of (by kernel_rfl) K
theorem ty55 (K : Ty → Prop) : tyC Tryz.prog 55 K = K .func := tyC_of (by kernel_rfl) K
theorem by55 (K : Nat → Prop) : byC Tryz.prog 55 K = K 8 := byC_of (by kernel_rfl) K
theorem ty56 (K : Ty → Prop) : tyC Tryz.prog 56 K = K .func := tyC_of (by kernel_rfl) K
theorem by56 (K : Nat → Prop) : byC Tryz.prog 56 K = K 8 := byC_of (by kernel_rfl) K
theorem ty57 (K : Ty → Prop) : tyC Tryz.prog 57 K = K .func := tyC_of (by kernel_rfl) K
theorem by57 (K : Nat → Prop) : byC Tryz.prog 57 K = K 8 := byC_of (by kernel_rfl) K
theorem ty58 (K : Ty → Prop) : tyC Tryz.prog 58 K = K .func := tyC_of (by kernel_rfl) K
theorem by58 (K : Nat → Prop) : byC Tryz.prog 58 K = K 8 := byC_of (by kernel_rfl) K
theorem ty59 (K : Ty → Prop) : tyC Tryz.prog 59 K = K .func := tyC_of (by kernel_rfl) K
theorem by59 (K : Nat → Prop) : byC Tryz.prog 59 K = K 8 := byC_of (by kernel_rfl) K
theorem ty60 (K : Ty → Prop) : tyC Tryz.prog 60 K = K .func := tyC_of (by kernel_rfl) K
theorem by60 (K : Nat → Prop) : byC Tryz.prog 60 K = K 8 := byC_of (by kernel_rfl) K
theorem ty61 (K : Ty → Prop) : tyC Tryz.prog 61 K = K .func := tyC_of (by kernel_rfl) K
theorem by61 (K : Nat → Prop) : byC Tryz.prog 61 K = K 8 := byC_of (by kernel_rfl) K
theorem ty62 (K : Ty → Prop) : tyC Tryz.prog 62 K = K (.st [(.arr 32 5 (.int .u8)), (.arr 32 5 (.int .u8))]) := tyC_of (by kernel_rfl) K
theorem by62 (K : Nat → Prop) : byC Tryz.prog 62 K = K 64 := byC_of (by kernel_rfl) K
theorem ty63 (K : Ty → Prop) : tyC Tryz.prog 63 K = K (.st [(.arr 32 5 (.int .u8)), (.arr 32 5 (.int .u8))]) := tyC_of (by kernel_rfl) K
theorem by63 (K : Nat → Prop) : byC Tryz.prog 63 K = K 64 := byC_of (by kernel_rfl) K
theorem ty64 (K : Ty → Prop) : tyC Tryz.prog 64 K = K .func := tyC_of (by kernel_rfl) K
theorem by64 (K : Nat → Prop) : byC Tryz.prog 64 K = K 8 := byC_of (by kernel_rfl) K
theorem ty65 (K : Ty → Prop) : tyC Tryz.prog 65 K = K (.int .i64) := tyC_of (by kernel_rfl) K
theorem by65 (K : Nat → Prop) : byC Tryz.prog 65 K = K 8 := byC_of (by kernel_rfl) K
theorem ty67 (K : Ty → Prop) : tyC Tryz.prog 67 K = K .func := tyC_of (by kernel_rfl) K
theorem by67 (K : Nat → Prop) : byC Tryz.prog 67 K = K 8 := byC_of (by kernel_rfl) K
theorem ty68 (K : Ty → Prop) : tyC Tryz.prog 68 K = K .func := tyC_of (by kernel_rfl) K
theorem by68 (K : Nat → Prop) : byC Tryz.prog 68 K = K 8 := byC_of (by kernel_rfl) K
theorem ty69 (K : Ty → Prop) : tyC Tryz.prog 69 K = K .func := tyC_of (by kernel_rfl) K
theorem by69 (K : Nat → Prop) : byC Tryz.prog 69 K = K 8 := byC_of (by kernel_rfl) K
theorem ty70 (K : Ty → Prop) : tyC Tryz.prog 70 K = K .func := tyC_of (by kernel_rfl) K
theorem by70 (K : Nat → Prop) : byC Tryz.prog 70 K = K 8 := byC_of (by kernel_rfl) K
theorem ty71 (K : Ty → Prop) : tyC Tryz.prog 71 K = K .func := tyC_of (by kernel_rfl) K
theorem by71 (K : Nat → Prop) : byC Tryz.prog 71 K = K 8 := byC_of (by kernel_rfl) K
theorem ty72 (K : Ty → Prop) : tyC Tryz.prog 72 K = K .func := tyC_of (by kernel_rfl) K
theorem by72 (K : Nat → Prop) : byC Tryz.prog 72 K = K 8 := byC_of (by kernel_rfl) K
theorem ty73 (K : Ty → Prop) : tyC Tryz.prog 73 K = K (.st [(.slice 23), (.slice 23)]) := tyC_of (by kernel_rfl) K
theorem by73 (K : Nat → Prop) : byC Tryz.prog 73 K = K 48 := byC_of (by kernel_rfl) K
theorem ty74 (K : Ty → Prop) : tyC Tryz.prog 74 K = K (.st [(.slice 23), (.slice 23)]) := tyC_of (by kernel_rfl) K
theorem by74 (K : Nat → Prop) : byC Tryz.prog 74 K = K 48 := byC_of (by kernel_rfl) K
theorem ty75 (K : Ty → Prop) : tyC Tryz.prog 75 K = K .func := tyC_of (by kernel_rfl) K
theorem by75 (K : Nat → Prop) : byC Tryz.prog 75 K = K 8 := byC_of (by kernel_rfl) K
theorem ty76 (K : Ty → Prop) : tyC Tryz.prog 76 K = K .func := tyC_of (by kernel_rfl) K
theorem by76 (K : Nat → Prop) : byC Tryz.prog 76 K = K 8 := byC_of (by kernel_rfl) K
theorem ty77 (K : Ty → Prop) : tyC Tryz.prog 77 K = K .func := tyC_of (by kernel_rfl) K
theorem by77 (K : Nat → Prop) : byC Tryz.prog 77 K = K 8 := byC_of (by kernel_rfl) K
theorem ty78 (K : Ty → Prop) : tyC Tryz.prog 78 K = K .func := tyC_of (by kernel_rfl) K
theorem by78 (K : Nat → Prop) : byC Tryz.prog 78 K = K 8 := byC_of (by kernel_rfl) K
theorem ty79 (K : Ty → Prop) : tyC Tryz.prog 79 K = K .func := tyC_of (by kernel_rfl) K
theorem by79 (K : Nat → Prop) : byC Tryz.prog 79 K = K 8 := byC_of (by kernel_rfl) K
theorem ty80 (K : Ty → Prop) : tyC Tryz.prog 80 K = K (.int .u32) := tyC_of (by kernel_rfl) K
theorem by80 (K : Nat → Prop) : byC Tryz.prog 80 K = K 4 := byC_of (by kernel_rfl) K
theorem ty81 (K : Ty → Prop) : tyC Tryz.prog 81 K = K (.arr 8 80 (.int .u32)) := tyC_of (by kernel_rfl) K
theorem by81 (K : Nat → Prop) : byC Tryz.prog 81 K = K 32 := byC_of (by kernel_rfl) K
theorem ty82 (K : Ty → Prop) : tyC Tryz.prog 82 K = K (.arr 8 80 (.int .u32)) := tyC_of (by kernel_rfl) K
theorem by82 (K : Nat → Prop) : byC Tryz.prog 82 K = K 32 := byC_of (by kernel_rfl) K
theorem ty83 (K : Ty → Prop) : tyC Tryz.prog 83 K = K .func := tyC_of (by kernel_rfl) K
theorem by83 (K : Nat → Prop) : byC Tryz.prog 83 K = K 8 := byC_of (by kernel_rfl) K
theorem ty84 (K : Ty → Prop) : tyC Tryz.prog 84 K = K (.int .u64) := tyC_of (by kernel_rfl) K
theorem by84 (K : Nat → Prop) : byC Tryz.prog 84 K = K 8 := byC_of (by kernel_rfl) K
theorem ty85 (K : Ty → Prop) : tyC Tryz.prog 85 K = K .func := tyC_of (by kernel_rfl) K
theorem by85 (K : Nat → Prop) : byC Tryz.prog 85 K = K 8 := byC_of (by kernel_rfl) K
theorem ty86 (K : Ty → Prop) : tyC Tryz.prog 86 K = K .func := tyC_of (by kernel_rfl) K
theorem by86 (K : Nat → Prop) : byC Tryz.prog 86 K = K 8 := byC_of (by kernel_rfl) K
theorem ty87 (K : Ty → Prop) : tyC Tryz.prog 87 K = K .func := tyC_of (by kernel_rfl) K
theorem by87 (K : Nat → Prop) : byC Tryz.prog 87 K = K 8 := byC_of (by kernel_rfl) K
theorem ty88 (K : Ty → Prop) : tyC Tryz.prog 88 K = K .func := tyC_of (by kernel_rfl) K
theorem by88 (K : Nat → Prop) : byC Tryz.prog 88 K = K 8 := byC_of (by kernel_rfl) K
theorem ty89 (K : Ty → Prop) : tyC Tryz.prog 89 K = K (.slice 3) := tyC_of (by kernel_rfl) K
theorem by89 (K : Nat → Prop) : byC Tryz.prog 89 K = K 24 := byC_of (by kernel_rfl) K
theorem ty91 (K : Ty → Prop) : tyC Tryz.prog 91 K = K .func := tyC_of (by kernel_rfl) K
theorem by91 (K : Nat → Prop) : byC Tryz.prog 91 K = K 8 := byC_of (by kernel_rfl) K
theorem ty92 (K : Ty → Prop) : tyC Tryz.prog 92 K = K .func := tyC_of (by kernel_rfl) K
theorem by92 (K : Nat → Prop) : byC Tryz.prog 92 K = K 8 := byC_of (by kernel_rfl) K
theorem ty93 (K : Ty → Prop) : tyC Tryz.prog 93 K = K .func := tyC_of (by kernel_rfl) K
theorem by93 (K : Nat → Prop) : byC Tryz.prog 93 K = K 8 := byC_of (by kernel_rfl) K
theorem ty94 (K : Ty → Prop) : tyC Tryz.prog 94 K = K .func := tyC_of (by kernel_rfl) K
theorem by94 (K : Nat → Prop) : byC Tryz.prog 94 K = K 8 := byC_of (by kernel_rfl) K
theorem ty95 (K : Ty → Prop) : tyC Tryz.prog 95 K = K .func := tyC_of (by kernel_rfl) K
theorem by95 (K : Nat → Prop) : byC Tryz.prog 95 K = K 8 := byC_of (by kernel_rfl) K
theorem ty96 (K : Ty → Prop) : tyC Tryz.prog 96 K = K .func := tyC_of (by kernel_rfl) K
theorem by96 (K : Nat → Prop) : byC Tryz.prog 96 K = K 8 := byC_of (by kernel_rfl) K
theorem ty97 (K : Ty → Prop) : tyC Tryz.prog 97 K = K .func := tyC_of (by kernel_rfl) K
theorem by97 (K : Nat → Prop) : byC Tryz.prog 97 K = K 8 := byC_of (by kernel_rfl) K
theorem ty98 (K : Ty → Prop) : tyC Tryz.prog 98 K = K .func := tyC_of (by kernel_rfl) K
theorem by98 (K : Nat → Prop) : byC Tryz.prog 98 K = K 8 := byC_of (by kernel_rfl) K
theorem ty99 (K : Ty → Prop) : tyC Tryz.prog 99 K = K .func := tyC_of (by kernel_rfl) K
theorem by99 (K : Nat → Prop) : byC Tryz.prog 99 K = K 8 := byC_of (by kernel_rfl) K
theorem ty100 (K : Ty → Prop) : tyC Tryz.prog 100 K = K .func := tyC_of (by kernel_rfl) K
theorem by100 (K : Nat → Prop) : byC Tryz.prog 100 K = K 8 := byC_of (by kernel_rfl) K
theorem ty101 (K : Ty → Prop) : tyC Tryz.prog 101 K = K .func := tyC_of (by kernel_rfl) K
theorem by101 (K : Nat → Prop) : byC Tryz.prog 101 K = K 8 := byC_of (by kernel_rfl) K
theorem ty102 (K : Ty → Prop) : tyC Tryz.prog 102 K = K .func := tyC_of (by kernel_rfl) K
theorem by102 (K : Nat → Prop) : byC Tryz.prog 102 K = K 8 := byC_of (by kernel_rfl) K
theorem ty103 (K : Ty → Prop) : tyC Tryz.prog 103 K = K .func := tyC_of (by kernel_rfl) K
theorem by103 (K : Nat → Prop) : byC Tryz.prog 103 K = K 8 := byC_of (by kernel_rfl) K
theorem ty104 (K : Ty → Prop) : tyC Tryz.prog 104 K = K .func := tyC_of (by kernel_rfl) K
theorem by104 (K : Nat → Prop) : byC Tryz.prog 104 K = K 8 := byC_of (by kernel_rfl) K
theorem ty105 (K : Ty → Prop) : tyC Tryz.prog 105 K = K .func := tyC_of (by kernel_rfl) K
theorem by105 (K : Nat → Prop) : byC Tryz.prog 105 K = K 8 := byC_of (by kernel_rfl) K
theorem ty106 (K : Ty → Prop) : tyC Tryz.prog 106 K = K (.st [(.arr 32 5 (.int .u8)), (.arr 32 5 (.int .u8))]) := tyC_of (by kernel_rfl) K
theorem by106 (K : Nat → Prop) : byC Tryz.prog 106 K = K 64 := byC_of (by kernel_rfl) K
theorem ty107 (K : Ty → Prop) : tyC Tryz.prog 107 K = K .func := tyC_of (by kernel_rfl) K
theorem by107 (K : Nat → Prop) : byC Tryz.prog 107 K = K 8 := byC_of (by kernel_rfl) K
theorem ty108 (K : Ty → Prop) : tyC Tryz.prog 108 K = K .func := tyC_of (by kernel_rfl) K
theorem by108 (K : Nat → Prop) : byC Tryz.prog 108 K = K 8 := byC_of (by kernel_rfl) K
theorem ty109 (K : Ty → Prop) : tyC Tryz.prog 109 K = K .func := tyC_of (by kernel_rfl) K
theorem by109 (K : Nat → Prop) : byC Tryz.prog 109 K = K 8 := byC_of (by kernel_rfl) K
theorem ty110 (K : Ty → Prop) : tyC Tryz.prog 110 K = K .func := tyC_of (by kernel_rfl) K
theorem by110 (K : Nat → Prop) : byC Tryz.prog 110 K = K 8 := byC_of (by kernel_rfl) K
theorem ty111 (K : Ty → Prop) : tyC Tryz.prog 111 K = K .func := tyC_of (by kernel_rfl) K
theorem by111 (K : Nat → Prop) : byC Tryz.prog 111 K = K 8 := byC_of (by kernel_rfl) K
theorem ty112 (K : Ty → Prop) : tyC Tryz.prog 112 K = K .func := tyC_of (by kernel_rfl) K
theorem by112 (K : Nat → Prop) : byC Tryz.prog 112 K = K 8 := byC_of (by kernel_rfl) K
theorem ty113 (K : Ty → Prop) : tyC Tryz.prog 113 K = K .func := tyC_of (by kernel_rfl) K
theorem by113 (K : Nat → Prop) : byC Tryz.prog 113 K = K 8 := byC_of (by kernel_rfl) K
theorem ty114 (K : Ty → Prop) : tyC Tryz.prog 114 K = K .func := tyC_of (by kernel_rfl) K
theorem by114 (K : Nat → Prop) : byC Tryz.prog 114 K = K 8 := byC_of (by kernel_rfl) K
theorem ty115 (K : Ty → Prop) : tyC Tryz.prog 115 K = K .func := tyC_of (by kernel_rfl) K
theorem by115 (K : Nat → Prop) : byC Tryz.prog 115 K = K 8 := byC_of (by kernel_rfl) K
theorem ty116 (K : Ty → Prop) : tyC Tryz.prog 116 K = K .func := tyC_of (by kernel_rfl) K
theorem by116 (K : Nat → Prop) : byC Tryz.prog 116 K = K 8 := byC_of (by kernel_rfl) K
theorem ty117 (K : Ty → Prop) : tyC Tryz.prog 117 K = K (.slice 24) := tyC_of (by kernel_rfl) K
theorem by117 (K : Nat → Prop) : byC Tryz.prog 117 K = K 24 := byC_of (by kernel_rfl) K
theorem ty118 (K : Ty → Prop) : tyC Tryz.prog 118 K = K .func := tyC_of (by kernel_rfl) K
theorem by118 (K : Nat → Prop) : byC Tryz.prog 118 K = K 8 := byC_of (by kernel_rfl) K
theorem ty119 (K : Ty → Prop) : tyC Tryz.prog 119 K = K (.ptr 145) := tyC_of (by kernel_rfl) K
theorem by119 (K : Nat → Prop) : byC Tryz.prog 119 K = K 8 := byC_of (by kernel_rfl) K
theorem ty120 (K : Ty → Prop) : tyC Tryz.prog 120 K = K .func := tyC_of (by kernel_rfl) K
theorem by120 (K : Nat → Prop) : byC Tryz.prog 120 K = K 8 := byC_of (by kernel_rfl) K
theorem ty122 (K : Ty → Prop) : tyC Tryz.prog 122 K = K .func := tyC_of (by kernel_rfl) K
theorem by122 (K : Nat → Prop) : byC Tryz.prog 122 K = K 8 := byC_of (by kernel_rfl) K
theorem ty123 (K : Ty → Prop) : tyC Tryz.prog 123 K = K (.ptr 125) := tyC_of (by kernel_rfl) K
theorem by123 (K : Nat → Prop) : byC Tryz.prog 123 K = K 8 := byC_of (by kernel_rfl) K
theorem ty124 (K : Ty → Prop) : tyC Tryz.prog 124 K = K (.st [(.slice 5)]) := tyC_of (by kernel_rfl) K
theorem by124 (K : Nat → Prop) : byC Tryz.prog 124 K = K 24 := byC_of (by kernel_rfl) K
theorem ty125 (K : Ty → Prop) : tyC Tryz.prog 125 K = K (.st [(.slice 5)]) := tyC_of (by kernel_rfl) K
theorem by125 (K : Nat → Prop) : byC Tryz.prog 125 K = K 24 := byC_of (by kernel_rfl) K
theorem ty126 (K : Ty → Prop) : tyC Tryz.prog 126 K = K .func := tyC_of (by kernel_rfl) K
theorem by126 (K : Nat → Prop) : byC Tryz.prog 126 K = K 8 := byC_of (by kernel_rfl) K
theorem ty127 (K : Ty → Prop) : tyC Tryz.prog 127 K = K .func := tyC_of (by kernel_rfl) K
theorem by127 (K : Nat → Prop) : byC Tryz.prog 127 K = K 8 := byC_of (by kernel_rfl) K
theorem ty128 (K : Ty → Prop) : tyC Tryz.prog 128 K = K .func := tyC_of (by kernel_rfl) K
theorem by128 (K : Nat → Prop) : byC Tryz.prog 128 K = K 8 := byC_of (by kernel_rfl) K
theorem ty129 (K : Ty → Prop) : tyC Tryz.prog 129 K = K .func := tyC_of (by kernel_rfl) K
theorem by129 (K : Nat → Prop) : byC Tryz.prog 129 K = K 8 := byC_of (by kernel_rfl) K
theorem ty130 (K : Ty → Prop) : tyC Tryz.prog 130 K = K (.slice 80) := tyC_of (by kernel_rfl) K
theorem by130 (K : Nat → Prop) : byC Tryz.prog 130 K = K 24 := byC_of (by kernel_rfl) K
theorem ty131 (K : Ty → Prop) : tyC Tryz.prog 131 K = K .func := tyC_of (by kernel_rfl) K
theorem by131 (K : Nat → Prop) : byC Tryz.prog 131 K = K 8 := byC_of (by kernel_rfl) K
theorem ty132 (K : Ty → Prop) : tyC Tryz.prog 132 K = K .func := tyC_of (by kernel_rfl) K
theorem by132 (K : Nat → Prop) : byC Tryz.prog 132 K = K 8 := byC_of (by kernel_rfl) K
theorem ty133 (K : Ty → Prop) : tyC Tryz.prog 133 K = K .func := tyC_of (by kernel_rfl) K
theorem by133 (K : Nat → Prop) : byC Tryz.prog 133 K = K 8 := byC_of (by kernel_rfl) K
theorem ty134 (K : Ty → Prop) : tyC Tryz.prog 134 K = K .func := tyC_of (by kernel_rfl) K
theorem by134 (K : Nat → Prop) : byC Tryz.prog 134 K = K 8 := byC_of (by kernel_rfl) K
theorem ty135 (K : Ty → Prop) : tyC Tryz.prog 135 K = K .func := tyC_of (by kernel_rfl) K
theorem by135 (K : Nat → Prop) : byC Tryz.prog 135 K = K 8 := byC_of (by kernel_rfl) K
theorem ty136 (K : Ty → Prop) : tyC Tryz.prog 136 K = K (.slice 32) := tyC_of (by kernel_rfl) K
theorem by136 (K : Nat → Prop) : byC Tryz.prog 136 K = K 24 := byC_of (by kernel_rfl) K
theorem ty137 (K : Ty → Prop) : tyC Tryz.prog 137 K = K .func := tyC_of (by kernel_rfl) K
theorem by137 (K : Nat → Prop) : byC Tryz.prog 137 K = K 8 := byC_of (by kernel_rfl) K
theorem ty138 (K : Ty → Prop) : tyC Tryz.prog 138 K = K .func := tyC_of (by kernel_rfl) K
theorem by138 (K : Nat → Prop) : byC Tryz.prog 138 K = K 8 := byC_of (by kernel_rfl) K
theorem ty139 (K : Ty → Prop) : tyC Tryz.prog 139 K = K .func := tyC_of (by kernel_rfl) K
theorem by139 (K : Nat → Prop) : byC Tryz.prog 139 K = K 8 := byC_of (by kernel_rfl) K
theorem ty140 (K : Ty → Prop) : tyC Tryz.prog 140 K = K .func := tyC_of (by kernel_rfl) K
theorem by140 (K : Nat → Prop) : byC Tryz.prog 140 K = K 8 := byC_of (by kernel_rfl) K
theorem ty141 (K : Ty → Prop) : tyC Tryz.prog 141 K = K .func := tyC_of (by kernel_rfl) K
theorem by141 (K : Nat → Prop) : byC Tryz.prog 141 K = K 8 := byC_of (by kernel_rfl) K
theorem ty142 (K : Ty → Prop) : tyC Tryz.prog 142 K = K (.st [(.int .u32), (.int .u64), (.int .i64)]) := tyC_of (by kernel_rfl) K
theorem by142 (K : Nat → Prop) : byC Tryz.prog 142 K = K 24 := byC_of (by kernel_rfl) K
theorem ty143 (K : Ty → Prop) : tyC Tryz.prog 143 K = K (.st [(.int .u32), (.int .u64), (.int .i64)]) := tyC_of (by kernel_rfl) K
theorem by143 (K : Nat → Prop) : byC Tryz.prog 143 K = K 24 := byC_of (by kernel_rfl) K
theorem ty144 (K : Ty → Prop) : tyC Tryz.prog 144 K = K (.st [(.st [(.int .u32), (.int .u64), (.int .i64)]), (.st [(.int .i64), (.int .i64)])]) := tyC_of (by kernel_rfl) K
theorem by144 (K : Nat → Prop) : byC Tryz.prog 144 K = K 40 := byC_of (by kernel_rfl) K
theorem ty145 (K : Ty → Prop) : tyC Tryz.prog 145 K = K (.st [(.st [(.int .u32), (.int .u64), (.int .i64)]), (.st [(.int .i64), (.int .i64)])]) := tyC_of (by kernel_rfl) K
theorem by145 (K : Nat → Prop) : byC Tryz.prog 145 K = K 40 := byC_of (by kernel_rfl) K
theorem ty146 (K : Ty → Prop) : tyC Tryz.prog 146 K = K .func := tyC_of (by kernel_rfl) K
theorem by146 (K : Nat → Prop) : byC Tryz.prog 146 K = K 8 := byC_of (by kernel_rfl) K
theorem ty148 (K : Ty → Prop) : tyC Tryz.prog 148 K = K .func := tyC_of (by kernel_rfl) K
theorem by148 (K : Nat → Prop) : byC Tryz.prog 148 K = K 8 := byC_of (by kernel_rfl) K
theorem ty149 (K : Ty → Prop) : tyC Tryz.prog 149 K = K .func := tyC_of (by kernel_rfl) K
theorem by149 (K : Nat → Prop) : byC Tryz.prog 149 K = K 8 := byC_of (by kernel_rfl) K
theorem ty150 (K : Ty → Prop) : tyC Tryz.prog 150 K = K .func := tyC_of (by kernel_rfl) K
theorem by150 (K : Nat → Prop) : byC Tryz.prog 150 K = K 8 := byC_of (by kernel_rfl) K
theorem ty151 (K : Ty → Prop) : tyC Tryz.prog 151 K = K .func := tyC_of (by kernel_rfl) K
theorem by151 (K : Nat → Prop) : byC Tryz.prog 151 K = K 8 := byC_of (by kernel_rfl) K
theorem ty152 (K : Ty → Prop) : tyC Tryz.prog 152 K = K .func := tyC_of (by kernel_rfl) K
theorem by152 (K : Nat → Prop) : byC Tryz.prog 152 K = K 8 := byC_of (by kernel_rfl) K
theorem ty153 (K : Ty → Prop) : tyC Tryz.prog 153 K = K (.ptr 173) := tyC_of (by kernel_rfl) K
theorem by153 (K : Nat → Prop) : byC Tryz.prog 153 K = K 8 := byC_of (by kernel_rfl) K
theorem ty154 (K : Ty → Prop) : tyC Tryz.prog 154 K = K .func := tyC_of (by kernel_rfl) K
theorem by154 (K : Nat → Prop) : byC Tryz.prog 154 K = K 8 := byC_of (by kernel_rfl) K
theorem ty155 (K : Ty → Prop) : tyC Tryz.prog 155 K = K .func := tyC_of (by kernel_rfl) K
theorem by155 (K : Nat → Prop) : byC Tryz.prog 155 K = K 8 := byC_of (by kernel_rfl) K
theorem ty156 (K : Ty → Prop) : tyC Tryz.prog 156 K = K .func := tyC_of (by kernel_rfl) K
theorem by156 (K : Nat → Prop) : byC Tryz.prog 156 K = K 8 := byC_of (by kernel_rfl) K
theorem ty157 (K : Ty → Prop) : tyC Tryz.prog 157 K = K (.int .u64) := tyC_of (by kernel_rfl) K
theorem by157 (K : Nat → Prop) : byC Tryz.prog 157 K = K 8 := byC_of (by kernel_rfl) K
theorem ty158 (K : Ty → Prop) : tyC Tryz.prog 158 K = K .func := tyC_of (by kernel_rfl) K
theorem by158 (K : Nat → Prop) : byC Tryz.prog 158 K = K 8 := byC_of (by kernel_rfl) K
theorem ty159 (K : Ty → Prop) : tyC Tryz.prog 159 K = K .func := tyC_of (by kernel_rfl) K
theorem by159 (K : Nat → Prop) : byC Tryz.prog 159 K = K 8 := byC_of (by kernel_rfl) K
theorem ty160 (K : Ty → Prop) : tyC Tryz.prog 160 K = K .func := tyC_of (by kernel_rfl) K
theorem by160 (K : Nat → Prop) : byC Tryz.prog 160 K = K 8 := byC_of (by kernel_rfl) K
theorem ty161 (K : Ty → Prop) : tyC Tryz.prog 161 K = K .func := tyC_of (by kernel_rfl) K
theorem by161 (K : Nat → Prop) : byC Tryz.prog 161 K = K 8 := byC_of (by kernel_rfl) K
theorem ty162 (K : Ty → Prop) : tyC Tryz.prog 162 K = K .func := tyC_of (by kernel_rfl) K
theorem by162 (K : Nat → Prop) : byC Tryz.prog 162 K = K 8 := byC_of (by kernel_rfl) K
theorem ty163 (K : Ty → Prop) : tyC Tryz.prog 163 K = K .func := tyC_of (by kernel_rfl) K
theorem by163 (K : Nat → Prop) : byC Tryz.prog 163 K = K 8 := byC_of (by kernel_rfl) K
theorem ty164 (K : Ty → Prop) : tyC Tryz.prog 164 K = K (.arr 67 3 (.int .i64)) := tyC_of (by kernel_rfl) K
theorem by164 (K : Nat → Prop) : byC Tryz.prog 164 K = K 536 := byC_of (by kernel_rfl) K
theorem ty165 (K : Ty → Prop) : tyC Tryz.prog 165 K = K .func := tyC_of (by kernel_rfl) K
theorem by165 (K : Nat → Prop) : byC Tryz.prog 165 K = K 8 := byC_of (by kernel_rfl) K
theorem ty166 (K : Ty → Prop) : tyC Tryz.prog 166 K = K .func := tyC_of (by kernel_rfl) K
theorem by166 (K : Nat → Prop) : byC Tryz.prog 166 K = K 8 := byC_of (by kernel_rfl) K
theorem ty167 (K : Ty → Prop) : tyC Tryz.prog 167 K = K .func := tyC_of (by kernel_rfl) K
theorem by167 (K : Nat → Prop) : byC Tryz.prog 167 K = K 8 := byC_of (by kernel_rfl) K
theorem ty168 (K : Ty → Prop) : tyC Tryz.prog 168 K = K .func := tyC_of (by kernel_rfl) K
theorem by168 (K : Nat → Prop) : byC Tryz.prog 168 K = K 8 := byC_of (by kernel_rfl) K
theorem ty169 (K : Ty → Prop) : tyC Tryz.prog 169 K = K (.st [(.arr 32 5 (.int .u8)), (.int .u32), (.int .u64)]) := tyC_of (by kernel_rfl) K
theorem by169 (K : Nat → Prop) : byC Tryz.prog 169 K = K 48 := byC_of (by kernel_rfl) K
theorem ty170 (K : Ty → Prop) : tyC Tryz.prog 170 K = K (.st [(.arr 32 5 (.int .u8)), (.int .u32), (.int .u64)]) := tyC_of (by kernel_rfl) K
theorem by170 (K : Nat → Prop) : byC Tryz.prog 170 K = K 48 := byC_of (by kernel_rfl) K
theorem ty171 (K : Ty → Prop) : tyC Tryz.prog 171 K = K .func := tyC_of (by kernel_rfl) K
theorem by171 (K : Nat → Prop) : byC Tryz.prog 171 K = K 8 := byC_of (by kernel_rfl) K
theorem ty172 (K : Ty → Prop) : tyC Tryz.prog 172 K = K (.st [(.arr 8 80 (.int .u32)), (.slice 5), (.int .i64)]) := tyC_of (by kernel_rfl) K
theorem by172 (K : Nat → Prop) : byC Tryz.prog 172 K = K 64 := byC_of (by kernel_rfl) K
theorem ty173 (K : Ty → Prop) : tyC Tryz.prog 173 K = K (.st [(.arr 8 80 (.int .u32)), (.slice 5), (.int .i64)]) := tyC_of (by kernel_rfl) K
theorem by173 (K : Nat → Prop) : byC Tryz.prog 173 K = K 64 := byC_of (by kernel_rfl) K
theorem ty174 (K : Ty → Prop) : tyC Tryz.prog 174 K = K .func := tyC_of (by kernel_rfl) K
theorem by174 (K : Nat → Prop) : byC Tryz.prog 174 K = K 8 := byC_of (by kernel_rfl) K
theorem ty175 (K : Ty → Prop) : tyC Tryz.prog 175 K = K .func := tyC_of (by kernel_rfl) K
theorem by175 (K : Nat → Prop) : byC Tryz.prog 175 K = K 8 := byC_of (by kernel_rfl) K
theorem ty176 (K : Ty → Prop) : tyC Tryz.prog 176 K = K .func := tyC_of (by kernel_rfl) K
theorem by176 (K : Nat → Prop) : byC Tryz.prog 176 K = K 8 := byC_of (by kernel_rfl) K
theorem ty177 (K : Ty → Prop) : tyC Tryz.prog 177 K = K .func := tyC_of (by kernel_rfl) K
theorem by177 (K : Nat → Prop) : byC Tryz.prog 177 K = K 8 := byC_of (by kernel_rfl) K
theorem ty178 (K : Ty → Prop) : tyC Tryz.prog 178 K = K .func := tyC_of (by kernel_rfl) K
theorem by178 (K : Nat → Prop) : byC Tryz.prog 178 K = K 8 := byC_of (by kernel_rfl) K
theorem ty179 (K : Ty → Prop) : tyC Tryz.prog 179 K = K (.arr 3 23 (.arr 32 5 (.int .u8))) := tyC_of (by kernel_rfl) K
theorem by179 (K : Nat → Prop) : byC Tryz.prog 179 K = K 96 := byC_of (by kernel_rfl) K
theorem ty180 (K : Ty → Prop) : tyC Tryz.prog 180 K = K .func := tyC_of (by kernel_rfl) K
theorem by180 (K : Nat → Prop) : byC Tryz.prog 180 K = K 8 := byC_of (by kernel_rfl) K
theorem ty181 (K : Ty → Prop) : tyC Tryz.prog 181 K = K .func := tyC_of (by kernel_rfl) K
theorem by181 (K : Nat → Prop) : byC Tryz.prog 181 K = K 8 := byC_of (by kernel_rfl) K
theorem ty182 (K : Ty → Prop) : tyC Tryz.prog 182 K = K (.arr 64 80 (.int .u32)) := tyC_of (by kernel_rfl) K
theorem by182 (K : Nat → Prop) : byC Tryz.prog 182 K = K 256 := byC_of (by kernel_rfl) K
theorem ty183 (K : Ty → Prop) : tyC Tryz.prog 183 K = K .func := tyC_of (by kernel_rfl) K
theorem by183 (K : Nat → Prop) : byC Tryz.prog 183 K = K 8 := byC_of (by kernel_rfl) K
theorem ty184 (K : Ty → Prop) : tyC Tryz.prog 184 K = K .func := tyC_of (by kernel_rfl) K
theorem by184 (K : Nat → Prop) : byC Tryz.prog 184 K = K 8 := byC_of (by kernel_rfl) K
theorem ty185 (K : Ty → Prop) : tyC Tryz.prog 185 K = K .func := tyC_of (by kernel_rfl) K
theorem by185 (K : Nat → Prop) : byC Tryz.prog 185 K = K 8 := byC_of (by kernel_rfl) K
theorem ty186 (K : Ty → Prop) : tyC Tryz.prog 186 K = K .func := tyC_of (by kernel_rfl) K
theorem by186 (K : Nat → Prop) : byC Tryz.prog 186 K = K 8 := byC_of (by kernel_rfl) K
theorem ty187 (K : Ty → Prop) : tyC Tryz.prog 187 K = K .func := tyC_of (by kernel_rfl) K
theorem by187 (K : Nat → Prop) : byC Tryz.prog 187 K = K 8 := byC_of (by kernel_rfl) K
theorem ty193 (K : Ty → Prop) : tyC Tryz.prog 193 K = K .func := tyC_of (by kernel_rfl) K
theorem by193 (K : Nat → Prop) : byC Tryz.prog 193 K = K 8 := byC_of (by kernel_rfl) K
theorem ty196 (K : Ty → Prop) : tyC Tryz.prog 196 K = K .func := tyC_of (by kernel_rfl) K
theorem by196 (K : Nat → Prop) : byC Tryz.prog 196 K = K 8 := byC_of (by kernel_rfl) K
theorem ty197 (K : Ty → Prop) : tyC Tryz.prog 197 K = K (.ptr 5) := tyC_of (by kernel_rfl) K
theorem by197 (K : Nat → Prop) : byC Tryz.prog 197 K = K 8 := byC_of (by kernel_rfl) K
attribute [go_sem ↓] ty1 by1 ty2 by2 ty3 by3 ty4 by4 ty5 by5 ty9 by9 ty12 by12 ty15 by15 ty16 by16 ty17 by17 ty21 by21 ty22 by22 ty23 by23 ty24 by24 ty25 by25 ty26 by26 ty27 by27 ty28 by28 ty29 by29 ty30 by30 ty31 by31 ty32 by32 ty33 by33 ty34 by34 ty35 by35 ty36 by36 ty37 by37 ty38 by38 ty39 by39 ty40 by40 ty41 by41 ty42 by42 ty43 by43 ty44 by44 ty45 by45 ty46 by46 ty47 by47 ty48 by48 ty49 by49 ty50 by50 ty51 by51 ty52 by52 ty53 by53 ty54 by54 ty55 by55 ty56 by56 ty57 by57 ty58 by58 ty59 by59 ty60 by60 ty61 by61 ty62 by62 ty63 by63 ty64 by64 ty65 by65 ty67 by67 ty68 by68 ty69 by69 ty70 by70 ty71 by71 ty72 by72 ty73 by73 ty74 by74 ty75 by75 ty76 by76 ty77 by77 ty78 by78 ty79 by79 ty80 by80 ty81 by81 ty82 by82 ty83 by83 ty84 by84 ty85 by85 ty86 by86 ty87 by87 ty88 by88 ty89 by89 ty91 by91 ty92 by92 ty93 by93 ty94 by94 ty95 by95 ty96 by96 ty97 by97 ty98 by98 ty99 by99 ty100 by100 ty101 by101 ty102 by102 ty103 by103 ty104 by104 ty105 by105 ty106 by106 ty107 by107 ty108 by108 ty109 by109 ty110 by110 ty111 by111 ty112 by112 ty113 by113 ty114 by114 ty115 by115 ty116 by116 ty117 by117 ty118 by118 ty119 by119 ty120 by120 ty122 by122 ty123 by123 ty124 by124 ty125 by125 ty126 by126 ty127 by127 ty128 by128 ty129 by129 ty130 by130 ty131 by131 ty132 by132 ty133 by133 ty134 by134 ty135 by135 ty136 by136 ty137 by137 ty138 by138 ty139 by139 ty140 by140 ty141 by141 ty142 by142 ty143 by143 ty144 by144 ty145 by145 ty146 by146 ty148 by148 ty149 by149 ty150 by150 ty151 by151 ty152 by152 ty153 by153 ty154 by154 ty155 by155 ty156 by156 ty157 by157 ty158 by158 ty159 by159 ty160 by160 ty161 by161 ty162 by162 ty163 by163 ty164 by164 ty165 by165 ty166 by166 ty167 by167 ty168 by168 ty169 by169 ty170 by170 ty171 by171 ty172 by172 ty173 by173 ty174 by174 ty175 by175 ty176 by176 ty177 by177 ty178 by178 ty179 by179 ty180 by180 ty181 by181 ty182 by182 ty183 by183 ty184 by184 ty185 by185 ty186 by186 ty187 by187 ty193 by193 ty196 by196 ty197 by197
end Go.Proofs.YthhlielliopegaaGreat
namespace Go.Proofs.YthhlielliopegaaGreat
open Go Go.Sy
/-- planchet/planchetlaw22.VerifyHeads -/
def pl4 : List (Nat × Plan) := [(4, [(0, [], none), (1, [0], none), (2, [0, 1], none), (3, [0, 1], none), (4, [0, 1, 2, 3], none), (5, [0, 1, 2, 3], none), (6, [0, 1, 2, 3, 4, 5], none), (7, [0, 1, 2, 3, 4, 5], none), (8, [0, 1, 2, 3, 4, 5, 6, 7], none), (9, [0, 1, 2, 3, 4, 5, 6, 7], none), (10, [0, 1], none), (11, [], none), (12, [], none)]), (5, [(0, [], none), (1, [0], none), (2, [0, 1], none), (3, [0, 1], none), (4, [0, 1, 2, 3], none), (5, [0, 1], none), (6, [], none), (7, [], none)])]
/-- planchet/planchetref22.Shown -/
def pl7 : List (Nat × Plan) := [(4, [(0, [], none), (1, [0], none), (2, [0, 1], none), (3, [0], none), (4, [], none), (5, [], none), (6, [0, 1, 2, 3, 4, 5], none), (7, [], some [18])]), (5, [(0, [], none), (1, [0], none), (2, [0, 1], none), (3, [0, 1, 2], none), (4, [], none), (5, [0, 1, 2, 3, 4], none), (6, [], none), (7, [], none)])]
/-- planchet/planchetref22.Absent -/
def pl9 : List (Nat × Plan) := [(3, [(0, [], none), (1, [], none), (2, [], none), (3, [0, 1, 2], none), (4, [0, 1, 2, 3], none), (5, [0, 1, 2, 3, 4], none), (6, [1, 2], none), (7, [0, 1, 2, 3, 4, 5, 6], none), (8, [0, 1, 2, 3, 4, 5, 6, 7], none), (9, [], none), (10, [0, 1, 2, 3, 4, 5, 6, 7, 8, 9], none), (11, [], none), (12, [], none)])]
/-- planchet/planchetref11.Verify -/
def pl13 : List (Nat × Plan) := [(12, [(0, [], none), (1, [], none), (2, [0, 1], none), (3, [0, 1, 2], none), (4, [0, 1, 2], none), (5, [0, 1, 2, 3, 4], none), (6, [0, 1, 2, 3, 4], none), (7, [0, 1, 2, 3, 4, 5, 6], none), (8, [0, 1, 2, 3, 4, 5, 6], none), (9, [0, 1, 2, 3, 4, 5, 6, 7, 8], none), (10, [0, 1, 2, 3, 4, 5, 6, 7, 8], none), (11, [0, 1, 2, 3, 4], none), (12, [], none), (13, [], none)]), (13, [(0, [], none), (1, [0], none), (2, [0], none), (3, [0, 1, 2], none), (4, [0, 1, 2], none), (5, [0, 1, 2, 3, 4], none), (6, [0, 1, 2, 3, 4], none), (7, [0, 1, 2, 3, 4, 5, 6], none), (8, [0, 1, 2, 3, 4, 5, 6], none), (9, [0, 1, 2], none), (10, [], none), (11, [0, 1, 2, 3, 4, 5, 6, 7, 8, 9, 10], none), (12, [], some [14])])]
/-- planchet/planchetref20.HeadText -/
def pl14 : List (Nat × Plan) := [(1, [(0, [], none), (1, [0], none), (2, [0, 1], none), (3, [0], none), (4, [], some [9, 12]), (5, [0, 1, 2, 3, 4], none), (6, [0, 1, 2, 3, 4, 5], none), (7, [0, 1, 2, 3, 4], none), (8, [], some [13, 16]), (9, [], none)])]
/-- planchet/planchetref20.KeyText -/
def pl15 : List (Nat × Plan) := [(1, [(0, [], none), (1, [0], none), (2, [0, 1], none), (3, [0, 1], none), (4, [0, 1], none), (5, [0, 1, 2, 3, 4], none), (6, [0, 1, 2, 3, 4], none), (7, [0, 1, 2, 3, 4], none), (8, [0], none), (9, [], some [5, 13]), (10, [0, 1, 2, 3, 4, 5, 6, 7, 8, 9], none), (11, [0, 1, 2, 3, 4, 5, 6, 7, 8, 9], none), (12, [0, 1, 2, 3, 4, 5, 6, 7, 8, 9, 10, 11], none), (13, [0, 1, 2, 3, 4, 5, 6, 7, 8, 9, 10, 11], none), (14, [0, 1, 2, 3, 4, 5, 6, 7, 8, 9], none), (15, [], some [14, 19]), (16, [], none)])]
/-- planchet/verify.Head -/
def pl17 : List (Nat × Plan) := [(1, [(0, [], none), (1, [0], none), (2, [0, 1], none), (3, [0, 1], none), (4, [0, 1], none), (5, [], none), (6, [], none)])]
/-- planchet/verify.Next -/
def pl18 : List (Nat × Plan) := [(1, [(0, [], none), (1, [0], none), (2, [0, 1], none), (3, [0, 1, 2], none), (4, [0, 1], none), (5, [0, 1], none), (6, [], none), (7, [], none)])]
/-- planchet/planchetref16.From -/
def pl22 : List (Nat × Plan) := [(1, [(0, [], none), (1, [0], none), (2, [0, 1], none), (3, [0], none), (4, [], none), (5, [], none), (6, [], some [6])])]
/-- planchet/planchetref17.Leaf -/
def pl23 : List (Nat × Plan) := [(1, [(0, [], none), (1, [0], none), (2, [0], none), (3, [], some [3]), (4, [0, 1, 2, 3], none), (5, [0, 1, 2, 3], none), (6, [], some [6]), (7, [], none), (8, [], some [2])])]
/-- planchet/commit.From -/
def pl26 : List (Nat × Plan) := [(3, [(0, [], none), (1, [0], none), (2, [0, 1], none), (3, [1], none), (4, [0, 1, 2, 3], none), (5, [], none), (6, [], none), (7, [], some [6]), (8, [], none)])]
/-- planchet/commit.Made -/
def pl27 : List (Nat × Plan) := [(3, [(0, [], none), (1, [0], none), (2, [0, 1], none), (3, [0], none), (4, [], none), (5, [], some [4]), (6, [], none)])]
/-- planchet/proof.Present -/
def pl28 : List (Nat × Plan) := [(1, [(0, [], none), (1, [0], none), (2, [], none), (3, [], none), (4, [0, 1, 2, 3], none), (5, [0, 1, 2, 3, 4], none), (6, [0, 1, 2, 3, 4, 5], none), (7, [], none), (8, [], none)])]
/-- planchet/planchetref11.Formed -/
def pl34 : List (Nat × Plan) := [(1, [(0, [], none), (1, [], none), (2, [], none), (3, [], none), (4, [], none), (5, [], none), (6, [4, 5], none), (7, [4, 5], none), (8, [], none), (9, [], none), (10, [], none), (11, [], none), (12, [], none), (13, [], none), (14, [11, 12, 13], none), (15, [11, 12, 13], none), (16, [], none), (17, [], none)]), (6, [(0, [], none), (1, [], none), (2, [0, 1], none), (3, [], none), (4, [], none), (5, [], none), (6, [], none), (7, [], none), (8, [], none), (9, [], none), (10, [], none), (11, [9, 10], none), (12, [], none), (13, [], none), (14, [], none), (15, [], none), (16, [9, 10, 11, 12, 13, 14, 15], none), (17, [9, 10, 11, 12, 13, 14, 15], none), (18, [], none), (19, [], none)])]
/-- planchet/planchetref08.From -/
def pl37 : List (Nat × Plan) := [(1, [(0, [], none), (1, [0], none), (2, [0], none), (3, [0], none), (4, [0, 1, 2, 3], none), (5, [0, 1, 2, 3, 4], none), (6, [], none), (7, [], none)])]
/-- planchet/planchetref10.Climb -/
def pl40 : List (Nat × Plan) := [(5, [(0, [], none), (1, [0], none), (2, [0, 1], none), (3, [0], none), (4, [0], none), (5, [0, 1, 2, 3, 4], none), (6, [0, 1, 2, 3, 4, 5], none), (7, [0, 1, 2, 3, 4, 5, 6], none), (8, [0, 1, 2, 3, 4, 5, 6, 7], none), (9, [0, 1, 2, 3, 4, 5, 6, 7, 8], none), (10, [0, 1, 2, 3, 4, 5, 6, 7, 8], none), (11, [], none), (12, [], some [6])]), (6, [(0, [], none), (1, [0], none), (2, [], none), (3, [], none), (4, [0, 1, 2, 3], none), (5, [0, 1, 2, 3, 4], none), (6, [0, 1, 2, 3, 4, 5], none), (7, [0, 1, 2, 3, 4, 5, 6], none), (8, [0, 1, 2, 3, 4, 5, 6, 7], none), (9, [0, 1, 2, 3, 4, 5, 6, 7, 8], none), (10, [0, 1, 2, 3, 4, 5, 6, 7, 8], none), (11, [], none), (12, [], some [6])])]
/-- planchet/planchetref19.Both -/
def pl43 : List (Nat × Plan) := [(3, [(0, [], none), (5, [], some [10]), (1, [0, 5], none), (6, [], some [11]), (2, [0, 5, 1, 6], none), (3, [0, 5, 1, 6], none), (4, [0, 5, 1, 6], none), (7, [], none)]), (5, [(0, [], none), (2, [], some [10]), (1, [0, 2], none), (3, [], some [11]), (4, [], none)]), (6, [(0, [], none), (1, [], none), (2, [], none), (6, [], some [10]), (3, [0, 1, 2, 6], none), (4, [0, 1, 2, 6], none), (5, [0, 1, 2, 6], none), (7, [], some [11]), (8, [], none)]), (8, [(0, [], none), (2, [], some [10]), (1, [0, 2], none), (3, [], some [11]), (4, [], none)]), (12, [(0, [], none), (1, [0], none), (2, [0, 1], none), (3, [0, 1, 2], none), (4, [0, 1, 2, 3], none), (5, [0, 1, 2, 3, 4], none), (6, [0, 1, 2, 3, 4], none), (7, [0, 1, 2, 3, 4], none), (8, [0, 1, 2, 3], none), (9, [], none), (10, [], none), (11, [], none), (14, [0, 1, 2, 3, 4, 5, 6, 7, 8, 9, 10, 11], none), (15, [0, 1, 2, 3, 4, 5, 6, 7, 8, 9, 10, 11, 14], none), (16, [], some [15]), (12, [11, 14, 15, 16], none), (17, [], some [16]), (13, [11, 14, 15, 16, 12, 17], none), (18, [], none)]), (13, [(0, [], none), (1, [0], none), (2, [0, 1], none), (3, [0], none), (5, [], some [10]), (6, [], some [11]), (4, [0, 1, 2, 3, 5, 6], none), (7, [], none)]), (14, [(0, [], none), (1, [0], none), (2, [0, 1], none), (3, [0], none), (4, [0, 1, 2, 3], none), (5, [0, 1, 2, 3, 4], none), (6, [0, 1, 2, 3], none), (7, [0, 1, 2, 3, 4, 5, 6], none), (8, [0, 1, 2, 3, 4, 5, 6, 7], none), (9, [0, 1, 2, 3, 4, 5, 6, 7], none), (10, [0, 1, 2, 3, 4, 5, 6, 7], none), (11, [0, 1, 2, 3, 4, 5, 6], none), (12, [], none), (13, [], none), (14, [], none), (17, [0, 1, 2, 3, 4, 5, 6, 7, 8, 9, 10, 11, 12, 13, 14], none), (18, [0, 1, 2, 3, 4, 5, 6, 7, 8, 9, 10, 11, 12, 13, 14, 17], none), (19, [], some [18]), (15, [14, 17, 18, 19], none), (20, [], some [19]), (16, [14, 17, 18, 19, 15, 20], none), (21, [], none)]), (15, [(0, [], none), (1, [0], none), (2, [], none), (3, [0, 1, 2], none), (4, [0, 1, 2, 3], none), (5, [], none), (7, [], some [10]), (8, [], some [11]), (6, [0, 1, 2, 3, 4, 5, 7, 8], none), (9, [], none)])]
/-- planchet/hyper.Verify -/
def pl44 : List (Nat × Plan) := [(1, [(0, [], none), (1, [], none), (2, [], none), (3, [], none), (4, [], none), (5, [], none), (6, [4, 5], none), (7, [4, 5], none), (8, [4, 5], none), (9, [], none), (10, [], none), (11, [], none), (12, [], none), (13, [], none), (14, [], none), (15, [12, 13, 14], none), (16, [12, 13, 14], none), (17, [12, 13, 14], none), (18, [], none), (19, [], none)])]
/-- planchet/wire.HeadText -/
def pl45 : List (Nat × Plan) := [(2, [(0, [], none), (1, [0], none), (2, [0], none), (3, [0, 1, 2], none), (4, [0, 1, 2], none), (5, [0], none), (6, [], some [7, 12]), (7, [0, 1, 2, 3, 4, 5, 6], none), (8, [0, 1, 2, 3, 4, 5, 6], none), (9, [0, 1, 2, 3, 4, 5, 6, 7, 8], none), (10, [0, 1, 2, 3, 4, 5, 6, 7, 8], none), (11, [0, 1, 2, 3, 4, 5, 6], none), (12, [], some [13, 18]), (13, [], none), (14, [], none), (15, [], none), (16, [], none)])]
/-- planchet/wire.KeyText -/
def pl46 : List (Nat × Plan) := [(2, [(0, [], none), (1, [0], none), (2, [0, 1], none), (3, [0, 1], none), (4, [0, 1], none), (5, [0, 1, 2, 3, 4], none), (6, [0, 1, 2, 3, 4], none), (7, [0, 1, 2, 3, 4], none), (8, [0], none), (9, [], some [9, 17]), (10, [0, 1, 2, 3, 4, 5, 6, 7, 8, 9], none), (11, [0, 1, 2, 3, 4, 5, 6, 7, 8, 9], none), (12, [0, 1, 2, 3, 4, 5, 6, 7, 8, 9, 10, 11], none), (13, [0, 1, 2, 3, 4, 5, 6, 7, 8, 9, 10, 11], none), (14, [0, 1, 2, 3, 4, 5, 6, 7, 8, 9], none), (15, [], some [18, 23]), (16, [], none), (17, [], none), (18, [], none), (19, [], none)])]
/-- planchet/planchetref01.Sum -/
def pl49 : List (Nat × Plan) := [(12, [(0, [], none), (1, [0], none), (2, [0, 1], none), (3, [0, 1, 2], none), (4, [0, 1], none), (5, [0, 1], none), (6, [0, 1], none), (7, [0, 1], none), (8, [0, 1, 2, 3, 4, 5, 6, 7], none), (9, [0, 1, 2, 3, 4, 5, 6, 7, 8], none), (10, [0, 1, 2, 3, 4, 5, 6, 7, 8], none), (11, [0, 1, 2, 3, 4, 5, 6, 7], none), (12, [0, 1, 2, 3, 4, 5, 6, 7], none), (13, [0, 1, 2, 3, 4, 5, 6, 7], none), (14, [0, 1, 2, 3, 4, 5, 6, 7], none), (15, [0, 1], none), (16, [0, 1, 2, 3, 4, 5, 6, 7, 8, 9, 10, 11, 12, 13, 14, 15], none), (17, [0, 1, 2, 3, 4, 5, 6, 7, 8, 9, 10, 11, 12, 13, 14, 15, 16], none), (18, [0, 1, 2, 3, 4, 5, 6, 7, 8, 9, 10, 11, 12, 13, 14, 15, 16], none), (19, [0, 1, 2, 3, 4, 5, 6, 7, 8, 9, 10, 11, 12, 13, 14, 15], none), (20, [0, 1, 2, 3, 4, 5, 6, 7, 8, 9, 10, 11, 12, 13, 14, 15], none), (21, [0, 1, 2, 3, 4, 5, 6, 7, 8, 9, 10, 11, 12, 13, 14, 15], none), (22, [0, 1, 2, 3, 4, 5, 6, 7, 8, 9, 10, 11, 12, 13, 14, 15], none), (23, [0, 1], none), (24, [0, 1, 2, 3, 4, 5, 6, 7, 8, 9, 10, 11, 12, 13, 14, 15, 16, 17, 18, 19, 20, 21, 22, 23], none), (25, [0, 1, 2, 3, 4, 5, 6, 7, 8, 9, 10, 11, 12, 13, 14, 15, 16, 17, 18, 19, 20, 21, 22, 23, 24], none), (26, [0, 1, 2, 3, 4, 5, 6, 7, 8, 9, 10, 11, 12, 13, 14, 15, 16, 17, 18, 19, 20, 21, 22, 23, 24], none), (27, [0, 1, 2, 3, 4, 5, 6, 7, 8, 9, 10, 11, 12, 13, 14, 15, 16, 17, 18, 19, 20, 21, 22, 23], none), (28, [0, 1, 2, 3, 4, 5, 6, 7, 8, 9, 10, 11, 12, 13, 14, 15, 16, 17, 18, 19, 20, 21, 22, 23], none), (29, [0, 1, 2, 3, 4, 5, 6, 7, 8, 9, 10, 11, 12, 13, 14, 15, 16, 17, 18, 19, 20, 21, 22, 23], none), (30, [0, 1], none), (31, [], none), (32, [], some [74])]), (18, [(0, [], none), (1, [0], none), (2, [0, 1], none), (3, [0, 1], none), (4, [0, 1, 2, 3], none), (5, [0, 1], none), (6, [0, 1], none), (7, [0, 1, 2, 3, 4, 5, 6], none), (8, [0, 1, 2, 3, 4, 5, 6], none), (9, [0, 1], none), (10, [0, 1, 2, 3, 4, 5, 6, 7, 8, 9], none), (11, [0, 1, 2, 3, 4, 5, 6, 7, 8, 9, 10], none), (12, [0, 1, 2, 3, 4, 5, 6, 7, 8, 9, 10], none), (13, [0, 1, 2, 3, 4, 5, 6, 7, 8, 9], none), (14, [0, 1, 2, 3, 4, 5, 6, 7, 8, 9], none), (15, [0, 1], none), (16, [0, 1, 2, 3, 4, 5, 6, 7, 8, 9, 10, 11, 12, 13, 14, 15], none), (17, [0, 1, 6, 7, 8, 9, 10, 11, 12, 13, 14, 15], none), (18, [0, 1, 2, 3, 4, 5, 6, 7, 8, 9, 10, 11, 12, 13, 14, 15, 16, 17], none), (19, [0, 1, 6, 7, 8, 9, 10, 11, 12, 13, 14, 15], none), (20, [0, 1, 6, 7, 8, 9, 10, 11, 12, 13, 14, 15], none), (21, [0, 1, 2, 3, 4, 5, 6, 7, 8, 9, 10, 11, 12, 13, 14, 15, 16, 17, 18, 19, 20], none), (22, [0, 1, 2, 3, 4, 5, 6, 7, 8, 9, 10, 11, 12, 13, 14, 15, 16, 17, 18, 19, 20], none), (23, [0, 1, 6, 7, 8, 9, 10, 11, 12, 13, 14, 15], none), (24, [0, 1], none), (25, [0, 1, 2, 3, 4, 5, 6, 7, 8, 9, 10, 11, 12, 13, 14, 15, 16, 17, 18, 19, 20, 21, 22, 23, 24], none), (26, [0, 1, 2, 3, 4, 5, 6, 7, 8, 9, 10, 11, 12, 13, 14, 15, 16, 17, 18, 19, 20, 21, 22, 23, 24, 25], none), (27, [0, 1, 2, 3, 4, 5, 6, 7, 8, 9, 10, 11, 12, 13, 14, 15, 16, 17, 18, 19, 20, 21, 22, 23, 24, 25], none), (28, [0, 1, 2, 3, 4, 5, 6, 7, 8, 9, 10, 11, 12, 13, 14, 15, 16, 17, 18, 19, 20, 21, 22, 23, 24], none), (29, [0, 1, 2, 3, 4, 5, 6, 7, 8, 9, 10, 11, 12, 13, 14, 15, 16, 17, 18, 19, 20, 21, 22, 23, 24], none), (30, [0, 1], none), (31, [], none), (32, [], some [120])]), (25, [(0, [], none), (1, [0], none), (2, [0], none), (3, [0], none), (4, [], none), (5, [0, 1, 2, 3, 4], none), (6, [0, 1, 2, 3, 4], none), (7, [0, 1, 2, 3, 4, 5, 6], none), (8, [0, 1, 2, 3, 4, 5, 6], none), (9, [0, 1, 2, 3, 4, 5, 6], none), (10, [0, 1, 2, 3, 4], none), (11, [], none), (12, [], none)]), (26, [(0, [], none), (1, [0], none), (2, [0], none), (3, [0], none), (4, [], none), (5, [0, 1, 2, 3, 4], none), (6, [0, 1, 2, 3, 4, 5], none), (7, [0, 1, 2, 3, 4, 5], none), (8, [0, 1, 2, 3, 4, 5], none), (9, [0, 1, 2, 3, 4], none), (10, [], none), (11, [0, 1, 2, 3, 4, 5, 6, 7, 8, 9, 10], none), (12, [0, 1, 2, 3, 4, 5, 6, 7, 8, 9, 10], none), (13, [0, 1, 2, 3, 4, 5, 6, 7, 8, 9, 10], none), (14, [0, 1, 2, 3, 4, 5, 6, 7, 8, 9, 10, 11, 12, 13], none), (15, [0, 1, 2, 3, 4, 5, 6, 7, 8, 9, 10, 11, 12, 13], none), (16, [0, 1, 2, 3, 4, 5, 6, 7, 8, 9, 10, 11, 12, 13], none), (17, [0, 1, 2, 3, 4, 5, 6, 7, 8, 9, 10], none), (18, [], none), (19, [], none)]), (27, [(0, [], none), (1, [], none), (2, [], none), (3, [0, 1, 2], none), (4, [0, 1, 2], none), (5, [0, 1, 2, 3, 4], none), (6, [0, 1, 2], none), (7, [0, 1, 2], none), (8, [0, 1, 2, 3, 4, 5, 6, 7], none), (9, [0, 1, 2, 7], none), (10, [0, 1, 2], none), (11, [], none), (12, [0, 1, 2, 3, 4, 5, 6, 7, 8, 9, 10, 11], none), (13, [], none), (14, [0, 1, 2, 3, 4, 5, 6, 7, 8, 9, 10, 11, 12, 13], none), (15, [0, 1, 2, 3, 4, 5, 6, 7, 8, 9, 10, 11, 12, 13, 14], none), (16, [0, 1, 2, 3, 4, 5, 6, 7, 8, 9, 10, 11, 12, 13], none), (17, [0, 1, 2, 3, 4, 5, 6, 7, 8, 9, 10, 11, 12, 13], none), (18, [], none), (19, [0, 1, 2, 3, 4, 5, 6, 7, 8, 9, 10, 11, 12, 13, 14, 15, 16, 17, 18], none), (20, [0, 1, 2, 3, 4, 5, 6, 7, 8, 9, 10, 11, 12, 13, 14, 15, 16, 17, 18, 19], none), (21, [0, 1, 2, 3, 4, 5, 6, 7, 8, 9, 10, 11, 12, 13, 14, 15, 16, 17, 18], none), (22, [0, 1, 2, 3, 4, 5, 6, 7, 8, 9, 10, 11, 12, 13, 14, 15, 16, 17, 18], none), (23, [], none), (24, [], none)]), (29, [(0, [], none), (1, [0], none), (2, [], none), (3, [0, 1, 2], none), (4, [0, 1, 2, 3], none), (5, [0, 1, 2, 3], none), (6, [0, 1, 2, 3], none), (7, [0, 1, 2, 3, 4, 5, 6], none), (8, [0, 1, 2, 3, 4, 5, 6], none), (9, [0, 1, 2, 3, 4, 5, 6], none), (10, [0, 1, 2, 3, 4, 5, 6, 7, 8, 9], none), (11, [0, 1, 2, 3, 4, 5, 6, 7, 8, 9], none), (12, [0, 1, 2, 3, 4, 5, 6, 7, 8, 9], none), (13, [0, 1, 2, 3, 4, 5, 6, 7, 8, 9, 10, 11, 12], none), (14, [0, 1, 2, 3, 4, 5, 6, 7, 8, 9], none), (15, [0, 1, 2, 3, 4, 5, 6, 7, 8, 9, 10, 11, 12, 13, 14], none), (16, [0, 1, 2, 3, 4, 5, 6, 7, 8, 9, 10, 11, 12, 13, 14, 15], none), (17, [0, 1, 2, 3, 4, 5, 6, 7, 8, 9, 10, 11, 12, 13, 14, 15], none), (18, [0, 1, 2, 3, 4, 5, 6, 7, 8, 9, 10, 11, 12, 13, 14, 15], none), (19, [0, 1, 2, 3, 4, 5, 6, 7, 8, 9, 10, 11, 12, 13, 14, 15, 16, 17, 18], none), (20, [0, 1, 2, 3, 4, 5, 6, 7, 8, 9, 10, 11, 12, 13, 14, 15, 16, 17, 18], none), (21, [0, 1, 2, 3, 4, 5, 6, 7, 8, 9, 10, 11, 12, 13, 14, 15, 16, 17, 18], none), (22, [], none), (23, [], none)]), (33, [(0, [], none), (1, [0], none), (2, [0, 1], none), (3, [0, 1, 2], none), (4, [0, 1], none), (5, [0, 1], none), (6, [0, 1, 2, 3, 4, 5], none), (7, [0, 1, 2, 3, 4, 5, 6], none), (8, [0, 1, 2, 3, 4, 5], none), (9, [0, 1, 2, 3, 4, 5], none), (10, [0, 1], none), (11, [], none), (12, [], some [237])])]
/-- planchet/planchetref17.Node -/
def pl53 : List (Nat × Plan) := [(1, [(0, [], none), (1, [0], none), (2, [], some [5]), (3, [0, 1, 2], none), (4, [], some [7]), (5, [], none), (6, [], some [4])])]
/-- planchet/ptree.Leaf -/
def pl59 : List (Nat × Plan) := [(1, [(0, [], none), (1, [0], none), (2, [0], none), (3, [0, 1, 2], none), (4, [0, 1, 2], none), (5, [], none), (6, [], none), (7, [], some [2])])]
/-- planchet/proof.Absent -/
def pl62 : List (Nat × Plan) := [(1, [(0, [], none), (1, [], none), (2, [], none), (3, [0, 1, 2], none), (4, [0, 1, 2, 3], none), (5, [0, 1, 2, 3, 4], none), (6, [], none), (7, [], none)])]
/-- planchet/planchetref05.Message -/
def pl65 : List (Nat × Plan) := [(2, [(1, [], none), (2, [1], none), (3, [], some [17]), (0, [1, 2, 3], none), (4, [], none), (5, [], some [8])])]
/-- planchet/planchetref08.runs -/
def pl66 : List (Nat × Plan) := [(5, [(0, [], none), (1, [0], none), (2, [0, 1], none), (3, [0], none), (4, [0], none), (5, [0, 1, 2, 3, 4], none), (6, [0, 1, 2, 3, 4, 5], none), (7, [0, 1, 2, 3, 4], none), (8, [0, 1, 2, 3, 4], none), (9, [0, 1, 2, 3, 4, 5, 6, 7, 8], none), (10, [0, 1, 2, 3, 4, 5, 6, 7, 8, 9], none), (11, [0, 1, 2, 3, 4, 5, 6, 7, 8], none), (12, [0, 1, 2, 3, 4, 5, 6, 7, 8], none), (13, [0, 1, 2, 3, 4, 5, 6, 7, 8, 9, 10, 11, 12], none), (14, [0, 1, 2, 3, 4, 5, 6, 7, 8, 9, 10, 11, 12, 13], none), (15, [0, 1, 2, 3, 4, 5, 6, 7, 8, 9, 10, 11, 12], none), (16, [0, 1, 2, 3, 4, 5, 6, 7, 8, 9, 10, 11, 12], none), (17, [0, 1, 2, 3, 4, 5, 6, 7, 8], none), (18, [0, 1, 2, 3, 4, 5, 6, 7, 8, 9, 10, 11, 12, 13, 14, 15, 16, 17], none), (19, [0, 1, 2, 3, 4, 5, 6, 7, 8, 9, 10, 11, 12, 13, 14, 15, 16, 17, 18], none), (20, [0, 1, 2, 3, 4, 5, 6, 7, 8, 9, 10, 11, 12, 13, 14, 15, 16, 17, 18, 19], none), (21, [0, 1, 2, 3, 4, 5, 6, 7, 8, 9, 10, 11, 12, 13, 14, 15, 16, 17, 18, 19], none), (22, [0, 1, 2, 3, 4, 5, 6, 7, 8, 9, 10, 11, 12, 13, 14, 15, 16, 17, 18], none), (23, [0], none), (24, [0], none), (25, [], some [17]), (26, [], none)])]
/-- planchet/planchetref09.up -/
def pl69 : List (Nat × Plan) := [(7, [(0, [], none), (1, [0], none), (2, [0, 1], none), (3, [0], none), (4, [0], none), (5, [0, 1, 2, 3, 4], none), (6, [0, 1, 2, 3, 4, 5], none), (7, [0, 1, 2, 3, 4, 5], none), (8, [0, 1, 2, 3, 4], none), (9, [0, 1, 2, 3, 4], none), (10, [0, 1, 2, 3, 4, 5, 6, 7, 8, 9], none), (11, [0, 1, 2, 3, 4, 5, 6, 7, 8, 9, 10], none), (12, [0, 1, 2, 3, 4, 5, 6, 7, 8, 9, 10, 11], none), (13, [0, 1, 2, 3, 4, 5, 6, 7, 8, 9, 10, 11, 12], none), (14, [0, 1, 2, 3, 4, 5, 6, 7, 8, 9, 10, 11, 12], none), (15, [0, 1, 2, 3, 4, 5, 6, 7, 8, 9, 10, 11, 12], none), (16, [0, 1, 2, 3, 4, 5, 6, 7, 8, 9, 10], none), (17, [0], none), (18, [0], none), (19, [], some [24]), (20, [], none)])]
/-- planchet/planchetref10.two -/
def pl70 : List (Nat × Plan) := [(1, [(0, [], none), (1, [0], none), (2, [0, 1], none), (3, [0, 1, 2], none), (4, [0, 1, 2, 3], none), (5, [0, 1, 2], none), (6, [0, 1, 2, 3, 4, 5], none), (7, [0, 1, 2, 3, 4, 5], none), (8, [0, 1, 2, 3, 4, 5, 6, 7], none), (9, [0, 1, 2, 3, 4, 5, 6, 7], none), (10, [0, 1, 2], none), (11, [], none), (12, [], some [14])])]
/-- (*planchet/hyper.climber).over -/
def pl76 : List (Nat × Plan) := [(1, [(0, [], none), (1, [], none), (2, [0, 1], none), (3, [0, 1, 2], none), (4, [0, 1, 2, 3], none), (5, [0, 1, 2, 3], none), (6, [0, 1, 2, 3], none), (7, [0, 1, 2, 3], none), (8, [0, 1, 2, 3], none), (9, [], none), (10, [], none), (11, [], none), (12, [11], none), (13, [12], none), (14, [], none)]), (2, [(0, [], none), (1, [], none), (2, [], none), (3, [], none), (4, [], none), (5, [], none), (6, [3, 4, 5], none), (7, [3, 4, 5], none), (8, [3, 4, 5], none), (9, [3, 4, 5], none), (10, [3, 4, 5], none), (11, [], none), (12, [], none)]), (4, [(0, [], none), (1, [0], none), (2, [0, 1], none), (3, [0, 1], none), (4, [0, 1], none), (5, [0, 1], none), (6, [0, 1], none), (7, [0, 1, 2, 3, 4, 5, 6], none), (8, [0, 1, 2, 3, 4, 5, 6], none), (9, [0, 1, 2, 3, 4, 5, 6], none), (10, [0, 1, 2, 3, 4, 5, 6], none), (11, [0, 1, 2, 3, 4, 5, 6], none), (12, [0, 1, 2, 3, 4, 5, 6, 7, 8, 9, 10, 11], none), (13, [0, 1, 2, 3, 4, 5, 6, 7, 8, 9, 10, 11], none), (14, [0, 1, 2, 3, 4, 5, 6, 7, 8, 9, 10, 11], none), (15, [0, 1, 2, 3, 4, 5, 6, 7, 8, 9, 10, 11], none), (16, [0, 1, 2, 3, 4, 5, 6, 7, 8, 9, 10, 11], none), (17, [0, 1, 2, 3, 4, 5, 6, 7, 8, 9, 10, 11], none), (18, [0, 1], none), (19, [], none), (20, [], none), (21, [], none), (23, [0, 1, 2, 3, 4, 5, 6, 7, 8, 9, 10, 11, 12, 13, 14, 15, 16, 17, 18, 19, 20, 21], none), (24, [], some [12]), (22, [21, 23, 24], none), (25, [], none)]), (7, [(0, [], none), (1, [0], none), (2, [0], none), (3, [0, 1, 2], none), (4, [0, 1, 2], none), (5, [0, 1, 2], none), (6, [0, 1, 2], none), (7, [0, 1, 2], none), (8, [0, 1, 2, 3, 4, 5, 6, 7], none), (9, [0, 1, 2, 3, 4, 5, 6, 7, 8], none), (10, [0, 1, 2, 3, 4, 5, 6, 7, 8], none), (11, [0, 1, 2, 3, 4, 5, 6, 7, 8], none), (12, [0, 1, 2, 3, 4, 5, 6, 7, 8], none), (13, [0, 1, 2, 3, 4, 5, 6, 7, 8], none), (14, [0, 1, 2, 3, 4, 5, 6, 7, 8, 9, 10, 11, 12, 13], none), (15, [0, 1, 2, 3, 4, 5, 6, 7, 8, 9, 10, 11, 12, 13], none), (16, [0, 1, 2, 3, 4, 5, 6, 7, 8, 9, 10, 11, 12, 13], none), (17, [0, 1, 2, 3, 4, 5, 6, 7, 8, 9, 10, 11, 12, 13], none), (18, [0, 1, 2, 3, 4, 5, 6, 7, 8, 9, 10, 11, 12, 13], none), (19, [], none), (20, [], none), (21, [], none), (23, [0, 1, 2, 3, 4, 5, 6, 7, 8, 9, 10, 11, 12, 13, 14, 15, 16, 17, 18, 19, 20, 21], none), (24, [], some [13]), (22, [21, 23, 24], none), (25, [], none)])]
/-- (*planchet/hyper.climber).up -/
def pl77 : List (Nat × Plan) := [(0, [(0, [], none), (1, [0], none), (2, [0], none), (3, [0], none), (4, [0], none), (5, [0], none), (6, [0], none), (7, [0, 1, 2, 3, 4, 5, 6], none), (8, [0, 1, 2, 3, 4, 5, 6], none), (9, [0, 1, 2, 3, 4, 5, 6], none), (10, [0, 1, 2, 3, 4, 5, 6], none), (11, [0, 1, 2, 3, 4, 5, 6], none), (12, [0, 1, 2, 3, 4, 5, 6], none), (13, [], none)])]
/-- (*planchet/wire.text).numbers -/
def pl78 : List (Nat × Plan) := [(4, [(1, [], none), (2, [], none), (3, [], none), (4, [], none), (5, [1, 2, 3, 4], none), (6, [1, 2, 3, 4], none), (7, [1, 2, 3, 4], none), (8, [], some [17]), (0, [1, 2, 3, 4, 5, 6, 7, 8], none), (9, [], none), (10, [], none), (11, [], some [23])])]
/-- (*planchet/wire.text).digests -/
def pl79 : List (Nat × Plan) := [(4, [(1, [], none), (2, [], none), (3, [], none), (4, [], none), (5, [1, 2, 3, 4], none), (6, [], some [17]), (0, [1, 2, 3, 4, 5, 6], none), (7, [], none), (8, [], none), (9, [], some [21])])]
/-- planchet/log.Grows$2 -/
def pl81 : List (Nat × Plan) := [(3, [(0, [], none), (2, [], some [9]), (1, [0, 2], none), (3, [], some [10]), (4, [], none)]), (5, [(0, [], none), (3, [], some [9]), (1, [0, 3], none), (4, [], some [10]), (2, [0, 3, 1, 4], none), (5, [], none)]), (10, [(0, [], none), (1, [0], none), (2, [0, 1], none), (3, [0], none), (4, [0, 1, 2, 3], none), (5, [0], none), (8, [], some [9]), (9, [], some [10]), (6, [0, 8, 9], none), (7, [0, 8, 9], none), (10, [], none)]), (13, [(0, [], none), (1, [0], none), (2, [], none), (3, [0, 1, 2], none), (4, [0, 1, 2, 3], none), (5, [], none), (6, [0, 1, 2, 3, 4, 5], none), (7, [], none), (10, [], some [9]), (11, [], some [10]), (8, [10, 11], none), (9, [10, 11], none), (12, [], none)])]
/-- planchet/ptree.Node -/
def pl83 : List (Nat × Plan) := [(1, [(0, [], none), (1, [0], none), (2, [0, 1], none), (3, [], none), (4, [], none), (5, [], some [4])])]
/-- planchet/planchetref01.right -/
def pl86 : List (Nat × Plan) := [(1, [(0, [], none), (1, [0], none), (2, [], none), (3, [0, 1, 2], none), (4, [0, 1, 2, 3], none), (5, [0, 1, 2], none), (6, [0, 1, 2, 3, 4, 5], none), (7, [0, 1, 2], none), (8, [], none), (9, [], none)])]
/-- planchet/ptree.Empty -/
def pl91 : List (Nat × Plan) := [(6, [(0, [], none), (1, [0], none), (2, [0], none), (3, [0, 1, 2], none), (4, [0, 1, 2, 3], none), (5, [0, 1, 2], none), (6, [0, 1, 2], none), (7, [0, 1, 2, 3, 4, 5, 6], none), (8, [0, 1, 2, 3, 4, 5, 6, 7], none), (9, [0, 1, 2, 3, 4, 5, 6], none), (10, [0, 1, 2, 3, 4, 5, 6], none), (11, [0, 1, 2], none), (12, [], none), (13, [], some [24])])]
/-- planchet/planchetref05.of -/
def pl92 : List (Nat × Plan) := [(1, [(0, [], none), (1, [], none), (2, [0, 1], none), (3, [], some [9]), (4, [], none)])]
/-- planchet/planchetref07.Run -/
def pl93 : List (Nat × Plan) := [(5, [(0, [], none), (1, [0], none), (2, [0, 1], none), (3, [0, 1], none), (4, [0, 1, 2, 3], none), (5, [0], none), (6, [], none), (7, [0, 1, 2, 3, 4, 5, 6], none), (8, [], some [13])]), (6, [(0, [], none), (1, [0], none), (2, [0, 1], none), (3, [0, 1], none), (4, [0, 1, 2, 3], none), (5, [0], none), (6, [], none), (7, [0, 1, 2, 3, 4, 5, 6], none), (8, [], some [14])]), (7, [(0, [], none), (1, [0], none), (2, [0, 1], none), (3, [0], none), (4, [], none), (5, [], some [10])])]
/-- planchet/planchetref09.Join -/
def pl95 : List (Nat × Plan) := [(1, [(0, [], none), (1, [0], none), (2, [0, 1], none), (3, [0, 1], none), (4, [0, 1, 2, 3], none), (5, [0, 1, 2, 3], none), (6, [0], none), (7, [], none), (8, [0, 1, 2, 3, 4, 5, 6, 7], none), (9, [], some [9])]), (2, [(0, [], none), (1, [0], none), (2, [0, 1], none), (3, [0, 1], none), (4, [0, 1, 2, 3], none), (5, [0, 1, 2, 3], none), (6, [0], none), (7, [], none), (8, [0, 1, 2, 3, 4, 5, 6, 7], none), (9, [], some [10])]), (3, [(0, [], none), (1, [0], none), (2, [0, 1], none), (3, [0, 1], none), (4, [0, 1, 2, 3], none), (5, [0, 1, 2, 3], none), (6, [0], none), (7, [], none), (8, [0, 1, 2, 3, 4, 5, 6, 7], none), (9, [], some [11])]), (4, [(0, [], none), (1, [0], none), (2, [0, 1], none), (3, [0], none), (4, [0, 1, 2, 3], none), (5, [0, 1, 2, 3, 4], none), (6, [0], none), (7, [], none), (8, [], some [8])])]
/-- planchet/keyed.Message -/
def pl97 : List (Nat × Plan) := [(1, [(0, [], none), (1, [0], none), (2, [0, 1], none), (3, [0, 1, 2], none), (4, [1, 2], none), (5, [], none), (6, [0, 1, 2, 3, 4, 5], none), (7, [], some [14, 15]), (8, [], none), (9, [], some [8])])]
/-- (*planchet/hyper.climber).to -/
def pl98 : List (Nat × Plan) := [(0, [(0, [], none), (1, [0], none), (2, [0, 1], none), (3, [0, 1, 2], none), (4, [0, 1, 2], none), (5, [0, 1, 2], none), (6, [0, 1, 2], none), (7, [0, 1, 2], none), (8, [0, 1], none), (9, [0, 1], none), (10, [0, 1, 2, 3, 4, 5, 6, 7, 8, 9], none), (11, [0, 1, 2, 3, 4, 5, 6, 7, 8, 9, 10], none), (12, [0, 1, 2, 3, 4, 5, 6, 7, 8, 9, 10], none), (13, [0, 1, 2, 3, 4, 5, 6, 7, 8, 9, 10], none), (14, [0, 1, 2, 3, 4, 5, 6, 7, 8, 9, 10], none), (15, [0, 1, 2, 3, 4, 5, 6, 7, 8, 9, 10], none), (16, [0, 1, 2, 3, 4, 5, 6, 7, 8, 9, 10], none), (17, [0, 1, 2, 3, 4, 5, 6, 7, 8, 9, 10], none), (18, [0, 1, 2, 3, 4, 5, 6, 7, 8, 9], none), (19, [0], none), (20, [], none), (21, [], none), (22, [], some [27])])]
/-- planchet/ltree.Compress -/
def pl101 : List (Nat × Plan) := [(12, [(0, [], none), (1, [0], none), (2, [0, 1], none), (3, [0, 1, 2], none), (4, [0, 1, 2], none), (5, [0, 1], none), (6, [0, 1], none), (7, [0, 1, 2, 3, 4, 5, 6], none), (8, [0, 1, 2, 3, 4, 5, 6, 7], none), (9, [0, 1, 2, 3, 4, 5, 6, 7], none), (10, [0, 1, 2, 3, 4, 5, 6, 7], none), (11, [0, 1, 2, 3, 4, 5, 6], none), (12, [0, 1, 2, 3, 4, 5, 6], none), (13, [0, 1, 2, 3, 4, 5, 6, 7, 8, 9, 10, 11, 12], none), (14, [0, 1, 2, 3, 4, 5, 6, 7, 8, 9, 10, 11, 12, 13], none), (15, [0, 1, 2, 3, 4, 5, 6, 7, 8, 9, 10, 11, 12, 13, 14], none), (16, [0, 1, 2, 3, 4, 5, 6, 7, 8, 9, 10, 11, 12, 13, 14, 15], none), (17, [0, 1, 2, 3, 4, 5, 6, 7, 8, 9, 10, 11, 12, 13, 14, 15], none), (18, [0, 1, 2, 3, 4, 5, 6, 7, 8, 9, 10, 11, 12, 13], none), (19, [0, 1], none), (20, [], none), (21, [], some [59])])]
/-- (*planchet/sha.Hash).Sum -/
def pl106 : List (Nat × Plan) := [(3, [(4, [], none), (5, [4], none), (6, [4], none), (7, [4], none), (8, [4], none), (9, [], some [16]), (0, [4, 5, 6, 7, 8, 9], none), (1, [4, 5, 6, 7, 8, 9], none), (2, [4, 5, 6, 7, 8, 9], none), (3, [4, 5, 6, 7, 8, 9], none), (10, [], none), (11, [], none), (12, [], none)])]
/-- planchet/planchetref05.At -/
def pl110 : List (Nat × Plan) := [(1, [(0, [], none), (1, [0], none), (2, [0], none), (3, [], none), (4, [], some [4])])]
/-- planchet/planchetref05.F -/
def pl111 : List (Nat × Plan) := [(1, [(0, [], none), (1, [0], none), (2, [], none), (3, [], some [4])])]
/-- planchet/planchetref05.Mask -/
def pl112 : List (Nat × Plan) := [(5, [(0, [], none), (1, [0], none), (2, [0], none), (3, [0], none), (4, [0, 1, 2, 3], none), (5, [0, 1, 2, 3], none), (6, [0, 1, 2, 3], none), (7, [0], none), (8, [], none), (9, [], some [19])])]
/-- planchet/planchetref05.H -/
def pl113 : List (Nat × Plan) := [(1, [(1, [], none), (2, [1], none), (3, [], some [8]), (4, [1, 2, 3], none), (5, [], some [10]), (0, [1, 2, 3, 4, 5], none), (6, [], none), (7, [], some [6])])]
/-- planchet/wots.From$1 -/
def pl117 : List (Nat × Plan) := [(1, [(0, [], none), (1, [0], none), (2, [], none), (3, [], none), (4, [0, 1, 2, 3], none), (5, [0, 1, 2, 3], none), (6, [0, 1, 2, 3], none), (7, [0, 1, 2, 3, 4, 5, 6], none), (8, [0, 1, 2, 3, 4, 5, 6, 7], none), (9, [], none), (10, [], some [7])])]
/-- planchet/ltree.Join -/
def pl120 : List (Nat × Plan) := [(5, [(0, [], none), (1, [0], none), (2, [0, 1], none), (3, [0, 1, 2], none), (4, [0, 1, 2], none), (5, [0, 1], none), (6, [0], none), (7, [], none), (8, [], some [21])]), (7, [(0, [], none), (1, [], none), (2, [0, 1], none), (3, [0, 1, 2], none), (4, [0, 1, 2], none), (5, [0, 1], none), (6, [0, 1, 2, 3, 4, 5], none), (7, [0, 1, 2, 3, 4, 5, 6], none), (8, [0, 1, 2, 3, 4, 5, 6], none), (9, [0, 1], none), (10, [], none), (11, [], some [8])])]
/-- (planchet/tree.place).join -/
def pl123 : List (Nat × Plan) := [(1, [(0, [], none), (1, [0], none), (2, [0, 1], none), (3, [0, 1], none), (4, [0, 1, 2, 3], none), (5, [0, 1, 2, 3], none), (6, [0, 1, 2, 3, 4, 5], none), (7, [0, 1, 2, 3, 4, 5], none), (8, [0, 1, 2, 3], none), (9, [0, 1, 2, 3, 4, 5, 6, 7, 8], none), (10, [0, 1, 2, 3, 4, 5, 6, 7, 8], none), (11, [0, 1, 2, 3, 4, 5, 6, 7, 8, 9, 10], none), (12, [0, 1, 2, 3, 4, 5, 6, 7, 8, 9, 10], none), (13, [0, 1, 2, 3], none), (14, [], none), (15, [], some [10])])]
/-- (*planchet/sha.Hash).take -/
def pl124 : List (Nat × Plan) := [(5, [(0, [], none), (1, [], none), (2, [0, 1], none), (3, [0, 1], none), (4, [2, 3], none), (5, [], none)]), (6, [(0, [], none), (1, [], none), (2, [0, 1], none), (3, [0, 1], none), (4, [0, 1, 2, 3], none), (5, [0, 1], none), (6, [0, 1], none), (7, [0, 1, 2, 3, 4, 5, 6], none), (8, [0, 1, 6], none), (9, [0, 1], none), (10, [], none), (11, [0, 1, 2, 3, 4, 5, 6, 7, 8, 9, 10], none), (12, [0, 1, 2, 3, 4, 5, 6, 7, 8, 9, 10, 11], none), (13, [0, 1, 2, 3, 4, 5, 6, 7, 8, 9, 10, 11], none), (14, [0, 1, 2, 3, 4, 5, 6, 7, 8, 9, 10], none), (15, [0, 1, 2, 3, 4, 5, 6, 7, 8, 9, 10, 11, 12, 13, 14], none), (16, [0, 1, 2, 3, 4, 5, 6, 7, 8, 9, 10, 11, 12, 13, 14], none), (17, [0, 1, 2, 3, 4, 5, 6, 7, 8, 9, 10, 11, 12, 13, 14, 15, 16], none), (18, [0, 1, 2, 3, 4, 5, 6, 7, 8, 9, 10, 11, 12, 13, 14, 15, 16], none), (19, [0, 1, 2, 3, 4, 5, 6, 7, 8, 9, 10, 11, 12, 13, 14], none), (20, [0, 1, 2, 3, 4, 5, 6, 7, 8, 9, 10], none), (21, [], none), (22, [0, 1, 2, 3, 4, 5, 6, 7, 8, 9, 10, 11, 12, 13, 14, 15, 16, 17, 18, 19, 20, 21], none), (23, [0, 1, 2, 3, 4, 5, 6, 7, 8, 9, 10, 11, 12, 13, 14, 15, 16, 17, 18, 19, 20, 21], none), (24, [0, 1, 2, 3, 4, 5, 6, 7, 8, 9, 10, 11, 12, 13, 14, 15, 16, 17, 18, 19, 20, 21], none), (25, [], none), (26, [0, 1, 2, 3, 4, 5, 6, 7, 8, 9, 10, 11, 12, 13, 14, 15, 16, 17, 18, 19, 20, 21, 22, 23, 24, 25], none), (27, [0, 1, 2, 3, 4, 5, 6, 7, 8, 9, 10, 11, 12, 13, 14, 15, 16, 17, 18, 19, 20, 21, 22, 23, 24, 25], none), (28, [0, 1, 2, 3, 4, 5, 6, 7, 8, 9, 10, 11, 12, 13, 14, 15, 16, 17, 18, 19, 20, 21, 22, 23, 24, 25], none), (29, [], none), (30, [], none)]), (7, [(0, [], none), (1, [], none), (2, [0, 1], none), (3, [], none), (4, [], none), (5, [0, 1, 2, 3, 4], none), (6, [4], none), (7, [], none), (8, [0, 1, 2, 3, 4, 5, 6, 7], none), (9, [0, 1, 2, 3, 4, 5, 6, 7, 8], none), (10, [0, 1, 2, 3, 4, 5, 6, 7, 8], none), (11, [0, 1, 2, 3, 4, 5, 6, 7], none), (12, [0, 1, 2, 3, 4, 5, 6, 7, 8, 9, 10, 11], none), (13, [0, 1, 2, 3, 4, 5, 6, 7, 8, 9, 10, 11, 12], none), (14, [0, 1, 2, 3, 4, 5, 6, 7, 8, 9, 10, 11, 12], none), (15, [0, 1, 2, 3, 4, 5, 6, 7, 8, 9, 10, 11], none), (16, [0, 1, 2, 3, 4, 5, 6, 7], none), (17, [0, 1, 2, 3, 4, 5, 6, 7, 8, 9, 10, 11, 12, 13, 14, 15, 16], none), (18, [0, 1, 2, 3, 4, 5, 6, 7, 8, 9, 10, 11, 12, 13, 14, 15, 16], none), (19, [0, 1, 2, 3, 4, 5, 6, 7, 8, 9, 10, 11, 12, 13, 14, 15, 16, 17, 18], none), (20, [0, 1, 2, 3, 4, 5, 6, 7, 8, 9, 10, 11, 12, 13, 14, 15, 16, 17, 18], none), (21, [0, 1, 2, 3, 4, 5, 6, 7, 8, 9, 10, 11, 12, 13, 14, 15, 16], none), (22, [0, 1, 2, 3, 4, 5, 6, 7], none), (23, [], none), (24, [], none)]), (13, [(0, [], none), (1, [0], none), (2, [1], none), (3, [1], none), (4, [], none), (5, [], none), (6, [0, 1, 2, 3, 4, 5], none), (7, [], none), (8, [1, 2, 3, 4, 5, 6, 7], none), (9, [1, 2, 3, 4, 5, 6, 7], none), (10, [], none), (11, [], some [116])])]
/-- planchet/keyed.At -/
def pl130 : List (Nat × Plan) := [(1, [(0, [], none), (1, [0], none), (2, [0], none), (3, [], none), (4, [], some [4])])]
/-- planchet/keyed.H -/
def pl132 : List (Nat × Plan) := [(1, [(0, [], none), (1, [0], none), (2, [0, 1], none), (3, [0, 1, 2], none), (4, [], none), (5, [], none), (6, [], some [6])])]
/-- planchet/keyed.Mask -/
def pl133 : List (Nat × Plan) := [(4, [(0, [], none), (1, [], none), (2, [], none), (3, [0, 1, 2], none), (4, [0, 1, 2], none), (5, [0, 1, 2], none), (6, [], none), (7, [], none), (8, [], some [16])])]
/-- planchet/sha.schedule -/
def pl135 : List (Nat × Plan) := [(14, [(0, [], none), (1, [], none), (2, [], none), (3, [], none), (4, [0, 1, 2, 3], none), (5, [0, 1, 2, 3], none), (6, [0, 1, 2, 3], none), (7, [0, 1, 2, 3], none), (8, [4, 5, 6, 7], none), (9, [], none)]), (15, [(0, [], none), (1, [0], none), (2, [0], none), (3, [0, 1, 2], none), (4, [0], none), (5, [0], none), (6, [0, 1, 2, 3, 4, 5], none), (7, [0, 1, 2, 3, 4, 5], none), (8, [0], none), (9, [0, 1, 2, 3, 4, 5, 6, 7, 8], none), (10, [0, 1, 2, 3, 4, 5, 6, 7, 8], none), (11, [0, 1, 2, 3, 4, 5, 6, 7, 8], none), (12, [0, 1, 2, 3, 4, 5, 6, 7, 8], none), (13, [0], none), (14, [0, 1, 2, 3, 4, 5, 6, 7, 8, 9, 10, 11, 12, 13], none), (15, [0, 5, 6, 7, 8, 9, 10, 11, 12, 13], none), (16, [0, 1, 2, 3, 4, 5, 6, 7, 8, 9, 10, 11, 12, 13, 14, 15], none), (17, [0, 5, 6, 7, 8, 9, 10, 11, 12, 13], none), (18, [0, 5, 6, 7, 8, 9, 10, 11, 12, 13], none), (19, [0, 1, 2, 3, 4, 5, 6, 7, 8, 9, 10, 11, 12, 13, 14, 15, 16, 17, 18], none), (20, [0, 1, 2, 3, 4, 5, 6, 7, 8, 9, 10, 11, 12, 13, 14, 15, 16, 17, 18], none), (21, [0, 5, 6, 7, 8, 9, 10, 11, 12, 13], none), (22, [0], none), (23, [0, 1, 2, 3, 4, 5, 6, 7, 8, 9, 10, 11, 12, 13, 14, 15, 16, 17, 18, 19, 20, 21, 22], none), (24, [0, 1, 2, 3, 4, 5, 6, 7, 8, 9, 10, 11, 12, 13, 14, 15, 16, 17, 18, 19, 20, 21, 22], none), (25, [0, 1, 2, 3, 4, 5, 6, 7, 8, 9, 10, 11, 12, 13, 14, 15, 16, 17, 18, 19, 20, 21, 22], none), (26, [0, 1, 2, 3, 4, 5, 6, 7, 8, 9, 10, 11, 12, 13, 14, 15, 16, 17, 18, 19, 20, 21, 22], none), (27, [0], none), (28, [], none), (29, [], some [76])])]
/-- planchet/chain.Run$1 -/
def pl138 : List (Nat × Plan) := [(2, [(0, [], none), (1, [0], none), (2, [0], none), (3, [], none), (4, [0, 1, 2, 3], none), (5, [0, 1, 2, 3, 4], none), (6, [4], none), (7, [], none), (8, [0, 1, 2, 3, 4, 5, 6, 7], none), (9, [0, 1, 2, 3, 4, 5, 6, 7, 8], none), (10, [], some [8]), (11, [], some [9])]), (3, [(0, [], none), (1, [0], none), (2, [0, 1], none), (3, [0], none), (4, [], none), (5, [], some [6])])]
/-- planchet/keyed.F -/
def pl139 : List (Nat × Plan) := [(1, [(0, [], none), (1, [0], none), (2, [0, 1], none), (3, [], none), (4, [], none), (5, [], some [4])])]
/-- planchet/keyed.Prf -/
def pl140 : List (Nat × Plan) := [(1, [(0, [], none), (1, [0], none), (2, [0, 1], none), (3, [], none), (4, [], none), (5, [], some [4])])]
end Go.Proofs.YthhlielliopegaaGreat
