import Derived.Test.YtnonjfknpajpaaaLH
import Derived.Test.YtnonjfknpajpaaaProg
namespace Go.Proofs.Ytnonjfknpajpaaa
open Go Go.Sy Go.Proofs.Try
set_option maxRecDepth 100000
theorem mix : Try.prog.follows .mixedOrders = true := by kernel_rfl
theorem ty1 (K : Ty → Prop) : tyC Try.prog 1 K = K .func := tyC_of (by kernel_rfl) K
theorem by1 (K : Nat → Prop) : byC Try.prog 1 K = K 8 := byC_of (by kernel_rfl) K
theorem ty2 (K : Ty → Prop) : tyC Try.prog 2 K = K (.int .i64) := tyC_of (by kernel_rfl) K
theorem by2 (K : Nat → Prop) : byC Try.prog 2 K = K 8 := byC_of (by kernel_rfl) K
theorem ty3 (K : Ty → Prop) : tyC Try.prog 3 K = K (.int .i64) := tyC_of (by kernel_rfl) K
theorem by3 (K : Nat → Prop) : byC Try.prog 3 K = K 8 := byC_of (by kernel_rfl) K
theorem ty4 (K : Ty → Prop) : tyC Try.prog 4 K = K .bool := tyC_of (by kernel_rfl) K
theorem by4 (K : Nat → Prop) : byC Try.prog 4 K = K 1 := byC_of (by kernel_rfl) K
theorem ty5 (K : Ty → Prop) : tyC Try.prog 5 K = K (.int .u8) := tyC_of (by kernel_rfl) K
theorem by5 (K : Nat → Prop) : byC Try.prog 5 K = K 1 := byC_of (by kernel_rfl) K
theorem ty9 (K : Ty → Prop) : tyC Try.prog 9 K = K .str := tyC_of (by kernel_rfl) K
theorem by9 (K : Nat → Prop) : byC Try.prog 9 K = K 16 := byC_of (by kernel_rfl) K
theorem ty12 (K : Ty → Prop) : tyC Try.prog 12 K = K (.int .u64) := tyC_of (by kernel_rfl) K
theorem by12 (K : Nat → Prop) : byC Try.prog 12 K = K 8 := byC_of (by kernel_rfl) K
theorem ty15 (K : Ty → Prop) : tyC Try.prog 15 K = K (.ptr 108) := tyC_of (by kernel_rfl) K
theorem by15 (K : Nat → Prop) : byC Try.prog 15 K = K 8 := byC_of (by kernel_rfl) K
theorem ty16 (K : Ty → Prop) : tyC Try.prog 16 K = K (.ptr 111) := tyC_of (by kernel_rfl) K
theorem by16 (K : Nat → Prop) : byC Try.prog 16 K = K 8 := byC_of (by kernel_rfl) K
theorem ty17 (K : Ty → Prop) : tyC Try.prog 17 K = K (.ptr 120) := tyC_of (by kernel_rfl) K
theorem by17 (K : Nat → Prop) : byC Try.prog 17 K = K 8 := byC_of (by kernel_rfl) K
theorem ty21 (K : Ty → Prop) : tyC Try.prog 21 K = K (.int .i32) := tyC_of (by kernel_rfl) K
theorem by21 (K : Nat → Prop) : byC Try.prog 21 K = K 4 := byC_of (by kernel_rfl) K
theorem ty22 (K : Ty → Prop) : tyC Try.prog 22 K = K (.int .u64) := tyC_of (by kernel_rfl) K
theorem by22 (K : Nat → Prop) : byC Try.prog 22 K = K 8 := byC_of (by kernel_rfl) K
theorem ty23 (K : Ty → Prop) : tyC Try.prog 23 K = K (.int .u32) := tyC_of (by kernel_rfl) K
theorem by23 (K : Nat → Prop) : byC Try.prog 23 K = K 4 := byC_of (by kernel_rfl) K
theorem ty24 (K : Ty → Prop) : tyC Try.prog 24 K = K (.arr 5 23 (.int .u32)) := tyC_of (by kernel_rfl) K
theorem by24 (K : Nat → Prop) : byC Try.prog 24 K = K 20 := byC_of (by kernel_rfl) K
theorem ty25 (K : Ty → Prop) : tyC Try.prog 25 K = K (.arr 8 23 (.int .u32)) := tyC_of (by kernel_rfl) K
theorem by25 (K : Nat → Prop) : byC Try.prog 25 K = K 32 := byC_of (by kernel_rfl) K
theorem ty26 (K : Ty → Prop) : tyC Try.prog 26 K = K (.arr 8 23 (.int .u32)) := tyC_of (by kernel_rfl) K
theorem by26 (K : Nat → Prop) : byC Try.prog 26 K = K 32 := byC_of (by kernel_rfl) K
theorem ty27 (K : Ty → Prop) : tyC Try.prog 27 K = K .func := tyC_of (by kernel_rfl) K
theorem by27 (K : Nat → Prop) : byC Try.prog 27 K = K 8 := byC_of (by kernel_rfl) K
theorem ty28 (K : Ty → Prop) : tyC Try.prog 28 K = K .func := tyC_of (by kernel_rfl) K
theorem by28 (K : Nat → Prop) : byC Try.prog 28 K = K 8 := byC_of (by kernel_rfl) K
theorem ty29 (K : Ty → Prop) : tyC Try.prog 29 K = K .func := tyC_of (by kernel_rfl) K
theorem by29 (K : Nat → Prop) : byC Try.prog 29 K = K 8 := byC_of (by kernel_rfl) K
theorem ty30 (K : Ty → Prop) : tyC Try.prog 30 K = K .func := tyC_of (by kernel_rfl) K
theorem by30 (K : Nat → Prop) : byC Try.prog 30 K = K 8 := byC_of (by kernel_rfl) K
theorem ty31 (K : Ty → Prop) : tyC Try.prog 31 K = K .func := tyC_of (by kernel_rfl) K
theorem by31 (K : Nat → Prop) : byC Try.prog 31 K = K 8 := byC_of (by kernel_rfl) K
theorem ty32 (K : Ty → Prop) : tyC Try.prog 32 K = K .func := tyC_of (by kernel_rfl) K
theorem by32 (K : Nat → Prop) : byC Try.prog 32 K = K 8 := byC_of (by kernel_rfl) K
theorem ty33 (K : Ty → Prop) : tyC Try.prog 33 K = K (.arr 32 5 (.int .u8)) := tyC_of (by kernel_rfl) K
theorem by33 (K : Nat → Prop) : byC Try.prog 33 K = K 32 := byC_of (by kernel_rfl) K
theorem ty34 (K : Ty → Prop) : tyC Try.prog 34 K = K (.arr 32 5 (.int .u8)) := tyC_of (by kernel_rfl) K
theorem by34 (K : Nat → Prop) : byC Try.prog 34 K = K 32 := byC_of (by kernel_rfl) K
theorem ty35 (K : Ty → Prop) : tyC Try.prog 35 K = K (.slice 3) := tyC_of (by kernel_rfl) K
theorem by35 (K : Nat → Prop) : byC Try.prog 35 K = K 24 := byC_of (by kernel_rfl) K
theorem ty36 (K : Ty → Prop) : tyC Try.prog 36 K = K (.arr 67 3 (.int .i64)) := tyC_of (by kernel_rfl) K
theorem by36 (K : Nat → Prop) : byC Try.prog 36 K = K 536 := byC_of (by kernel_rfl) K
theorem ty37 (K : Ty → Prop) : tyC Try.prog 37 K = K .func := tyC_of (by kernel_rfl) K
theorem by37 (K : Nat → Prop) : byC Try.prog 37 K = K 8 := byC_of (by kernel_rfl) K
theorem ty38 (K : Ty → Prop) : tyC Try.prog 38 K = K .func := tyC_of (by kernel_rfl) K
theorem by38 (K : Nat → Prop) : byC Try.prog 38 K = K 8 := byC_of (by kernel_rfl) K
theorem ty39 (K : Ty → Prop) : tyC Try.prog 39 K = K .func := tyC_of (by kernel_rfl) K
theorem by39 (K : Nat → Prop) : byC Try.prog 39 K = K 8 := byC_of (by kernel_rfl) K
theorem ty40 (K : Ty → Prop) : tyC Try.prog 40 K = K .func := tyC_of (by kernel_rfl) K
theorem by40 (K : Nat → Prop) : byC Try.prog 40 K = K 8 := byC_of (by kernel_rfl) K
theorem ty41 (K : Ty → Prop) : tyC Try.prog 41 K = K .func := tyC_of (by kernel_rfl) K
theorem by41 (K : Nat → Prop) : byC Try.prog 41 K = K 8 := byC_of (by kernel_rfl) K
theorem ty42 (K : Ty → Prop) : tyC Try.prog 42 K = K (.slice 48) := tyC_of (by kernel_rfl) K
theorem by42 (K : Nat → Prop) : byC Try.prog 42 K = K 24 := byC_of (by kernel_rfl) K
theorem ty43 (K : Ty → Prop) : tyC Try.prog 43 K = K (.ptr 91) := tyC_of (by kernel_rfl) K
theorem by43 (K : Nat → Prop) : byC Try.prog 43 K = K 8 := byC_of (by kernel_rfl) K
theorem ty44 (K : Ty → Prop) : tyC Try.prog 44 K = K .func := tyC_of (by kernel_rfl) K
theorem by44 (K : Nat → Prop) : byC Try.prog 44 K = K 8 := byC_of (by kernel_rfl) K
theorem ty45 (K : Ty → Prop) : tyC Try.prog 45 K = K (.st [(.int .i64), (.int .i64), (.int .i64)]) := tyC_of (by kernel_rfl) K
theorem by45 (K : Nat → Prop) : byC Try.prog 45 K = K 24 := byC_of (by kernel_rfl) K
theorem ty46 (K : Ty → Prop) : tyC Try.prog 46 K = K (.st [(.int .i64), (.int .i64), (.int .i64)]) := tyC_of (by kernel_rfl) K
theorem by46 (K : Nat → Prop) : byC Try.prog 46 K = K 24 := byC_of (by kernel_rfl) K
theorem ty47 (K : Ty → Prop) : tyC Try.prog 47 K = K .func := tyC_of (by kernel_rfl) K
theorem by47 (K : Nat → Prop) : byC Try.prog 47 K = K 8 := byC_of (by kernel_rfl) K
theorem ty48 (K : Ty → Prop) : tyC Try.prog 48 K = K (.st [(.int .i64), (.int .i64), (.int .i64)]) := tyC_of (by kernel_rfl) K
theorem by48 (K : Nat → Prop) : byC Try.prog 48 K = K 24 := byC_of (by kernel_rfl) K
theorem ty49 (K : Ty → Prop) : tyC Try.prog 49 K = K .func := tyC_of (by kernel_rfl) K
theorem by49 (K : Nat → Prop) : byC Try.prog 49 K = K 8 := byC_of (by kernel_rfl) K
theorem ty50 (K : Ty → Prop) : tyC Try.prog 50 K = K .func := tyC_of (by kernel_rfl) K
theorem by50 (K : Nat → Prop) : byC Try.prog 50 K = K 8 := byC_of (by kernel_rfl) K
theorem ty51 (K : Ty → Prop) : tyC Try.prog 51 K = K .func := tyC_of (by kernel_rfl) K
theorem by51 (K : Nat → Prop) : byC Try.prog 51 K = K 8 := byC_of (by kernel_rfl) K
theorem ty52 (K : Ty → Prop) : tyC Try.prog 52 K = K .func := tyC_of (by kernel_rfl) K
theorem by52 (K : Nat → Prop) : byC Try.prog 52 K = K 8 := byC_of (by kernel_rfl) K
theorem ty53 (K : Ty → Prop) : tyC Try.prog 53 K = K .func := tyC_of (by kernel_rfl) K
theorem by53 (K : Nat → Prop) : byC Try.prog 53 K = K 8 := byC_of (by kernel_rfl) K
theorem ty54 (K : Ty → Prop) : tyC Try.prog 54 K = K .func := tyC_of (by kernel_rfl) K
theorem by54 (K : Nat → Prop) : byC Try.prog 54 K = K 8 := byC_of (by kernel_rfl) K
theorem ty55 (K : Ty → Prop) : tyC Try.prog 55 K = K .func := tyC_of (by kernel_rfl) K
theorem by55 (K : Nat → Prop) : byC Try.prog 55 K = K 8 := byC_of (by kernel_rfl) K
theorem ty56 (K : Ty → Prop) : tyC Try.prog 56 K = K (.slice 5) := tyC_of (by kernel_rfl) K
theorem by56 (K : Nat → Prop) : byC Try.prog 56 K = K 24 := byC_of (by kernel_rfl) K
theorem ty57 (K : Ty → Prop) : tyC Try.prog 57 K = K .func := tyC_of (by kernel_rfl) K
theorem by57 (K : Nat → Prop) : byC Try.prog 57 K = K 8 := byC_of (by kernel_rfl) K
theorem ty58 (K : Ty → Prop) : tyC Try.prog 58 K = K .func := tyC_of (by kernel_rfl) K
theorem by58 (K : Nat → Prop) : byC Try.prog 58 K = K 8 := byC_of (by kernel_rfl) K
theorem ty59 (K : Ty → Prop) : tyC Try.prog 59 K = K (.int .i64) := tyC_of (by kernel_rfl) K
theorem by59 (K : Nat → Prop) : byC Try.prog 59 K = K 8 := byC_of (by kernel_rfl) K
theorem ty61 (K : Ty → Prop) : tyC Try.prog 61 K = K .func := tyC_of (by kernel_rfl) K
theorem by61 (K : Nat → Prop) : byC Try.prog 61 K = K 8 := byC_of (by kernel_rfl) K
theorem ty62 (K : Ty → Prop) : tyC Try.prog 62 K = K .func := tyC_of (by kernel_rfl) K
theorem by62 (K : Nat → Prop) : byC Try.prog 62 K = K 8 := byC_of (by kernel_rfl) K
theorem ty63 (K : Ty → Prop) : tyC Try.prog 63 K = K .func := tyC_of (by kernel_rfl) K
theorem by63 (K : Nat → Prop) : byC Try.prog 63 K = K 8 := byC_of (by kernel_rfl) K
theorem ty64 (K : Ty → Prop) : tyC Try.prog 64 K = K .func := tyC_of (by kernel_rfl) K
theorem by64 (K : Nat → Prop) : byC Try.prog 64 K = K 8 := byC_of (by kernel_rfl) K
theorem ty66 (K : Ty → Prop) : tyC Try.prog 66 K = K .func := tyC_of (by kernel_rfl) K
theorem by66 (K : Nat → Prop) : byC Try.prog 66 K = K 8 := byC_of (by kernel_rfl) K
theorem ty67 (K : Ty → Prop) : tyC Try.prog 67 K = K .func := tyC_of (by kernel_rfl) K
theorem by67 (K : Nat → Prop) : byC Try.prog 67 K = K 8 := byC_of (by kernel_rfl) K
theorem ty68 (K : Ty → Prop) : tyC Try.prog 68 K = K .func := tyC_of (by kernel_rfl) K
theorem by68 (K : Nat → Prop) : byC Try.prog 68 K = K 8 := byC_of (by kernel_rfl) K
theorem ty69 (K : Ty → Prop) : tyC Try.prog 69 K = K (.slice 56) := tyC_of (by kernel_rfl) K
theorem by69 (K : Nat → Prop) : byC Try.prog 69 K = K 24 := byC_of (by kernel_rfl) K
theorem ty70 (K : Ty → Prop) : tyC Try.prog 70 K = K .func := tyC_of (by kernel_rfl) K
theorem by70 (K : Nat → Prop) : byC Try.prog 70 K = K 8 := byC_of (by kernel_rfl) K
theorem ty72 (K : Ty → Prop) : tyC Try.prog 72 K = K .func := tyC_of (by kernel_rfl) K
theorem by72 (K : Nat → Prop) : byC Try.prog 72 K = K 8 := byC_of (by kernel_rfl) K
theorem ty74 (K : Ty → Prop) : tyC Try.prog 74 K = K .func := tyC_of (by kernel_rfl) K
theorem by74 (K : Nat → Prop) : byC Try.prog 74 K = K 8 := byC_of (by kernel_rfl) K
theorem ty75 (K : Ty → Prop) : tyC Try.prog 75 K = K .func := tyC_of (by kernel_rfl) K
theorem by75 (K : Nat → Prop) : byC Try.prog 75 K = K 8 := byC_of (by kernel_rfl) K
theorem ty76 (K : Ty → Prop) : tyC Try.prog 76 K = K .func := tyC_of (by kernel_rfl) K
theorem by76 (K : Nat → Prop) : byC Try.prog 76 K = K 8 := byC_of (by kernel_rfl) K
theorem ty77 (K : Ty → Prop) : tyC Try.prog 77 K = K .func := tyC_of (by kernel_rfl) K
theorem by77 (K : Nat → Prop) : byC Try.prog 77 K = K 8 := byC_of (by kernel_rfl) K
theorem ty79 (K : Ty → Prop) : tyC Try.prog 79 K = K .func := tyC_of (by kernel_rfl) K
theorem by79 (K : Nat → Prop) : byC Try.prog 79 K = K 8 := byC_of (by kernel_rfl) K
theorem ty80 (K : Ty → Prop) : tyC Try.prog 80 K = K .func := tyC_of (by kernel_rfl) K
theorem by80 (K : Nat → Prop) : byC Try.prog 80 K = K 8 := byC_of (by kernel_rfl) K
theorem ty81 (K : Ty → Prop) : tyC Try.prog 81 K = K .func := tyC_of (by kernel_rfl) K
theorem by81 (K : Nat → Prop) : byC Try.prog 81 K = K 8 := byC_of (by kernel_rfl) K
theorem ty82 (K : Ty → Prop) : tyC Try.prog 82 K = K .func := tyC_of (by kernel_rfl) K
theorem by82 (K : Nat → Prop) : byC Try.prog 82 K = K 8 := byC_of (by kernel_rfl) K
theorem ty83 (K : Ty → Prop) : tyC Try.prog 83 K = K (.ptr 101) := tyC_of (by kernel_rfl) K
theorem by83 (K : Nat → Prop) : byC Try.prog 83 K = K 8 := byC_of (by kernel_rfl) K
theorem ty84 (K : Ty → Prop) : tyC Try.prog 84 K = K .func := tyC_of (by kernel_rfl) K
theorem by84 (K : Nat → Prop) : byC Try.prog 84 K = K 8 := byC_of (by kernel_rfl) K
theorem ty85 (K : Ty → Prop) : tyC Try.prog 85 K = K .func := tyC_of (by kernel_rfl) K
theorem by85 (K : Nat → Prop) : byC Try.prog 85 K = K 8 := byC_of (by kernel_rfl) K
theorem ty86 (K : Ty → Prop) : tyC Try.prog 86 K = K .func := tyC_of (by kernel_rfl) K
theorem by86 (K : Nat → Prop) : byC Try.prog 86 K = K 8 := byC_of (by kernel_rfl) K
theorem ty87 (K : Ty → Prop) : tyC Try.prog 87 K = K (.int .u16) := tyC_of (by kernel_rfl) K
theorem by87 (K : Nat → Prop) : byC Try.prog 87 K = K 2 := byC_of (by kernel_rfl) K
theorem ty88 (K : Ty → Prop) : tyC Try.prog 88 K = K .func := tyC_of (by kernel_rfl) K
theorem by88 (K : Nat → Prop) : byC Try.prog 88 K = K 8 := byC_of (by kernel_rfl) K
theorem ty89 (K : Ty → Prop) : tyC Try.prog 89 K = K (.int .u64) := tyC_of (by kernel_rfl) K
theorem by89 (K : Nat → Prop) : byC Try.prog 89 K = K 8 := byC_of (by kernel_rfl) K
theorem ty90 (K : Ty → Prop) : tyC Try.prog 90 K = K (.st [(.st [(.int .i64), (.int .i64), (.int .i64)])]) := tyC_of (by kernel_rfl) K
theorem by90 (K : Nat → Prop) : byC Try.prog 90 K = K 24 := byC_of (by kernel_rfl) K
theorem ty91 (K : Ty → Prop) : tyC Try.prog 91 K = K (.st [(.st [(.int .i64), (.int .i64), (.int .i64)])]) := tyC_of (by kernel_rfl) K
theorem by91 (K : Nat → Prop) : byC Try.prog 91 K = K 24 := byC_of (by kernel_rfl) K
theorem ty92 (K : Ty → Prop) : tyC Try.prog 92 K = K .func := tyC_of (by kernel_rfl) K
theorem by92 (K : Nat → Prop) : byC Try.prog 92 K = K 8 := byC_of (by kernel_rfl) K
theorem ty93 (K : Ty → Prop) : tyC Try.prog 93 K = K (.ptr 56) := tyC_of (by kernel_rfl) K
theorem by93 (K : Nat → Prop) : byC Try.prog 93 K = K 8 := byC_of (by kernel_rfl) K
theorem ty95 (K : Ty → Prop) : tyC Try.prog 95 K = K .func := tyC_of (by kernel_rfl) K
theorem by95 (K : Nat → Prop) : byC Try.prog 95 K = K 8 := byC_of (by kernel_rfl) K
theorem ty96 (K : Ty → Prop) : tyC Try.prog 96 K = K (.slice 23) := tyC_of (by kernel_rfl) K
theorem by96 (K : Nat → Prop) : byC Try.prog 96 K = K 24 := byC_of (by kernel_rfl) K
theorem ty97 (K : Ty → Prop) : tyC Try.prog 97 K = K .func := tyC_of (by kernel_rfl) K
theorem by97 (K : Nat → Prop) : byC Try.prog 97 K = K 8 := byC_of (by kernel_rfl) K
theorem ty98 (K : Ty → Prop) : tyC Try.prog 98 K = K .func := tyC_of (by kernel_rfl) K
theorem by98 (K : Nat → Prop) : byC Try.prog 98 K = K 8 := byC_of (by kernel_rfl) K
theorem ty99 (K : Ty → Prop) : tyC Try.prog 99 K = K .func := tyC_of (by kernel_rfl) K
theorem by99 (K : Nat → Prop) : byC Try.prog 99 K = K 8 := byC_of (by kernel_rfl) K
theorem ty100 (K : Ty → Prop) : tyC Try.prog 100 K = K (.st [(.arr 8 23 (.int .u32)), (.slice 5), (.int .i64)]) := tyC_of (by kernel_rfl) K
theorem by100 (K : Nat → Prop) : byC Try.prog 100 K = K 64 := byC_of (by kernel_rfl) K
theorem ty101 (K : Ty → Prop) : tyC Try.prog 101 K = K (.st [(.arr 8 23 (.int .u32)), (.slice 5), (.int .i64)]) := tyC_of (by kernel_rfl) K
theorem by101 (K : Nat → Prop) : byC Try.prog 101 K = K 64 := byC_of (by kernel_rfl) K
theorem ty102 (K : Ty → Prop) : tyC Try.prog 102 K = K (.arr 64 23 (.int .u32)) := tyC_of (by kernel_rfl) K
theorem by102 (K : Nat → Prop) : byC Try.prog 102 K = K 256 := byC_of (by kernel_rfl) K
theorem ty103 (K : Ty → Prop) : tyC Try.prog 103 K = K .func := tyC_of (by kernel_rfl) K
theorem by103 (K : Nat → Prop) : byC Try.prog 103 K = K 8 := byC_of (by kernel_rfl) K
theorem ty104 (K : Ty → Prop) : tyC Try.prog 104 K = K .func := tyC_of (by kernel_rfl) K
theorem by104 (K : Nat → Prop) : byC Try.prog 104 K = K 8 := byC_of (by kernel_rfl) K
theorem ty105 (K : Ty → Prop) : tyC Try.prog 105 K = K .func := tyC_of (by kernel_rfl) K
theorem by105 (K : Nat → Prop) : byC Try.prog 105 K = K 8 := byC_of (by kernel_rfl) K
theorem ty106 (K : Ty → Prop) : tyC Try.prog 106 K = K .func := tyC_of (by kernel_rfl) K
theorem by106 (K : Nat → Prop) : byC Try.prog 106 K = K 8 := byC_of (by kernel_rfl) K
theorem ty112 (K : Ty → Prop) : tyC Try.prog 112 K = K .func := tyC_of (by kernel_rfl) K
theorem by112 (K : Nat → Prop) : byC Try.prog 112 K = K 8 := byC_of (by kernel_rfl) K
theorem ty115 (K : Ty → Prop) : tyC Try.prog 115 K = K .func := tyC_of (by kernel_rfl) K
theorem by115 (K : Nat → Prop) : byC Try.prog 115 K = K 8 := byC_of (by kernel_rfl) K
theorem ty116 (K : Ty → Prop) : tyC Try.prog 116 K = K (.ptr 5) := tyC_of (by kernel_rfl) K
theorem by116 (K : Nat → Prop) : byC Try.prog 116 K = K 8 := byC_of (by kernel_rfl) K
attribute [go_sem ↓] ty1 by1 ty2 by2 ty3 by3 ty4 by4 ty5 by5 ty9 by9 ty12 by12 ty15 by15 ty16 by16 ty17 by17 ty21 by21 ty22 by22 ty23 by23 ty24 by24 ty25 by25 ty26 by26 ty27 by27 ty28 by28 ty29 by29 ty30 by30 ty31 by31 ty32 by32 ty33 by33 ty34 by34 ty35 by35 ty36 by36 ty37 by37 ty38 by38 ty39 by39 ty40 by40 ty41 by41 ty42 by42 ty43 by43 ty44 by44 ty45 by45 ty46 by46 ty47 by47 ty48 by48 ty49 by49 ty50 by50 ty51 by51 ty52 by52 ty53 by53 ty54 by54 ty55 by55 ty56 by56 ty57 by57 ty58 by58 ty59 by59 ty61 by61 ty62 by62 ty63 by63 ty64 by64 ty66 by66 ty67 by67 ty68 by68 ty69 by69 ty70 by70 ty72 by72 ty74 by74 ty75 by75 ty76 by76 ty77 by77 ty79 by79 ty80 by80 ty81 by81 ty82 by82 ty83 by83 ty84 by84 ty85 by85 ty86 by86 ty87 by87 ty88 by88 ty89 by89 ty90 by90 ty91 by91 ty92 by92 ty93 by93 ty95 by95 ty96 by96 ty97 by97 ty98 by98 ty99 by99 ty100 by100 ty101 by101 ty102 by102 ty103 by103 ty104 by104 ty105 by105 ty106 by106 ty112 by112 ty115 by115 ty116 by116
end Go.Proofs.Ytnonjfknpajpaaa
