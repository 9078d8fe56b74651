import Derived.Test.YthhlielliopegaaLH
import Derived.Test.YthhlielliopegaaProg
namespace Go.Proofs.Ythhlielliopegaa
open Go Go.Sy Go.Proofs.Try
set_option maxRecDepth 100000
theorem mix : Try.prog.follows .mixedOrders = true := by kernel_rfl
theorem ty1 (K : Ty → Prop) : tyC Try.prog 1 K = K .func := tyC_of (by kernel_rfl) K
theorem by1 (K : Nat → Prop) : byC Try.prog 1 K = K 8 := byC_of (by kernel_rfl) K
theorem ty2 (K : Ty → Prop) : tyC Try.prog 2 K = K (.int .i64) := tyC_of (by kernel_rfl) K
theorem by2 (K : Nat → Prop) : byC Try.prog 2 K = K 8 := byC_of (by kernel_rfl) K
theorem ty3 (K : Ty → Prop) : tyC Try.prog 3 K = K (.int .i64) := tyC_of (by kernel_rfl) K
theorem by3 (K : Nat → Prop) : byC Try.prog 3 K = K 8 := byC_of (by kernel_rfl) K
theorem ty4 (K : Ty → Prop) : tyC Try.prog 4 K = K .bool := tyC_of (by kernel_rfl) K
theorem by4 (K : Nat → Prop) : byC Try.prog 4 K = K 1 := byC_of (by kernel_rfl) K
theorem ty5 (K : Ty → Prop) : tyC Try.prog 5 K = K (.int .u8) := tyC_of (by kernel_rfl) K
theorem by5 (K : Nat → Prop) : byC Try.prog 5 K = K 1 := byC_of (by kernel_rfl) K
theorem ty9 (K : Ty → Prop) : tyC Try.prog 9 K = K .str := tyC_of (by kernel_rfl) K
theorem by9 (K : Nat → Prop) : byC Try.prog 9 K = K 16 := byC_of (by kernel_rfl) K
theorem ty12 (K : Ty → Prop) : tyC Try.prog 12 K = K (.int .u64) := tyC_of (by kernel_rfl) K
theorem by12 (K : Nat → Prop) : byC Try.prog 12 K = K 8 := byC_of (by kernel_rfl) K
theorem ty15 (K : Ty → Prop) : tyC Try.prog 15 K = K (.ptr 106) := tyC_of (by kernel_rfl) K
theorem by15 (K : Nat → Prop) : byC Try.prog 15 K = K 8 := byC_of (by kernel_rfl) K
theorem ty16 (K : Ty → Prop) : tyC Try.prog 16 K = K (.ptr 109) := tyC_of (by kernel_rfl) K
theorem by16 (K : Nat → Prop) : byC Try.prog 16 K = K 8 := byC_of (by kernel_rfl) K
theorem ty17 (K : Ty → Prop) : tyC Try.prog 17 K = K (.ptr 118) := tyC_of (by kernel_rfl) K
theorem by17 (K : Nat → Prop) : byC Try.prog 17 K = K 8 := byC_of (by kernel_rfl) K
theorem ty21 (K : Ty → Prop) : tyC Try.prog 21 K = K (.int .i32) := tyC_of (by kernel_rfl) K
theorem by21 (K : Nat → Prop) : byC Try.prog 21 K = K 4 := byC_of (by kernel_rfl) K
theorem ty22 (K : Ty → Prop) : tyC Try.prog 22 K = K (.ptr 54) := tyC_of (by kernel_rfl) K
theorem by22 (K : Nat → Prop) : byC Try.prog 22 K = K 8 := byC_of (by kernel_rfl) K
theorem ty23 (K : Ty → Prop) : tyC Try.prog 23 K = K (.int .i64) := tyC_of (by kernel_rfl) K
theorem by23 (K : Nat → Prop) : byC Try.prog 23 K = K 8 := byC_of (by kernel_rfl) K
theorem ty25 (K : Ty → Prop) : tyC Try.prog 25 K = K .func := tyC_of (by kernel_rfl) K
theorem by25 (K : Nat → Prop) : byC Try.prog 25 K = K 8 := byC_of (by kernel_rfl) K
theorem ty26 (K : Ty → Prop) : tyC Try.prog 26 K = K (.ptr 63) := tyC_of (by kernel_rfl) K
theorem by26 (K : Nat → Prop) : byC Try.prog 26 K = K 8 := byC_of (by kernel_rfl) K
theorem ty28 (K : Ty → Prop) : tyC Try.prog 28 K = K .func := tyC_of (by kernel_rfl) K
theorem by28 (K : Nat → Prop) : byC Try.prog 28 K = K 8 := byC_of (by kernel_rfl) K
theorem ty29 (K : Ty → Prop) : tyC Try.prog 29 K = K (.ptr 73) := tyC_of (by kernel_rfl) K
theorem by29 (K : Nat → Prop) : byC Try.prog 29 K = K 8 := byC_of (by kernel_rfl) K
theorem ty30 (K : Ty → Prop) : tyC Try.prog 30 K = K .func := tyC_of (by kernel_rfl) K
theorem by30 (K : Nat → Prop) : byC Try.prog 30 K = K 8 := byC_of (by kernel_rfl) K
theorem ty31 (K : Ty → Prop) : tyC Try.prog 31 K = K (.slice 5) := tyC_of (by kernel_rfl) K
theorem by31 (K : Nat → Prop) : byC Try.prog 31 K = K 24 := byC_of (by kernel_rfl) K
theorem ty33 (K : Ty → Prop) : tyC Try.prog 33 K = K .func := tyC_of (by kernel_rfl) K
theorem by33 (K : Nat → Prop) : byC Try.prog 33 K = K 8 := byC_of (by kernel_rfl) K
theorem ty34 (K : Ty → Prop) : tyC Try.prog 34 K = K .func := tyC_of (by kernel_rfl) K
theorem by34 (K : Nat → Prop) : byC Try.prog 34 K = K 8 := byC_of (by kernel_rfl) K
theorem ty35 (K : Ty → Prop) : tyC Try.prog 35 K = K .func := tyC_of (by kernel_rfl) K
theorem by35 (K : Nat → Prop) : byC Try.prog 35 K = K 8 := byC_of (by kernel_rfl) K
theorem ty36 (K : Ty → Prop) : tyC Try.prog 36 K = K .func := tyC_of (by kernel_rfl) K
theorem by36 (K : Nat → Prop) : byC Try.prog 36 K = K 8 := byC_of (by kernel_rfl) K
theorem ty37 (K : Ty → Prop) : tyC Try.prog 37 K = K (.int .u16) := tyC_of (by kernel_rfl) K
theorem by37 (K : Nat → Prop) : byC Try.prog 37 K = K 2 := byC_of (by kernel_rfl) K
theorem ty38 (K : Ty → Prop) : tyC Try.prog 38 K = K (.slice 44) := tyC_of (by kernel_rfl) K
theorem by38 (K : Nat → Prop) : byC Try.prog 38 K = K 24 := byC_of (by kernel_rfl) K
theorem ty39 (K : Ty → Prop) : tyC Try.prog 39 K = K .func := tyC_of (by kernel_rfl) K
theorem by39 (K : Nat → Prop) : byC Try.prog 39 K = K 8 := byC_of (by kernel_rfl) K
theorem ty40 (K : Ty → Prop) : tyC Try.prog 40 K = K (.slice 9) := tyC_of (by kernel_rfl) K
theorem by40 (K : Nat → Prop) : byC Try.prog 40 K = K 24 := byC_of (by kernel_rfl) K
theorem ty41 (K : Ty → Prop) : tyC Try.prog 41 K = K (.slice 48) := tyC_of (by kernel_rfl) K
theorem by41 (K : Nat → Prop) : byC Try.prog 41 K = K 24 := byC_of (by kernel_rfl) K
theorem ty42 (K : Ty → Prop) : tyC Try.prog 42 K = K (.slice 3) := tyC_of (by kernel_rfl) K
theorem by42 (K : Nat → Prop) : byC Try.prog 42 K = K 24 := byC_of (by kernel_rfl) K
theorem ty43 (K : Ty → Prop) : tyC Try.prog 43 K = K (.st [(.int .i64), (.slice 5), (.int .i64), (.slice 3)]) := tyC_of (by kernel_rfl) K
theorem by43 (K : Nat → Prop) : byC Try.prog 43 K = K 64 := byC_of (by kernel_rfl) K
theorem ty44 (K : Ty → Prop) : tyC Try.prog 44 K = K (.st [(.int .i64), (.slice 5), (.int .i64), (.slice 3)]) := tyC_of (by kernel_rfl) K
theorem by44 (K : Nat → Prop) : byC Try.prog 44 K = K 64 := byC_of (by kernel_rfl) K
theorem ty45 (K : Ty → Prop) : tyC Try.prog 45 K = K .func := tyC_of (by kernel_rfl) K
theorem by45 (K : Nat → Prop) : byC Try.prog 45 K = K 8 := byC_of (by kernel_rfl) K
theorem ty46 (K : Ty → Prop) : tyC Try.prog 46 K = K .func := tyC_of (by kernel_rfl) K
theorem by46 (K : Nat → Prop) : byC Try.prog 46 K = K 8 := byC_of (by kernel_rfl) K
theorem ty47 (K : Ty → Prop) : tyC Try.prog 47 K = K (.st [(.int .i64), (.int .i64), .str]) := tyC_of (by kernel_rfl) K
theorem by47 (K : Nat → Prop) : byC Try.prog 47 K = K 32 := byC_of (by kernel_rfl) K
theorem ty48 (K : Ty → Prop) : tyC Try.prog 48 K = K (.st [(.int .i64), (.int .i64), .str]) := tyC_of (by kernel_rfl) K
theorem by48 (K : Nat → Prop) : byC Try.prog 48 K = K 32 := byC_of (by kernel_rfl) K
theorem ty49 (K : Ty → Prop) : tyC Try.prog 49 K = K .func := tyC_of (by kernel_rfl) K
theorem by49 (K : Nat → Prop) : byC Try.prog 49 K = K 8 := byC_of (by kernel_rfl) K
theorem ty50 (K : Ty → Prop) : tyC Try.prog 50 K = K .func := tyC_of (by kernel_rfl) K
theorem by50 (K : Nat → Prop) : byC Try.prog 50 K = K 8 := byC_of (by kernel_rfl) K
theorem ty51 (K : Ty → Prop) : tyC Try.prog 51 K = K .func := tyC_of (by kernel_rfl) K
theorem by51 (K : Nat → Prop) : byC Try.prog 51 K = K 8 := byC_of (by kernel_rfl) K
theorem ty52 (K : Ty → Prop) : tyC Try.prog 52 K = K (.slice 75) := tyC_of (by kernel_rfl) K
theorem by52 (K : Nat → Prop) : byC Try.prog 52 K = K 24 := byC_of (by kernel_rfl) K
theorem ty53 (K : Ty → Prop) : tyC Try.prog 53 K = K (.st [(.int .i64), (.slice 5), (.slice 75), .bool, .bool, (.int .i64), (.slice 3)]) := tyC_of (by kernel_rfl) K
theorem by53 (K : Nat → Prop) : byC Try.prog 53 K = K 96 := byC_of (by kernel_rfl) K
theorem ty54 (K : Ty → Prop) : tyC Try.prog 54 K = K (.st [(.int .i64), (.slice 5), (.slice 75), .bool, .bool, (.int .i64), (.slice 3)]) := tyC_of (by kernel_rfl) K
theorem by54 (K : Nat → Prop) : byC Try.prog 54 K = K 96 := byC_of (by kernel_rfl) K
theorem ty55 (K : Ty → Prop) : tyC Try.prog 55 K = K (.ptr 80) := tyC_of (by kernel_rfl) K
theorem by55 (K : Nat → Prop) : byC Try.prog 55 K = K 8 := byC_of (by kernel_rfl) K
theorem ty57 (K : Ty → Prop) : tyC Try.prog 57 K = K .func := tyC_of (by kernel_rfl) K
theorem by57 (K : Nat → Prop) : byC Try.prog 57 K = K 8 := byC_of (by kernel_rfl) K
theorem ty58 (K : Ty → Prop) : tyC Try.prog 58 K = K (.st [(.int .i64), (.int .i64), .str]) := tyC_of (by kernel_rfl) K
theorem by58 (K : Nat → Prop) : byC Try.prog 58 K = K 32 := byC_of (by kernel_rfl) K
theorem ty59 (K : Ty → Prop) : tyC Try.prog 59 K = K (.st [(.int .i64), (.int .i64), .str]) := tyC_of (by kernel_rfl) K
theorem by59 (K : Nat → Prop) : byC Try.prog 59 K = K 32 := byC_of (by kernel_rfl) K
theorem ty60 (K : Ty → Prop) : tyC Try.prog 60 K = K (.st [(.int .i64), (.int .i64), (.int .i64), (.st [(.int .i64), (.int .i64), .str])]) := tyC_of (by kernel_rfl) K
theorem by60 (K : Nat → Prop) : byC Try.prog 60 K = K 56 := byC_of (by kernel_rfl) K
theorem ty61 (K : Ty → Prop) : tyC Try.prog 61 K = K (.st [(.int .i64), (.int .i64), (.int .i64), (.st [(.int .i64), (.int .i64), .str])]) := tyC_of (by kernel_rfl) K
theorem by61 (K : Nat → Prop) : byC Try.prog 61 K = K 56 := byC_of (by kernel_rfl) K
theorem ty62 (K : Ty → Prop) : tyC Try.prog 62 K = K (.st [(.st [(.int .i64), (.int .i64), (.int .i64), (.st [(.int .i64), (.int .i64), .str])]), (.ptr 80), (.ptr 73), (.int .i64), (.int .i64), (.int .i64), .bool]) := tyC_of (by kernel_rfl) K
theorem by62 (K : Nat → Prop) : byC Try.prog 62 K = K 104 := byC_of (by kernel_rfl) K
theorem ty63 (K : Ty → Prop) : tyC Try.prog 63 K = K (.st [(.st [(.int .i64), (.int .i64), (.int .i64), (.st [(.int .i64), (.int .i64), .str])]), (.ptr 80), (.ptr 73), (.int .i64), (.int .i64), (.int .i64), .bool]) := tyC_of (by kernel_rfl) K
theorem by63 (K : Nat → Prop) : byC Try.prog 63 K = K 104 := byC_of (by kernel_rfl) K
theorem ty65 (K : Ty → Prop) : tyC Try.prog 65 K = K .func := tyC_of (by kernel_rfl) K
theorem by65 (K : Nat → Prop) : byC Try.prog 65 K = K 8 := byC_of (by kernel_rfl) K
theorem ty66 (K : Ty → Prop) : tyC Try.prog 66 K = K (.st [(.int .i64), (.int .i64), (.int .i64)]) := tyC_of (by kernel_rfl) K
theorem by66 (K : Nat → Prop) : byC Try.prog 66 K = K 24 := byC_of (by kernel_rfl) K
theorem ty67 (K : Ty → Prop) : tyC Try.prog 67 K = K (.st [(.int .i64), (.int .i64), (.int .i64)]) := tyC_of (by kernel_rfl) K
theorem by67 (K : Nat → Prop) : byC Try.prog 67 K = K 24 := byC_of (by kernel_rfl) K
theorem ty68 (K : Ty → Prop) : tyC Try.prog 68 K = K .func := tyC_of (by kernel_rfl) K
theorem by68 (K : Nat → Prop) : byC Try.prog 68 K = K 8 := byC_of (by kernel_rfl) K
theorem ty69 (K : Ty → Prop) : tyC Try.prog 69 K = K .func := tyC_of (by kernel_rfl) K
theorem by69 (K : Nat → Prop) : byC Try.prog 69 K = K 8 := byC_of (by kernel_rfl) K
theorem ty70 (K : Ty → Prop) : tyC Try.prog 70 K = K .func := tyC_of (by kernel_rfl) K
theorem by70 (K : Nat → Prop) : byC Try.prog 70 K = K 8 := byC_of (by kernel_rfl) K
theorem ty71 (K : Ty → Prop) : tyC Try.prog 71 K = K .func := tyC_of (by kernel_rfl) K
theorem by71 (K : Nat → Prop) : byC Try.prog 71 K = K 8 := byC_of (by kernel_rfl) K
theorem ty72 (K : Ty → Prop) : tyC Try.prog 72 K = K (.st [(.st [(.int .i64), (.int .i64), (.int .i64)])]) := tyC_of (by kernel_rfl) K
theorem by72 (K : Nat → Prop) : byC Try.prog 72 K = K 24 := byC_of (by kernel_rfl) K
theorem ty73 (K : Ty → Prop) : tyC Try.prog 73 K = K (.st [(.st [(.int .i64), (.int .i64), (.int .i64)])]) := tyC_of (by kernel_rfl) K
theorem by73 (K : Nat → Prop) : byC Try.prog 73 K = K 24 := byC_of (by kernel_rfl) K
theorem ty74 (K : Ty → Prop) : tyC Try.prog 74 K = K (.st [(.int .i64), (.slice 5)]) := tyC_of (by kernel_rfl) K
theorem by74 (K : Nat → Prop) : byC Try.prog 74 K = K 32 := byC_of (by kernel_rfl) K
theorem ty75 (K : Ty → Prop) : tyC Try.prog 75 K = K (.st [(.int .i64), (.slice 5)]) := tyC_of (by kernel_rfl) K
theorem by75 (K : Nat → Prop) : byC Try.prog 75 K = K 32 := byC_of (by kernel_rfl) K
theorem ty76 (K : Ty → Prop) : tyC Try.prog 76 K = K .func := tyC_of (by kernel_rfl) K
theorem by76 (K : Nat → Prop) : byC Try.prog 76 K = K 8 := byC_of (by kernel_rfl) K
theorem ty78 (K : Ty → Prop) : tyC Try.prog 78 K = K .func := tyC_of (by kernel_rfl) K
theorem by78 (K : Nat → Prop) : byC Try.prog 78 K = K 8 := byC_of (by kernel_rfl) K
theorem ty79 (K : Ty → Prop) : tyC Try.prog 79 K = K (.st [(.ptr 54), (.int .i64), (.int .i64), (.slice 5), .bool]) := tyC_of (by kernel_rfl) K
theorem by79 (K : Nat → Prop) : byC Try.prog 79 K = K 56 := byC_of (by kernel_rfl) K
theorem ty80 (K : Ty → Prop) : tyC Try.prog 80 K = K (.st [(.ptr 54), (.int .i64), (.int .i64), (.slice 5), .bool]) := tyC_of (by kernel_rfl) K
theorem by80 (K : Nat → Prop) : byC Try.prog 80 K = K 56 := byC_of (by kernel_rfl) K
theorem ty82 (K : Ty → Prop) : tyC Try.prog 82 K = K .func := tyC_of (by kernel_rfl) K
theorem by82 (K : Nat → Prop) : byC Try.prog 82 K = K 8 := byC_of (by kernel_rfl) K
theorem ty83 (K : Ty → Prop) : tyC Try.prog 83 K = K .func := tyC_of (by kernel_rfl) K
theorem by83 (K : Nat → Prop) : byC Try.prog 83 K = K 8 := byC_of (by kernel_rfl) K
theorem ty84 (K : Ty → Prop) : tyC Try.prog 84 K = K (.slice 31) := tyC_of (by kernel_rfl) K
theorem by84 (K : Nat → Prop) : byC Try.prog 84 K = K 24 := byC_of (by kernel_rfl) K
theorem ty86 (K : Ty → Prop) : tyC Try.prog 86 K = K .func := tyC_of (by kernel_rfl) K
theorem by86 (K : Nat → Prop) : byC Try.prog 86 K = K 8 := byC_of (by kernel_rfl) K
theorem ty87 (K : Ty → Prop) : tyC Try.prog 87 K = K (.arr 5 3 (.int .i64)) := tyC_of (by kernel_rfl) K
theorem by87 (K : Nat → Prop) : byC Try.prog 87 K = K 40 := byC_of (by kernel_rfl) K
theorem ty88 (K : Ty → Prop) : tyC Try.prog 88 K = K (.int .u64) := tyC_of (by kernel_rfl) K
theorem by88 (K : Nat → Prop) : byC Try.prog 88 K = K 8 := byC_of (by kernel_rfl) K
theorem ty90 (K : Ty → Prop) : tyC Try.prog 90 K = K .func := tyC_of (by kernel_rfl) K
theorem by90 (K : Nat → Prop) : byC Try.prog 90 K = K 8 := byC_of (by kernel_rfl) K
theorem ty91 (K : Ty → Prop) : tyC Try.prog 91 K = K .func := tyC_of (by kernel_rfl) K
theorem by91 (K : Nat → Prop) : byC Try.prog 91 K = K 8 := byC_of (by kernel_rfl) K
theorem ty92 (K : Ty → Prop) : tyC Try.prog 92 K = K .func := tyC_of (by kernel_rfl) K
theorem by92 (K : Nat → Prop) : byC Try.prog 92 K = K 8 := byC_of (by kernel_rfl) K
theorem ty93 (K : Ty → Prop) : tyC Try.prog 93 K = K .func := tyC_of (by kernel_rfl) K
theorem by93 (K : Nat → Prop) : byC Try.prog 93 K = K 8 := byC_of (by kernel_rfl) K
theorem ty94 (K : Ty → Prop) : tyC Try.prog 94 K = K .func := tyC_of (by kernel_rfl) K
theorem by94 (K : Nat → Prop) : byC Try.prog 94 K = K 8 := byC_of (by kernel_rfl) K
theorem ty95 (K : Ty → Prop) : tyC Try.prog 95 K = K (.ptr 31) := tyC_of (by kernel_rfl) K
theorem by95 (K : Nat → Prop) : byC Try.prog 95 K = K 8 := byC_of (by kernel_rfl) K
theorem ty97 (K : Ty → Prop) : tyC Try.prog 97 K = K .func := tyC_of (by kernel_rfl) K
theorem by97 (K : Nat → Prop) : byC Try.prog 97 K = K 8 := byC_of (by kernel_rfl) K
theorem ty98 (K : Ty → Prop) : tyC Try.prog 98 K = K (.int .u64) := tyC_of (by kernel_rfl) K
theorem by98 (K : Nat → Prop) : byC Try.prog 98 K = K 8 := byC_of (by kernel_rfl) K
theorem ty99 (K : Ty → Prop) : tyC Try.prog 99 K = K .func := tyC_of (by kernel_rfl) K
theorem by99 (K : Nat → Prop) : byC Try.prog 99 K = K 8 := byC_of (by kernel_rfl) K
theorem ty100 (K : Ty → Prop) : tyC Try.prog 100 K = K .func := tyC_of (by kernel_rfl) K
theorem by100 (K : Nat → Prop) : byC Try.prog 100 K = K 8 := byC_of (by kernel_rfl) K
theorem ty101 (K : Ty → Prop) : tyC Try.prog 101 K = K .func := tyC_of (by kernel_rfl) K
theorem by101 (K : Nat → Prop) : byC Try.prog 101 K = K 8 := byC_of (by kernel_rfl) K
theorem ty102 (K : Ty → Prop) : tyC Try.prog 102 K = K .func := tyC_of (by kernel_rfl) K
theorem by102 (K : Nat → Prop) : byC Try.prog 102 K = K 8 := byC_of (by kernel_rfl) K
theorem ty103 (K : Ty → Prop) : tyC Try.prog 103 K = K .func := tyC_of (by kernel_rfl) K
theorem by103 (K : Nat → Prop) : byC Try.prog 103 K = K 8 := byC_of (by kernel_rfl) K
theorem ty104 (K : Ty → Prop) : tyC Try.prog 104 K = K .func := tyC_of (by kernel_rfl) K
theorem by104 (K : Nat → Prop) : byC Try.prog 104 K = K 8 := byC_of (by kernel_rfl) K
theorem ty110 (K : Ty → Prop) : tyC Try.prog 110 K = K (.int .u32) := tyC_of (by kernel_rfl) K
theorem by110 (K : Nat → Prop) : byC Try.prog 110 K = K 4 := byC_of (by kernel_rfl) K
theorem ty113 (K : Ty → Prop) : tyC Try.prog 113 K = K .func := tyC_of (by kernel_rfl) K
theorem by113 (K : Nat → Prop) : byC Try.prog 113 K = K 8 := byC_of (by kernel_rfl) K
theorem ty114 (K : Ty → Prop) : tyC Try.prog 114 K = K (.ptr 5) := tyC_of (by kernel_rfl) K
theorem by114 (K : Nat → Prop) : byC Try.prog 114 K = K 8 := byC_of (by kernel_rfl) K
attribute [go_sem ↓] ty1 by1 ty2 by2 ty3 by3 ty4 by4 ty5 by5 ty9 by9 ty12 by12 ty15 by15 ty16 by16 ty17 by17 ty21 by21 ty22 by22 ty23 by23 ty25 by25 ty26 by26 ty28 by28 ty29 by29 ty30 by30 ty31 by31 ty33 by33 ty34 by34 ty35 by35 ty36 by36 ty37 by37 ty38 by38 ty39 by39 ty40 by40 ty41 by41 ty42 by42 ty43 by43 ty44 by44 ty45 by45 ty46 by46 ty47 by47 ty48 by48 ty49 by49 ty50 by50 ty51 by51 ty52 by52 ty53 by53 ty54 by54 ty55 by55 ty57 by57 ty58 by58 ty59 by59 ty60 by60 ty61 by61 ty62 by62 ty63 by63 ty65 by65 ty66 by66 ty67 by67 ty68 by68 ty69 by69 ty70 by70 ty71 by71 ty72 by72 ty73 by73 ty74 by74 ty75 by75 ty76 by76 ty78 by78 ty79 by79 ty80 by80 ty82 by82 ty83 by83 ty84 by84 ty86 by86 ty87 by87 ty88 by88 ty90 by90 ty91 by91 ty92 by92 ty93 by93 ty94 by94 ty95 by95 ty97 by97 ty98 by98 ty99 by99 ty100 by100 ty101 by101 ty102 by102 ty103 by103 ty104 by104 ty110 by110 ty113 by113 ty114 by114
end Go.Proofs.Ythhlielliopegaa
