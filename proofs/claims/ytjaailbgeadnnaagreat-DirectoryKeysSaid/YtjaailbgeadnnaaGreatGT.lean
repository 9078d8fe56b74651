/- Texts, joined. -/
import Derived.Test.YtjaailbgeadnnaaGreatGG
import Derived.Test.YtjaailbgeadnnaaGreatProg
namespace Go.Proofs.YtjaailbgeadnnaaGreat
open Go Go.Sy Go.Proofs.Tryz
set_option maxRecDepth 100000
theorem mix : Tryz.prog.follows .mixedOrders = true := by kernel_rfl
theorem ty1 (K : Ty → Prop) : tyC Tryz.prog 1 K = K .func := tyC_of (by kernel_rfl) K
theorem by1 (K : Nat → Prop) : byC Tryz.prog 1 K = K 8 := byC_of (by kernel_rfl) K
theorem ty2 (K : Ty → Prop) : tyC Tryz.prog 2 K = K (.int .i64) := tyC_of (by kernel_rfl) K
theorem by2 (K : Nat → Prop) : byC Tryz.prog 2 K = K 8 := byC_of (by kernel_rfl) K
theorem ty3 (K : Ty → Prop) : tyC Tryz.prog 3 K = K (.int .i64) := tyC_of (by kernel_rfl) K
theorem by3 (K : Nat → Prop) : byC Tryz.prog 3 K = K 8 := byC_of (by kernel_rfl) K
theorem ty4 (K : Ty → Prop) : tyC Tryz.prog 4 K = K .bool := tyC_of (by kernel_rfl) K
theorem by4 (K : Nat → Prop) : byC Tryz.prog 4 K = K 1 := byC_of (by kernel_rfl) K
theorem ty5 (K : Ty → Prop) : tyC Tryz.prog 5 K = K (.int .u8) := tyC_of (by kernel_rfl) K
theorem by5 (K : Nat → Prop) : byC Tryz.prog 5 K = K 1 := byC_of (by kernel_rfl) K
theorem ty9 (K : Ty → Prop) : tyC Tryz.prog 9 K = K .str := tyC_of (by kernel_rfl) K
theorem by9 (K : Nat → Prop) : byC Tryz.prog 9 K = K 16 := byC_of (by kernel_rfl) K
theorem ty12 (K : Ty → Prop) : tyC Tryz.prog 12 K = K (.int .u64) := tyC_of (by kernel_rfl) K
theorem by12 (K : Nat → Prop) : byC Tryz.prog 12 K = K 8 := byC_of (by kernel_rfl) K
theorem ty15 (K : Ty → Prop) : tyC Tryz.prog 15 K = K (.ptr 326) := tyC_of (by kernel_rfl) K
theorem by15 (K : Nat → Prop) : byC Tryz.prog 15 K = K 8 := byC_of (by kernel_rfl) K
theorem ty16 (K : Ty → Prop) : tyC Tryz.prog 16 K = K (.ptr 329) := tyC_of (by kernel_rfl) K
theorem by16 (K : Nat → Prop) : byC Tryz.prog 16 K = K 8 := byC_of (by kernel_rfl) K
theorem ty17 (K : Ty → Prop) : tyC Tryz.prog 17 K = K (.ptr 337) := tyC_of (by kernel_rfl) K
theorem by17 (K : Nat → Prop) : byC Tryz.prog 17 K = K 8 := byC_of (by kernel_rfl) K
theorem ty21 (K : Ty → Prop) : tyC Tryz.prog 21 K = K (.int .i32) := tyC_of (by kernel_rfl) K
theorem by21 (K : Nat → Prop) : byC Tryz.prog 21 K = K 4 := byC_of (by kernel_rfl) K
theorem ty22 (K : Ty → Prop) : tyC Tryz.prog 22 K = K (.st [(.int .i64), (.int .i64)]) := tyC_of (by kernel_rfl) K
theorem by22 (K : Nat → Prop) : byC Tryz.prog 22 K = K 16 := byC_of (by kernel_rfl) K
theorem ty23 (K : Ty → Prop) : tyC Tryz.prog 23 K = K (.st [(.int .i64), (.int .i64)]) := tyC_of (by kernel_rfl) K
theorem by23 (K : Nat → Prop) : byC Tryz.prog 23 K = K 16 := byC_of (by kernel_rfl) K
theorem ty24 (K : Ty → Prop) : tyC Tryz.prog 24 K = K (.arr 32 5 (.int .u8)) := tyC_of (by kernel_rfl) K
theorem by24 (K : Nat → Prop) : byC Tryz.prog 24 K = K 32 := byC_of (by kernel_rfl) K
theorem ty25 (K : Ty → Prop) : tyC Tryz.prog 25 K = K (.arr 32 5 (.int .u8)) := tyC_of (by kernel_rfl) K
theorem by25 (K : Nat → Prop) : byC Tryz.prog 25 K = K 32 := byC_of (by kernel_rfl) K
theorem ty26 (K : Ty → Prop) : tyC Tryz.prog 26 K = K (.st [(.st [(.int .i64), (.int .i64)]), (.int .i64), (.arr 32 5 (.int .u8)), (.arr 32 5 (.int .u8))]) := tyC_of (by kernel_rfl) K
theorem by26 (K : Nat → Prop) : byC Tryz.prog 26 K = K 88 := byC_of (by kernel_rfl) K
theorem ty27 (K : Ty → Prop) : tyC Tryz.prog 27 K = K (.st [(.st [(.int .i64), (.int .i64)]), (.int .i64), (.arr 32 5 (.int .u8)), (.arr 32 5 (.int .u8))]) := tyC_of (by kernel_rfl) K
theorem by27 (K : Nat → Prop) : byC Tryz.prog 27 K = K 88 := byC_of (by kernel_rfl) K
theorem ty28 (K : Ty → Prop) : tyC Tryz.prog 28 K = K .func := tyC_of (by kernel_rfl) K
theorem by28 (K : Nat → Prop) : byC Tryz.prog 28 K = K 8 := byC_of (by kernel_rfl) K
theorem ty29 (K : Ty → Prop) : tyC Tryz.prog 29 K = K .func := tyC_of (by kernel_rfl) K
theorem by29 (K : Nat → Prop) : byC Tryz.prog 29 K = K 8 := byC_of (by kernel_rfl) K
theorem ty30 (K : Ty → Prop) : tyC Tryz.prog 30 K = K (.ptr 68) := tyC_of (by kernel_rfl) K
theorem by30 (K : Nat → Prop) : byC Tryz.prog 30 K = K 8 := byC_of (by kernel_rfl) K
theorem ty31 (K : Ty → Prop) : tyC Tryz.prog 31 K = K (.int .i64) := tyC_of (by kernel_rfl) K
theorem by31 (K : Nat → Prop) : byC Tryz.prog 31 K = K 8 := byC_of (by kernel_rfl) K
theorem ty33 (K : Ty → Prop) : tyC Tryz.prog 33 K = K .func := tyC_of (by kernel_rfl) K
theorem by33 (K : Nat → Prop) : byC Tryz.prog 33 K = K 8 := byC_of (by kernel_rfl) K
theorem ty34 (K : Ty → Prop) : tyC Tryz.prog 34 K = K (.ptr 84) := tyC_of (by kernel_rfl) K
theorem by34 (K : Nat → Prop) : byC Tryz.prog 34 K = K 8 := byC_of (by kernel_rfl) K
theorem ty36 (K : Ty → Prop) : tyC Tryz.prog 36 K = K .func := tyC_of (by kernel_rfl) K
theorem by36 (K : Nat → Prop) : byC Tryz.prog 36 K = K 8 := byC_of (by kernel_rfl) K
theorem ty37 (K : Ty → Prop) : tyC Tryz.prog 37 K = K (.ptr 92) := tyC_of (by kernel_rfl) K
theorem by37 (K : Nat → Prop) : byC Tryz.prog 37 K = K 8 := byC_of (by kernel_rfl) K
theorem ty38 (K : Ty → Prop) : tyC Tryz.prog 38 K = K .func := tyC_of (by kernel_rfl) K
theorem by38 (K : Nat → Prop) : byC Tryz.prog 38 K = K 8 := byC_of (by kernel_rfl) K
theorem ty39 (K : Ty → Prop) : tyC Tryz.prog 39 K = K (.st [(.arr 32 5 (.int .u8)), (.arr 32 5 (.int .u8)), (.arr 32 5 (.int .u8))]) := tyC_of (by kernel_rfl) K
theorem by39 (K : Nat → Prop) : byC Tryz.prog 39 K = K 96 := byC_of (by kernel_rfl) K
theorem ty40 (K : Ty → Prop) : tyC Tryz.prog 40 K = K (.st [(.arr 32 5 (.int .u8)), (.arr 32 5 (.int .u8)), (.arr 32 5 (.int .u8))]) := tyC_of (by kernel_rfl) K
theorem by40 (K : Nat → Prop) : byC Tryz.prog 40 K = K 96 := byC_of (by kernel_rfl) K
theorem ty41 (K : Ty → Prop) : tyC Tryz.prog 41 K = K .func := tyC_of (by kernel_rfl) K
theorem by41 (K : Nat → Prop) : byC Tryz.prog 41 K = K 8 := byC_of (by kernel_rfl) K
theorem ty42 (K : Ty → Prop) : tyC Tryz.prog 42 K = K (.st [(.st [(.int .i64), (.int .i64)]), (.arr 32 5 (.int .u8)), (.arr 32 5 (.int .u8))]) := tyC_of (by kernel_rfl) K
theorem by42 (K : Nat → Prop) : byC Tryz.prog 42 K = K 80 := byC_of (by kernel_rfl) K
theorem ty43 (K : Ty → Prop) : tyC Tryz.prog 43 K = K (.st [(.st [(.int .i64), (.int .i64)]), (.arr 32 5 (.int .u8)), (.arr 32 5 (.int .u8))]) := tyC_of (by kernel_rfl) K
theorem by43 (K : Nat → Prop) : byC Tryz.prog 43 K = K 80 := byC_of (by kernel_rfl) K
theorem ty44 (K : Ty → Prop) : tyC Tryz.prog 44 K = K .func := tyC_of (by kernel_rfl) K
theorem by44 (K : Nat → Prop) : byC Tryz.prog 44 K = K 8 := byC_of (by kernel_rfl) K
theorem ty45 (K : Ty → Prop) : tyC Tryz.prog 45 K = K .func := tyC_of (by kernel_rfl) K
theorem by45 (K : Nat → Prop) : byC Tryz.prog 45 K = K 8 := byC_of (by kernel_rfl) K
theorem ty46 (K : Ty → Prop) : tyC Tryz.prog 46 K = K .func := tyC_of (by kernel_rfl) K
theorem by46 (K : Nat → Prop) : byC Tryz.prog 46 K = K 8 := byC_of (by kernel_rfl) K
theorem ty47 (K : Ty → Prop) : tyC Tryz.prog 47 K = K .func := tyC_of (by kernel_rfl) K
theorem by47 (K : Nat → Prop) : byC Tryz.prog 47 K = K 8 := byC_of (by kernel_rfl) K
theorem ty48 (K : Ty → Prop) : tyC Tryz.prog 48 K = K (.slice 165) := tyC_of (by kernel_rfl) K
theorem by48 (K : Nat → Prop) : byC Tryz.prog 48 K = K 24 := byC_of (by kernel_rfl) K
theorem ty49 (K : Ty → Prop) : tyC Tryz.prog 49 K = K (.slice 25) := tyC_of (by kernel_rfl) K
theorem by49 (K : Nat → Prop) : byC Tryz.prog 49 K = K 24 := byC_of (by kernel_rfl) K
theorem ty50 (K : Ty → Prop) : tyC Tryz.prog 50 K = K (.st [(.arr 32 5 (.int .u8)), (.slice 25)]) := tyC_of (by kernel_rfl) K
theorem by50 (K : Nat → Prop) : byC Tryz.prog 50 K = K 56 := byC_of (by kernel_rfl) K
theorem ty51 (K : Ty → Prop) : tyC Tryz.prog 51 K = K (.st [(.arr 32 5 (.int .u8)), (.slice 25)]) := tyC_of (by kernel_rfl) K
theorem by51 (K : Nat → Prop) : byC Tryz.prog 51 K = K 56 := byC_of (by kernel_rfl) K
theorem ty52 (K : Ty → Prop) : tyC Tryz.prog 52 K = K (.st [(.slice 165), (.arr 32 5 (.int .u8)), (.st [(.arr 32 5 (.int .u8)), (.slice 25)])]) := tyC_of (by kernel_rfl) K
theorem by52 (K : Nat → Prop) : byC Tryz.prog 52 K = K 112 := byC_of (by kernel_rfl) K
theorem ty53 (K : Ty → Prop) : tyC Tryz.prog 53 K = K (.st [(.slice 165), (.arr 32 5 (.int .u8)), (.st [(.arr 32 5 (.int .u8)), (.slice 25)])]) := tyC_of (by kernel_rfl) K
theorem by53 (K : Nat → Prop) : byC Tryz.prog 53 K = K 112 := byC_of (by kernel_rfl) K
theorem ty55 (K : Ty → Prop) : tyC Tryz.prog 55 K = K .func := tyC_of (by kernel_rfl) K
theorem by55 (K : Nat → Prop) : byC Tryz.prog 55 K = K 8 := byC_of (by kernel_rfl) K
theorem ty56 (K : Ty → Prop) : tyC Tryz.prog 56 K = K (.slice 5) := tyC_of (by kernel_rfl) K
theorem by56 (K : Nat → Prop) : byC Tryz.prog 56 K = K 24 := byC_of (by kernel_rfl) K
theorem ty57 (K : Ty → Prop) : tyC Tryz.prog 57 K = K (.st [(.int .i64), (.int .i64), (.arr 32 5 (.int .u8)), (.arr 32 5 (.int .u8))]) := tyC_of (by kernel_rfl) K
theorem by57 (K : Nat → Prop) : byC Tryz.prog 57 K = K 80 := byC_of (by kernel_rfl) K
theorem ty58 (K : Ty → Prop) : tyC Tryz.prog 58 K = K (.st [(.int .i64), (.int .i64), (.arr 32 5 (.int .u8)), (.arr 32 5 (.int .u8))]) := tyC_of (by kernel_rfl) K
theorem by58 (K : Nat → Prop) : byC Tryz.prog 58 K = K 80 := byC_of (by kernel_rfl) K
theorem ty59 (K : Ty → Prop) : tyC Tryz.prog 59 K = K (.slice 254) := tyC_of (by kernel_rfl) K
theorem by59 (K : Nat → Prop) : byC Tryz.prog 59 K = K 24 := byC_of (by kernel_rfl) K
theorem ty60 (K : Ty → Prop) : tyC Tryz.prog 60 K = K (.st [(.int .i64), (.arr 32 5 (.int .u8)), (.slice 254)]) := tyC_of (by kernel_rfl) K
theorem by60 (K : Nat → Prop) : byC Tryz.prog 60 K = K 64 := byC_of (by kernel_rfl) K
theorem ty61 (K : Ty → Prop) : tyC Tryz.prog 61 K = K (.st [(.int .i64), (.arr 32 5 (.int .u8)), (.slice 254)]) := tyC_of (by kernel_rfl) K
theorem by61 (K : Nat → Prop) : byC Tryz.prog 61 K = K 64 := byC_of (by kernel_rfl) K
theorem ty63 (K : Ty → Prop) : tyC Tryz.prog 63 K = K .func := tyC_of (by kernel_rfl) K
theorem by63 (K : Nat → Prop) : byC Tryz.prog 63 K = K 8 := byC_of (by kernel_rfl) K
theorem ty64 (K : Ty → Prop) : tyC Tryz.prog 64 K = K .func := tyC_of (by kernel_rfl) K
theorem by64 (K : Nat → Prop) : byC Tryz.prog 64 K = K 8 := byC_of (by kernel_rfl) K
theorem ty65 (K : Ty → Prop) : tyC Tryz.prog 65 K = K (.slice 195) := tyC_of (by kernel_rfl) K
theorem by65 (K : Nat → Prop) : byC Tryz.prog 65 K = K 24 := byC_of (by kernel_rfl) K
theorem ty66 (K : Ty → Prop) : tyC Tryz.prog 66 K = K (.slice 3) := tyC_of (by kernel_rfl) K
theorem by66 (K : Nat → Prop) : byC Tryz.prog 66 K = K 24 := byC_of (by kernel_rfl) K
theorem ty67 (K : Ty → Prop) : tyC Tryz.prog 67 K = K (.st [(.int .i64), (.slice 5), (.slice 195), .bool, .bool, (.int .i64), (.slice 3)]) := tyC_of (by kernel_rfl) K
theorem by67 (K : Nat → Prop) : byC Tryz.prog 67 K = K 96 := byC_of (by kernel_rfl) K
theorem ty68 (K : Ty → Prop) : tyC Tryz.prog 68 K = K (.st [(.int .i64), (.slice 5), (.slice 195), .bool, .bool, (.int .i64), (.slice 3)]) := tyC_of (by kernel_rfl) K
theorem by68 (K : Nat → Prop) : byC Tryz.prog 68 K = K 96 := byC_of (by kernel_rfl) K
theorem ty69 (K : Ty → Prop) : tyC Tryz.prog 69 K = K (.ptr 128) := tyC_of (by kernel_rfl) K
theorem by69 (K : Nat → Prop) : byC Tryz.prog 69 K = K 8 := byC_of (by kernel_rfl) K
theorem ty71 (K : Ty → Prop) : tyC Tryz.prog 71 K = K .func := tyC_of (by kernel_rfl) K
theorem by71 (K : Nat → Prop) : byC Tryz.prog 71 K = K 8 := byC_of (by kernel_rfl) K
theorem ty72 (K : Ty → Prop) : tyC Tryz.prog 72 K = K .func := tyC_of (by kernel_rfl) K
theorem by72 (K : Nat → Prop) : byC Tryz.prog 72 K = K 8 := byC_of (by kernel_rfl) K
theorem ty73 (K : Ty → Prop) : tyC Tryz.prog 73 K = K (.ptr 138) := tyC_of (by kernel_rfl) K
theorem by73 (K : Nat → Prop) : byC Tryz.prog 73 K = K 8 := byC_of (by kernel_rfl) K
theorem ty75 (K : Ty → Prop) : tyC Tryz.prog 75 K = K .func := tyC_of (by kernel_rfl) K
theorem by75 (K : Nat → Prop) : byC Tryz.prog 75 K = K 8 := byC_of (by kernel_rfl) K
theorem ty76 (K : Ty → Prop) : tyC Tryz.prog 76 K = K (.map 9 120) := tyC_of (by kernel_rfl) K
theorem by76 (K : Nat → Prop) : byC Tryz.prog 76 K = K 8 := byC_of (by kernel_rfl) K
theorem ty77 (K : Ty → Prop) : tyC Tryz.prog 77 K = K (.map 9 147) := tyC_of (by kernel_rfl) K
theorem by77 (K : Nat → Prop) : byC Tryz.prog 77 K = K 8 := byC_of (by kernel_rfl) K
theorem ty78 (K : Ty → Prop) : tyC Tryz.prog 78 K = K (.slice 106) := tyC_of (by kernel_rfl) K
theorem by78 (K : Nat → Prop) : byC Tryz.prog 78 K = K 24 := byC_of (by kernel_rfl) K
theorem ty79 (K : Ty → Prop) : tyC Tryz.prog 79 K = K (.slice 159) := tyC_of (by kernel_rfl) K
theorem by79 (K : Nat → Prop) : byC Tryz.prog 79 K = K 24 := byC_of (by kernel_rfl) K
theorem ty80 (K : Ty → Prop) : tyC Tryz.prog 80 K = K (.st [(.arr 32 5 (.int .u8)), (.slice 106), (.slice 159), (.map 9 120), (.map 9 147)]) := tyC_of (by kernel_rfl) K
theorem by80 (K : Nat → Prop) : byC Tryz.prog 80 K = K 96 := byC_of (by kernel_rfl) K
theorem ty81 (K : Ty → Prop) : tyC Tryz.prog 81 K = K (.st [(.arr 32 5 (.int .u8)), (.slice 106), (.slice 159), (.map 9 120), (.map 9 147)]) := tyC_of (by kernel_rfl) K
theorem by81 (K : Nat → Prop) : byC Tryz.prog 81 K = K 96 := byC_of (by kernel_rfl) K
theorem ty82 (K : Ty → Prop) : tyC Tryz.prog 82 K = K (.slice 120) := tyC_of (by kernel_rfl) K
theorem by82 (K : Nat → Prop) : byC Tryz.prog 82 K = K 24 := byC_of (by kernel_rfl) K
theorem ty83 (K : Ty → Prop) : tyC Tryz.prog 83 K = K (.st [(.st [(.arr 32 5 (.int .u8)), (.slice 106), (.slice 159), (.map 9 120), (.map 9 147)]), (.st [(.st [(.int .i64), (.int .i64)]), (.int .i64), (.arr 32 5 (.int .u8)), (.arr 32 5 (.int .u8))]), (.ptr 68), (.ptr 128), (.ptr 138), (.int .i64), (.slice 120), .bool]) := tyC_of (by kernel_rfl) K
theorem by83 (K : Nat → Prop) : byC Tryz.prog 83 K = K 248 := byC_of (by kernel_rfl) K
theorem ty84 (K : Ty → Prop) : tyC Tryz.prog 84 K = K (.st [(.st [(.arr 32 5 (.int .u8)), (.slice 106), (.slice 159), (.map 9 120), (.map 9 147)]), (.st [(.st [(.int .i64), (.int .i64)]), (.int .i64), (.arr 32 5 (.int .u8)), (.arr 32 5 (.int .u8))]), (.ptr 68), (.ptr 128), (.ptr 138), (.int .i64), (.slice 120), .bool]) := tyC_of (by kernel_rfl) K
theorem by84 (K : Nat → Prop) : byC Tryz.prog 84 K = K 248 := byC_of (by kernel_rfl) K
theorem ty85 (K : Ty → Prop) : tyC Tryz.prog 85 K = K .func := tyC_of (by kernel_rfl) K
theorem by85 (K : Nat → Prop) : byC Tryz.prog 85 K = K 8 := byC_of (by kernel_rfl) K
theorem ty86 (K : Ty → Prop) : tyC Tryz.prog 86 K = K .func := tyC_of (by kernel_rfl) K
theorem by86 (K : Nat → Prop) : byC Tryz.prog 86 K = K 8 := byC_of (by kernel_rfl) K
theorem ty87 (K : Ty → Prop) : tyC Tryz.prog 87 K = K .func := tyC_of (by kernel_rfl) K
theorem by87 (K : Nat → Prop) : byC Tryz.prog 87 K = K 8 := byC_of (by kernel_rfl) K
theorem ty88 (K : Ty → Prop) : tyC Tryz.prog 88 K = K .func := tyC_of (by kernel_rfl) K
theorem by88 (K : Nat → Prop) : byC Tryz.prog 88 K = K 8 := byC_of (by kernel_rfl) K
theorem ty89 (K : Ty → Prop) : tyC Tryz.prog 89 K = K (.st [(.int .i64), (.int .i64), (.int .i64)]) := tyC_of (by kernel_rfl) K
theorem by89 (K : Nat → Prop) : byC Tryz.prog 89 K = K 24 := byC_of (by kernel_rfl) K
theorem ty90 (K : Ty → Prop) : tyC Tryz.prog 90 K = K (.st [(.int .i64), (.int .i64), (.int .i64)]) := tyC_of (by kernel_rfl) K
theorem by90 (K : Nat → Prop) : byC Tryz.prog 90 K = K 24 := byC_of (by kernel_rfl) K
theorem ty91 (K : Ty → Prop) : tyC Tryz.prog 91 K = K (.st [(.st [(.int .i64), (.int .i64), (.int .i64)])]) := tyC_of (by kernel_rfl) K
theorem by91 (K : Nat → Prop) : byC Tryz.prog 91 K = K 24 := byC_of (by kernel_rfl) K
theorem ty92 (K : Ty → Prop) : tyC Tryz.prog 92 K = K (.st [(.st [(.int .i64), (.int .i64), (.int .i64)])]) := tyC_of (by kernel_rfl) K
theorem by92 (K : Nat → Prop) : byC Tryz.prog 92 K = K 24 := byC_of (by kernel_rfl) K
theorem ty93 (K : Ty → Prop) : tyC Tryz.prog 93 K = K .func := tyC_of (by kernel_rfl) K
theorem by93 (K : Nat → Prop) : byC Tryz.prog 93 K = K 8 := byC_of (by kernel_rfl) K
theorem ty94 (K : Ty → Prop) : tyC Tryz.prog 94 K = K (.int .u64) := tyC_of (by kernel_rfl) K
theorem by94 (K : Nat → Prop) : byC Tryz.prog 94 K = K 8 := byC_of (by kernel_rfl) K
theorem ty95 (K : Ty → Prop) : tyC Tryz.prog 95 K = K .func := tyC_of (by kernel_rfl) K
theorem by95 (K : Nat → Prop) : byC Tryz.prog 95 K = K 8 := byC_of (by kernel_rfl) K
theorem ty96 (K : Ty → Prop) : tyC Tryz.prog 96 K = K .func := tyC_of (by kernel_rfl) K
theorem by96 (K : Nat → Prop) : byC Tryz.prog 96 K = K 8 := byC_of (by kernel_rfl) K
theorem ty97 (K : Ty → Prop) : tyC Tryz.prog 97 K = K .func := tyC_of (by kernel_rfl) K
theorem by97 (K : Nat → Prop) : byC Tryz.prog 97 K = K 8 := byC_of (by kernel_rfl) K
theorem ty99 (K : Ty → Prop) : tyC Tryz.prog 99 K = K .func := tyC_of (by kernel_rfl) K
theorem by99 (K : Nat → Prop) : byC Tryz.prog 99 K = K 8 := byC_of (by kernel_rfl) K
theorem ty101 (K : Ty → Prop) : tyC Tryz.prog 101 K = K .func := tyC_of (by kernel_rfl) K
theorem by101 (K : Nat → Prop) : byC Tryz.prog 101 K = K 8 := byC_of (by kernel_rfl) K
theorem ty102 (K : Ty → Prop) : tyC Tryz.prog 102 K = K (.int .u32) := tyC_of (by kernel_rfl) K
theorem by102 (K : Nat → Prop) : byC Tryz.prog 102 K = K 4 := byC_of (by kernel_rfl) K
theorem ty103 (K : Ty → Prop) : tyC Tryz.prog 103 K = K .func := tyC_of (by kernel_rfl) K
theorem by103 (K : Nat → Prop) : byC Tryz.prog 103 K = K 8 := byC_of (by kernel_rfl) K
theorem ty104 (K : Ty → Prop) : tyC Tryz.prog 104 K = K .func := tyC_of (by kernel_rfl) K
theorem by104 (K : Nat → Prop) : byC Tryz.prog 104 K = K 8 := byC_of (by kernel_rfl) K
theorem ty105 (K : Ty → Prop) : tyC Tryz.prog 105 K = K (.st [(.int .i64), (.int .i64), (.slice 120), (.arr 32 5 (.int .u8))]) := tyC_of (by kernel_rfl) K
theorem by105 (K : Nat → Prop) : byC Tryz.prog 105 K = K 72 := byC_of (by kernel_rfl) K
theorem ty106 (K : Ty → Prop) : tyC Tryz.prog 106 K = K (.st [(.int .i64), (.int .i64), (.slice 120), (.arr 32 5 (.int .u8))]) := tyC_of (by kernel_rfl) K
theorem by106 (K : Nat → Prop) : byC Tryz.prog 106 K = K 72 := byC_of (by kernel_rfl) K
theorem ty107 (K : Ty → Prop) : tyC Tryz.prog 107 K = K .func := tyC_of (by kernel_rfl) K
theorem by107 (K : Nat → Prop) : byC Tryz.prog 107 K = K 8 := byC_of (by kernel_rfl) K
theorem ty109 (K : Ty → Prop) : tyC Tryz.prog 109 K = K .func := tyC_of (by kernel_rfl) K
theorem by109 (K : Nat → Prop) : byC Tryz.prog 109 K = K 8 := byC_of (by kernel_rfl) K
theorem ty110 (K : Ty → Prop) : tyC Tryz.prog 110 K = K .func := tyC_of (by kernel_rfl) K
theorem by110 (K : Nat → Prop) : byC Tryz.prog 110 K = K 8 := byC_of (by kernel_rfl) K
theorem ty111 (K : Ty → Prop) : tyC Tryz.prog 111 K = K .func := tyC_of (by kernel_rfl) K
theorem by111 (K : Nat → Prop) : byC Tryz.prog 111 K = K 8 := byC_of (by kernel_rfl) K
theorem ty113 (K : Ty → Prop) : tyC Tryz.prog 113 K = K .func := tyC_of (by kernel_rfl) K
theorem by113 (K : Nat → Prop) : byC Tryz.prog 113 K = K 8 := byC_of (by kernel_rfl) K
theorem ty114 (K : Ty → Prop) : tyC Tryz.prog 114 K = K .func := tyC_of (by kernel_rfl) K
theorem by114 (K : Nat → Prop) : byC Tryz.prog 114 K = K 8 := byC_of (by kernel_rfl) K
theorem ty115 (K : Ty → Prop) : tyC Tryz.prog 115 K = K .func := tyC_of (by kernel_rfl) K
theorem by115 (K : Nat → Prop) : byC Tryz.prog 115 K = K 8 := byC_of (by kernel_rfl) K
theorem ty116 (K : Ty → Prop) : tyC Tryz.prog 116 K = K .func := tyC_of (by kernel_rfl) K
theorem by116 (K : Nat → Prop) : byC Tryz.prog 116 K = K 8 := byC_of (by kernel_rfl) K
theorem ty117 (K : Ty → Prop) : tyC Tryz.prog 117 K = K .func := tyC_of (by kernel_rfl) K
theorem by117 (K : Nat → Prop) : byC Tryz.prog 117 K = K 8 := byC_of (by kernel_rfl) K
theorem ty118 (K : Ty → Prop) : tyC Tryz.prog 118 K = K .func := tyC_of (by kernel_rfl) K
theorem by118 (K : Nat → Prop) : byC Tryz.prog 118 K = K 8 := byC_of (by kernel_rfl) K
theorem ty119 (K : Ty → Prop) : tyC Tryz.prog 119 K = K (.st [.str, (.int .i64), (.slice 5)]) := tyC_of (by kernel_rfl) K
theorem by119 (K : Nat → Prop) : byC Tryz.prog 119 K = K 48 := byC_of (by kernel_rfl) K
theorem ty120 (K : Ty → Prop) : tyC Tryz.prog 120 K = K (.st [.str, (.int .i64), (.slice 5)]) := tyC_of (by kernel_rfl) K
theorem by120 (K : Nat → Prop) : byC Tryz.prog 120 K = K 48 := byC_of (by kernel_rfl) K
theorem ty122 (K : Ty → Prop) : tyC Tryz.prog 122 K = K .func := tyC_of (by kernel_rfl) K
theorem by122 (K : Nat → Prop) : byC Tryz.prog 122 K = K 8 := byC_of (by kernel_rfl) K
theorem ty123 (K : Ty → Prop) : tyC Tryz.prog 123 K = K (.st [(.int .i64), (.int .i64), .str]) := tyC_of (by kernel_rfl) K
theorem by123 (K : Nat → Prop) : byC Tryz.prog 123 K = K 32 := byC_of (by kernel_rfl) K
theorem ty124 (K : Ty → Prop) : tyC Tryz.prog 124 K = K (.st [(.int .i64), (.int .i64), .str]) := tyC_of (by kernel_rfl) K
theorem by124 (K : Nat → Prop) : byC Tryz.prog 124 K = K 32 := byC_of (by kernel_rfl) K
theorem ty125 (K : Ty → Prop) : tyC Tryz.prog 125 K = K (.st [(.int .i64), (.int .i64), (.int .i64), (.st [(.int .i64), (.int .i64), .str])]) := tyC_of (by kernel_rfl) K
theorem by125 (K : Nat → Prop) : byC Tryz.prog 125 K = K 56 := byC_of (by kernel_rfl) K
theorem ty126 (K : Ty → Prop) : tyC Tryz.prog 126 K = K (.st [(.int .i64), (.int .i64), (.int .i64), (.st [(.int .i64), (.int .i64), .str])]) := tyC_of (by kernel_rfl) K
theorem by126 (K : Nat → Prop) : byC Tryz.prog 126 K = K 56 := byC_of (by kernel_rfl) K
theorem ty127 (K : Ty → Prop) : tyC Tryz.prog 127 K = K (.st [(.st [(.int .i64), (.int .i64), (.int .i64), (.st [(.int .i64), (.int .i64), .str])]), (.ptr 138), (.ptr 92), (.int .i64), (.int .i64), (.int .i64), .bool]) := tyC_of (by kernel_rfl) K
theorem by127 (K : Nat → Prop) : byC Tryz.prog 127 K = K 104 := byC_of (by kernel_rfl) K
theorem ty128 (K : Ty → Prop) : tyC Tryz.prog 128 K = K (.st [(.st [(.int .i64), (.int .i64), (.int .i64), (.st [(.int .i64), (.int .i64), .str])]), (.ptr 138), (.ptr 92), (.int .i64), (.int .i64), (.int .i64), .bool]) := tyC_of (by kernel_rfl) K
theorem by128 (K : Nat → Prop) : byC Tryz.prog 128 K = K 104 := byC_of (by kernel_rfl) K
theorem ty130 (K : Ty → Prop) : tyC Tryz.prog 130 K = K .func := tyC_of (by kernel_rfl) K
theorem by130 (K : Nat → Prop) : byC Tryz.prog 130 K = K 8 := byC_of (by kernel_rfl) K
theorem ty131 (K : Ty → Prop) : tyC Tryz.prog 131 K = K .func := tyC_of (by kernel_rfl) K
theorem by131 (K : Nat → Prop) : byC Tryz.prog 131 K = K 8 := byC_of (by kernel_rfl) K
theorem ty132 (K : Ty → Prop) : tyC Tryz.prog 132 K = K .func := tyC_of (by kernel_rfl) K
theorem by132 (K : Nat → Prop) : byC Tryz.prog 132 K = K 8 := byC_of (by kernel_rfl) K
theorem ty133 (K : Ty → Prop) : tyC Tryz.prog 133 K = K .func := tyC_of (by kernel_rfl) K
theorem by133 (K : Nat → Prop) : byC Tryz.prog 133 K = K 8 := byC_of (by kernel_rfl) K
theorem ty134 (K : Ty → Prop) : tyC Tryz.prog 134 K = K .func := tyC_of (by kernel_rfl) K
theorem by134 (K : Nat → Prop) : byC Tryz.prog 134 K = K 8 := byC_of (by kernel_rfl) K
theorem ty136 (K : Ty → Prop) : tyC Tryz.prog 136 K = K .func := tyC_of (by kernel_rfl) K
theorem by136 (K : Nat → Prop) : byC Tryz.prog 136 K = K 8 := byC_of (by kernel_rfl) K
theorem ty137 (K : Ty → Prop) : tyC Tryz.prog 137 K = K (.st [(.ptr 68), (.int .i64), (.int .i64), (.slice 5), .bool]) := tyC_of (by kernel_rfl) K
theorem by137 (K : Nat → Prop) : byC Tryz.prog 137 K = K 56 := byC_of (by kernel_rfl) K
theorem ty138 (K : Ty → Prop) : tyC Tryz.prog 138 K = K (.st [(.ptr 68), (.int .i64), (.int .i64), (.slice 5), .bool]) := tyC_of (by kernel_rfl) K
theorem by138 (K : Nat → Prop) : byC Tryz.prog 138 K = K 56 := byC_of (by kernel_rfl) K
theorem ty140 (K : Ty → Prop) : tyC Tryz.prog 140 K = K .func := tyC_of (by kernel_rfl) K
theorem by140 (K : Nat → Prop) : byC Tryz.prog 140 K = K 8 := byC_of (by kernel_rfl) K
theorem ty141 (K : Ty → Prop) : tyC Tryz.prog 141 K = K .func := tyC_of (by kernel_rfl) K
theorem by141 (K : Nat → Prop) : byC Tryz.prog 141 K = K 8 := byC_of (by kernel_rfl) K
theorem ty143 (K : Ty → Prop) : tyC Tryz.prog 143 K = K .func := tyC_of (by kernel_rfl) K
theorem by143 (K : Nat → Prop) : byC Tryz.prog 143 K = K 8 := byC_of (by kernel_rfl) K
theorem ty145 (K : Ty → Prop) : tyC Tryz.prog 145 K = K .func := tyC_of (by kernel_rfl) K
theorem by145 (K : Nat → Prop) : byC Tryz.prog 145 K = K 8 := byC_of (by kernel_rfl) K
theorem ty146 (K : Ty → Prop) : tyC Tryz.prog 146 K = K .func := tyC_of (by kernel_rfl) K
theorem by146 (K : Nat → Prop) : byC Tryz.prog 146 K = K 8 := byC_of (by kernel_rfl) K
theorem ty147 (K : Ty → Prop) : tyC Tryz.prog 147 K = K (.slice 56) := tyC_of (by kernel_rfl) K
theorem by147 (K : Nat → Prop) : byC Tryz.prog 147 K = K 24 := byC_of (by kernel_rfl) K
theorem ty148 (K : Ty → Prop) : tyC Tryz.prog 148 K = K .func := tyC_of (by kernel_rfl) K
theorem by148 (K : Nat → Prop) : byC Tryz.prog 148 K = K 8 := byC_of (by kernel_rfl) K
theorem ty149 (K : Ty → Prop) : tyC Tryz.prog 149 K = K .func := tyC_of (by kernel_rfl) K
theorem by149 (K : Nat → Prop) : byC Tryz.prog 149 K = K 8 := byC_of (by kernel_rfl) K
theorem ty150 (K : Ty → Prop) : tyC Tryz.prog 150 K = K (.int .u64) := tyC_of (by kernel_rfl) K
theorem by150 (K : Nat → Prop) : byC Tryz.prog 150 K = K 8 := byC_of (by kernel_rfl) K
theorem ty152 (K : Ty → Prop) : tyC Tryz.prog 152 K = K .func := tyC_of (by kernel_rfl) K
theorem by152 (K : Nat → Prop) : byC Tryz.prog 152 K = K 8 := byC_of (by kernel_rfl) K
theorem ty153 (K : Ty → Prop) : tyC Tryz.prog 153 K = K (.slice 49) := tyC_of (by kernel_rfl) K
theorem by153 (K : Nat → Prop) : byC Tryz.prog 153 K = K 24 := byC_of (by kernel_rfl) K
theorem ty154 (K : Ty → Prop) : tyC Tryz.prog 154 K = K .func := tyC_of (by kernel_rfl) K
theorem by154 (K : Nat → Prop) : byC Tryz.prog 154 K = K 8 := byC_of (by kernel_rfl) K
theorem ty155 (K : Ty → Prop) : tyC Tryz.prog 155 K = K .func := tyC_of (by kernel_rfl) K
theorem by155 (K : Nat → Prop) : byC Tryz.prog 155 K = K 8 := byC_of (by kernel_rfl) K
theorem ty156 (K : Ty → Prop) : tyC Tryz.prog 156 K = K .func := tyC_of (by kernel_rfl) K
theorem by156 (K : Nat → Prop) : byC Tryz.prog 156 K = K 8 := byC_of (by kernel_rfl) K
theorem ty157 (K : Ty → Prop) : tyC Tryz.prog 157 K = K .func := tyC_of (by kernel_rfl) K
theorem by157 (K : Nat → Prop) : byC Tryz.prog 157 K = K 8 := byC_of (by kernel_rfl) K
theorem ty158 (K : Ty → Prop) : tyC Tryz.prog 158 K = K (.st [(.arr 32 5 (.int .u8)), (.arr 32 5 (.int .u8))]) := tyC_of (by kernel_rfl) K
theorem by158 (K : Nat → Prop) : byC Tryz.prog 158 K = K 64 := byC_of (by kernel_rfl) K
theorem ty159 (K : Ty → Prop) : tyC Tryz.prog 159 K = K (.st [(.arr 32 5 (.int .u8)), (.arr 32 5 (.int .u8))]) := tyC_of (by kernel_rfl) K
theorem by159 (K : Nat → Prop) : byC Tryz.prog 159 K = K 64 := byC_of (by kernel_rfl) K
theorem ty161 (K : Ty → Prop) : tyC Tryz.prog 161 K = K .func := tyC_of (by kernel_rfl) K
theorem by161 (K : Nat → Prop) : byC Tryz.prog 161 K = K 8 := byC_of (by kernel_rfl) K
theorem ty163 (K : Ty → Prop) : tyC Tryz.prog 163 K = K .func := tyC_of (by kernel_rfl) K
theorem by163 (K : Nat → Prop) : byC Tryz.prog 163 K = K 8 := byC_of (by kernel_rfl) K
theorem ty164 (K : Ty → Prop) : tyC Tryz.prog 164 K = K (.st [(.int .i64), (.slice 5), (.arr 32 5 (.int .u8)), (.arr 32 5 (.int .u8)), (.st [(.arr 32 5 (.int .u8)), (.slice 25)])]) := tyC_of (by kernel_rfl) K
theorem by164 (K : Nat → Prop) : byC Tryz.prog 164 K = K 152 := byC_of (by kernel_rfl) K
theorem ty165 (K : Ty → Prop) : tyC Tryz.prog 165 K = K (.st [(.int .i64), (.slice 5), (.arr 32 5 (.int .u8)), (.arr 32 5 (.int .u8)), (.st [(.arr 32 5 (.int .u8)), (.slice 25)])]) := tyC_of (by kernel_rfl) K
theorem by165 (K : Nat → Prop) : byC Tryz.prog 165 K = K 152 := byC_of (by kernel_rfl) K
theorem ty167 (K : Ty → Prop) : tyC Tryz.prog 167 K = K .func := tyC_of (by kernel_rfl) K
theorem by167 (K : Nat → Prop) : byC Tryz.prog 167 K = K 8 := byC_of (by kernel_rfl) K
theorem ty168 (K : Ty → Prop) : tyC Tryz.prog 168 K = K .func := tyC_of (by kernel_rfl) K
theorem by168 (K : Nat → Prop) : byC Tryz.prog 168 K = K 8 := byC_of (by kernel_rfl) K
theorem ty170 (K : Ty → Prop) : tyC Tryz.prog 170 K = K .func := tyC_of (by kernel_rfl) K
theorem by170 (K : Nat → Prop) : byC Tryz.prog 170 K = K 8 := byC_of (by kernel_rfl) K
theorem ty171 (K : Ty → Prop) : tyC Tryz.prog 171 K = K .func := tyC_of (by kernel_rfl) K
theorem by171 (K : Nat → Prop) : byC Tryz.prog 171 K = K 8 := byC_of (by kernel_rfl) K
theorem ty172 (K : Ty → Prop) : tyC Tryz.prog 172 K = K (.st [(.slice 25)]) := tyC_of (by kernel_rfl) K
theorem by172 (K : Nat → Prop) : byC Tryz.prog 172 K = K 24 := byC_of (by kernel_rfl) K
theorem ty173 (K : Ty → Prop) : tyC Tryz.prog 173 K = K (.st [(.slice 25)]) := tyC_of (by kernel_rfl) K
theorem by173 (K : Nat → Prop) : byC Tryz.prog 173 K = K 24 := byC_of (by kernel_rfl) K
theorem ty174 (K : Ty → Prop) : tyC Tryz.prog 174 K = K .func := tyC_of (by kernel_rfl) K
theorem by174 (K : Nat → Prop) : byC Tryz.prog 174 K = K 8 := byC_of (by kernel_rfl) K
theorem ty175 (K : Ty → Prop) : tyC Tryz.prog 175 K = K (.ptr 81) := tyC_of (by kernel_rfl) K
theorem by175 (K : Nat → Prop) : byC Tryz.prog 175 K = K 8 := byC_of (by kernel_rfl) K
theorem ty176 (K : Ty → Prop) : tyC Tryz.prog 176 K = K .func := tyC_of (by kernel_rfl) K
theorem by176 (K : Nat → Prop) : byC Tryz.prog 176 K = K 8 := byC_of (by kernel_rfl) K
theorem ty177 (K : Ty → Prop) : tyC Tryz.prog 177 K = K .func := tyC_of (by kernel_rfl) K
theorem by177 (K : Nat → Prop) : byC Tryz.prog 177 K = K 8 := byC_of (by kernel_rfl) K
theorem ty178 (K : Ty → Prop) : tyC Tryz.prog 178 K = K .func := tyC_of (by kernel_rfl) K
theorem by178 (K : Nat → Prop) : byC Tryz.prog 178 K = K 8 := byC_of (by kernel_rfl) K
theorem ty179 (K : Ty → Prop) : tyC Tryz.prog 179 K = K (.ptr 181) := tyC_of (by kernel_rfl) K
theorem by179 (K : Nat → Prop) : byC Tryz.prog 179 K = K 8 := byC_of (by kernel_rfl) K
theorem ty180 (K : Ty → Prop) : tyC Tryz.prog 180 K = K (.st [(.slice 5)]) := tyC_of (by kernel_rfl) K
theorem by180 (K : Nat → Prop) : byC Tryz.prog 180 K = K 24 := byC_of (by kernel_rfl) K
theorem ty181 (K : Ty → Prop) : tyC Tryz.prog 181 K = K (.st [(.slice 5)]) := tyC_of (by kernel_rfl) K
theorem by181 (K : Nat → Prop) : byC Tryz.prog 181 K = K 24 := byC_of (by kernel_rfl) K
theorem ty182 (K : Ty → Prop) : tyC Tryz.prog 182 K = K .func := tyC_of (by kernel_rfl) K
theorem by182 (K : Nat → Prop) : byC Tryz.prog 182 K = K 8 := byC_of (by kernel_rfl) K
theorem ty183 (K : Ty → Prop) : tyC Tryz.prog 183 K = K .func := tyC_of (by kernel_rfl) K
theorem by183 (K : Nat → Prop) : byC Tryz.prog 183 K = K 8 := byC_of (by kernel_rfl) K
theorem ty184 (K : Ty → Prop) : tyC Tryz.prog 184 K = K .func := tyC_of (by kernel_rfl) K
theorem by184 (K : Nat → Prop) : byC Tryz.prog 184 K = K 8 := byC_of (by kernel_rfl) K
theorem ty185 (K : Ty → Prop) : tyC Tryz.prog 185 K = K .func := tyC_of (by kernel_rfl) K
theorem by185 (K : Nat → Prop) : byC Tryz.prog 185 K = K 8 := byC_of (by kernel_rfl) K
theorem ty187 (K : Ty → Prop) : tyC Tryz.prog 187 K = K .func := tyC_of (by kernel_rfl) K
theorem by187 (K : Nat → Prop) : byC Tryz.prog 187 K = K 8 := byC_of (by kernel_rfl) K
theorem ty189 (K : Ty → Prop) : tyC Tryz.prog 189 K = K .func := tyC_of (by kernel_rfl) K
theorem by189 (K : Nat → Prop) : byC Tryz.prog 189 K = K 8 := byC_of (by kernel_rfl) K
theorem ty190 (K : Ty → Prop) : tyC Tryz.prog 190 K = K (.arr 5 3 (.int .i64)) := tyC_of (by kernel_rfl) K
theorem by190 (K : Nat → Prop) : byC Tryz.prog 190 K = K 40 := byC_of (by kernel_rfl) K
theorem ty191 (K : Ty → Prop) : tyC Tryz.prog 191 K = K .func := tyC_of (by kernel_rfl) K
theorem by191 (K : Nat → Prop) : byC Tryz.prog 191 K = K 8 := byC_of (by kernel_rfl) K
theorem ty192 (K : Ty → Prop) : tyC Tryz.prog 192 K = K .func := tyC_of (by kernel_rfl) K
theorem by192 (K : Nat → Prop) : byC Tryz.prog 192 K = K 8 := byC_of (by kernel_rfl) K
theorem ty193 (K : Ty → Prop) : tyC Tryz.prog 193 K = K .func := tyC_of (by kernel_rfl) K
theorem by193 (K : Nat → Prop) : byC Tryz.prog 193 K = K 8 := byC_of (by kernel_rfl) K
theorem ty194 (K : Ty → Prop) : tyC Tryz.prog 194 K = K (.st [(.int .i64), (.slice 5)]) := tyC_of (by kernel_rfl) K
theorem by194 (K : Nat → Prop) : byC Tryz.prog 194 K = K 32 := byC_of (by kernel_rfl) K
theorem ty195 (K : Ty → Prop) : tyC Tryz.prog 195 K = K (.st [(.int .i64), (.slice 5)]) := tyC_of (by kernel_rfl) K
theorem by195 (K : Nat → Prop) : byC Tryz.prog 195 K = K 32 := byC_of (by kernel_rfl) K
theorem ty196 (K : Ty → Prop) : tyC Tryz.prog 196 K = K (.map 9 4) := tyC_of (by kernel_rfl) K
theorem by196 (K : Nat → Prop) : byC Tryz.prog 196 K = K 8 := byC_of (by kernel_rfl) K
theorem ty198 (K : Ty → Prop) : tyC Tryz.prog 198 K = K .func := tyC_of (by kernel_rfl) K
theorem by198 (K : Nat → Prop) : byC Tryz.prog 198 K = K 8 := byC_of (by kernel_rfl) K
theorem ty199 (K : Ty → Prop) : tyC Tryz.prog 199 K = K (.slice 102) := tyC_of (by kernel_rfl) K
theorem by199 (K : Nat → Prop) : byC Tryz.prog 199 K = K 24 := byC_of (by kernel_rfl) K
theorem ty200 (K : Ty → Prop) : tyC Tryz.prog 200 K = K .func := tyC_of (by kernel_rfl) K
theorem by200 (K : Nat → Prop) : byC Tryz.prog 200 K = K 8 := byC_of (by kernel_rfl) K
theorem ty201 (K : Ty → Prop) : tyC Tryz.prog 201 K = K .func := tyC_of (by kernel_rfl) K
theorem by201 (K : Nat → Prop) : byC Tryz.prog 201 K = K 8 := byC_of (by kernel_rfl) K
theorem ty202 (K : Ty → Prop) : tyC Tryz.prog 202 K = K .func := tyC_of (by kernel_rfl) K
theorem by202 (K : Nat → Prop) : byC Tryz.prog 202 K = K 8 := byC_of (by kernel_rfl) K
theorem ty203 (K : Ty → Prop) : tyC Tryz.prog 203 K = K (.ptr 260) := tyC_of (by kernel_rfl) K
theorem by203 (K : Nat → Prop) : byC Tryz.prog 203 K = K 8 := byC_of (by kernel_rfl) K
theorem ty204 (K : Ty → Prop) : tyC Tryz.prog 204 K = K .func := tyC_of (by kernel_rfl) K
theorem by204 (K : Nat → Prop) : byC Tryz.prog 204 K = K 8 := byC_of (by kernel_rfl) K
theorem ty205 (K : Ty → Prop) : tyC Tryz.prog 205 K = K .func := tyC_of (by kernel_rfl) K
theorem by205 (K : Nat → Prop) : byC Tryz.prog 205 K = K 8 := byC_of (by kernel_rfl) K
theorem ty206 (K : Ty → Prop) : tyC Tryz.prog 206 K = K .func := tyC_of (by kernel_rfl) K
theorem by206 (K : Nat → Prop) : byC Tryz.prog 206 K = K 8 := byC_of (by kernel_rfl) K
theorem ty207 (K : Ty → Prop) : tyC Tryz.prog 207 K = K (.ptr 212) := tyC_of (by kernel_rfl) K
theorem by207 (K : Nat → Prop) : byC Tryz.prog 207 K = K 8 := byC_of (by kernel_rfl) K
theorem ty208 (K : Ty → Prop) : tyC Tryz.prog 208 K = K (.st [(.arr 32 5 (.int .u8)), (.int .u32), (.int .u64)]) := tyC_of (by kernel_rfl) K
theorem by208 (K : Nat → Prop) : byC Tryz.prog 208 K = K 48 := byC_of (by kernel_rfl) K
theorem ty209 (K : Ty → Prop) : tyC Tryz.prog 209 K = K (.st [(.arr 32 5 (.int .u8)), (.int .u32), (.int .u64)]) := tyC_of (by kernel_rfl) K
theorem by209 (K : Nat → Prop) : byC Tryz.prog 209 K = K 48 := byC_of (by kernel_rfl) K
theorem ty210 (K : Ty → Prop) : tyC Tryz.prog 210 K = K (.slice 216) := tyC_of (by kernel_rfl) K
theorem by210 (K : Nat → Prop) : byC Tryz.prog 210 K = K 24 := byC_of (by kernel_rfl) K
theorem ty211 (K : Ty → Prop) : tyC Tryz.prog 211 K = K (.st [(.st [(.arr 32 5 (.int .u8)), (.int .u32), (.int .u64)]), (.slice 216), (.int .i64), (.slice 25)]) := tyC_of (by kernel_rfl) K
theorem by211 (K : Nat → Prop) : byC Tryz.prog 211 K = K 104 := byC_of (by kernel_rfl) K
theorem ty212 (K : Ty → Prop) : tyC Tryz.prog 212 K = K (.st [(.st [(.arr 32 5 (.int .u8)), (.int .u32), (.int .u64)]), (.slice 216), (.int .i64), (.slice 25)]) := tyC_of (by kernel_rfl) K
theorem by212 (K : Nat → Prop) : byC Tryz.prog 212 K = K 104 := byC_of (by kernel_rfl) K
theorem ty213 (K : Ty → Prop) : tyC Tryz.prog 213 K = K .func := tyC_of (by kernel_rfl) K
theorem by213 (K : Nat → Prop) : byC Tryz.prog 213 K = K 8 := byC_of (by kernel_rfl) K
theorem ty214 (K : Ty → Prop) : tyC Tryz.prog 214 K = K .func := tyC_of (by kernel_rfl) K
theorem by214 (K : Nat → Prop) : byC Tryz.prog 214 K = K 8 := byC_of (by kernel_rfl) K
theorem ty215 (K : Ty → Prop) : tyC Tryz.prog 215 K = K (.st [(.arr 32 5 (.int .u8)), (.int .i64), (.int .i64)]) := tyC_of (by kernel_rfl) K
theorem by215 (K : Nat → Prop) : byC Tryz.prog 215 K = K 48 := byC_of (by kernel_rfl) K
theorem ty216 (K : Ty → Prop) : tyC Tryz.prog 216 K = K (.st [(.arr 32 5 (.int .u8)), (.int .i64), (.int .i64)]) := tyC_of (by kernel_rfl) K
theorem by216 (K : Nat → Prop) : byC Tryz.prog 216 K = K 48 := byC_of (by kernel_rfl) K
theorem ty217 (K : Ty → Prop) : tyC Tryz.prog 217 K = K .func := tyC_of (by kernel_rfl) K
theorem by217 (K : Nat → Prop) : byC Tryz.prog 217 K = K 8 := byC_of (by kernel_rfl) K
theorem ty218 (K : Ty → Prop) : tyC Tryz.prog 218 K = K .func := tyC_of (by kernel_rfl) K
theorem by218 (K : Nat → Prop) : byC Tryz.prog 218 K = K 8 := byC_of (by kernel_rfl) K
theorem ty219 (K : Ty → Prop) : tyC Tryz.prog 219 K = K .func := tyC_of (by kernel_rfl) K
theorem by219 (K : Nat → Prop) : byC Tryz.prog 219 K = K 8 := byC_of (by kernel_rfl) K
theorem ty220 (K : Ty → Prop) : tyC Tryz.prog 220 K = K .func := tyC_of (by kernel_rfl) K
theorem by220 (K : Nat → Prop) : byC Tryz.prog 220 K = K 8 := byC_of (by kernel_rfl) K
theorem ty221 (K : Ty → Prop) : tyC Tryz.prog 221 K = K .func := tyC_of (by kernel_rfl) K
theorem by221 (K : Nat → Prop) : byC Tryz.prog 221 K = K 8 := byC_of (by kernel_rfl) K
theorem ty222 (K : Ty → Prop) : tyC Tryz.prog 222 K = K .func := tyC_of (by kernel_rfl) K
theorem by222 (K : Nat → Prop) : byC Tryz.prog 222 K = K 8 := byC_of (by kernel_rfl) K
theorem ty223 (K : Ty → Prop) : tyC Tryz.prog 223 K = K .func := tyC_of (by kernel_rfl) K
theorem by223 (K : Nat → Prop) : byC Tryz.prog 223 K = K 8 := byC_of (by kernel_rfl) K
theorem ty224 (K : Ty → Prop) : tyC Tryz.prog 224 K = K .func := tyC_of (by kernel_rfl) K
theorem by224 (K : Nat → Prop) : byC Tryz.prog 224 K = K 8 := byC_of (by kernel_rfl) K
theorem ty225 (K : Ty → Prop) : tyC Tryz.prog 225 K = K .func := tyC_of (by kernel_rfl) K
theorem by225 (K : Nat → Prop) : byC Tryz.prog 225 K = K 8 := byC_of (by kernel_rfl) K
theorem ty226 (K : Ty → Prop) : tyC Tryz.prog 226 K = K .func := tyC_of (by kernel_rfl) K
theorem by226 (K : Nat → Prop) : byC Tryz.prog 226 K = K 8 := byC_of (by kernel_rfl) K
theorem ty227 (K : Ty → Prop) : tyC Tryz.prog 227 K = K .func := tyC_of (by kernel_rfl) K
theorem by227 (K : Nat → Prop) : byC Tryz.prog 227 K = K 8 := byC_of (by kernel_rfl) K
theorem ty228 (K : Ty → Prop) : tyC Tryz.prog 228 K = K .func := tyC_of (by kernel_rfl) K
theorem by228 (K : Nat → Prop) : byC Tryz.prog 228 K = K 8 := byC_of (by kernel_rfl) K
theorem ty229 (K : Ty → Prop) : tyC Tryz.prog 229 K = K .func := tyC_of (by kernel_rfl) K
theorem by229 (K : Nat → Prop) : byC Tryz.prog 229 K = K 8 := byC_of (by kernel_rfl) K
theorem ty230 (K : Ty → Prop) : tyC Tryz.prog 230 K = K .func := tyC_of (by kernel_rfl) K
theorem by230 (K : Nat → Prop) : byC Tryz.prog 230 K = K 8 := byC_of (by kernel_rfl) K
theorem ty231 (K : Ty → Prop) : tyC Tryz.prog 231 K = K (.map 25 4) := tyC_of (by kernel_rfl) K
theorem by231 (K : Nat → Prop) : byC Tryz.prog 231 K = K 8 := byC_of (by kernel_rfl) K
theorem ty232 (K : Ty → Prop) : tyC Tryz.prog 232 K = K .func := tyC_of (by kernel_rfl) K
theorem by232 (K : Nat → Prop) : byC Tryz.prog 232 K = K 8 := byC_of (by kernel_rfl) K
theorem ty233 (K : Ty → Prop) : tyC Tryz.prog 233 K = K .func := tyC_of (by kernel_rfl) K
theorem by233 (K : Nat → Prop) : byC Tryz.prog 233 K = K 8 := byC_of (by kernel_rfl) K
theorem ty234 (K : Ty → Prop) : tyC Tryz.prog 234 K = K .func := tyC_of (by kernel_rfl) K
theorem by234 (K : Nat → Prop) : byC Tryz.prog 234 K = K 8 := byC_of (by kernel_rfl) K
theorem ty235 (K : Ty → Prop) : tyC Tryz.prog 235 K = K .func := tyC_of (by kernel_rfl) K
theorem by235 (K : Nat → Prop) : byC Tryz.prog 235 K = K 8 := byC_of (by kernel_rfl) K
theorem ty236 (K : Ty → Prop) : tyC Tryz.prog 236 K = K .func := tyC_of (by kernel_rfl) K
theorem by236 (K : Nat → Prop) : byC Tryz.prog 236 K = K 8 := byC_of (by kernel_rfl) K
theorem ty237 (K : Ty → Prop) : tyC Tryz.prog 237 K = K .func := tyC_of (by kernel_rfl) K
theorem by237 (K : Nat → Prop) : byC Tryz.prog 237 K = K 8 := byC_of (by kernel_rfl) K
theorem ty238 (K : Ty → Prop) : tyC Tryz.prog 238 K = K .func := tyC_of (by kernel_rfl) K
theorem by238 (K : Nat → Prop) : byC Tryz.prog 238 K = K 8 := byC_of (by kernel_rfl) K
theorem ty239 (K : Ty → Prop) : tyC Tryz.prog 239 K = K .func := tyC_of (by kernel_rfl) K
theorem by239 (K : Nat → Prop) : byC Tryz.prog 239 K = K 8 := byC_of (by kernel_rfl) K
theorem ty240 (K : Ty → Prop) : tyC Tryz.prog 240 K = K .func := tyC_of (by kernel_rfl) K
theorem by240 (K : Nat → Prop) : byC Tryz.prog 240 K = K 8 := byC_of (by kernel_rfl) K
theorem ty241 (K : Ty → Prop) : tyC Tryz.prog 241 K = K .func := tyC_of (by kernel_rfl) K
theorem by241 (K : Nat → Prop) : byC Tryz.prog 241 K = K 8 := byC_of (by kernel_rfl) K
theorem ty242 (K : Ty → Prop) : tyC Tryz.prog 242 K = K .func := tyC_of (by kernel_rfl) K
theorem by242 (K : Nat → Prop) : byC Tryz.prog 242 K = K 8 := byC_of (by kernel_rfl) K
theorem ty243 (K : Ty → Prop) : tyC Tryz.prog 243 K = K (.ptr 248) := tyC_of (by kernel_rfl) K
theorem by243 (K : Nat → Prop) : byC Tryz.prog 243 K = K 8 := byC_of (by kernel_rfl) K
theorem ty244 (K : Ty → Prop) : tyC Tryz.prog 244 K = K .func := tyC_of (by kernel_rfl) K
theorem by244 (K : Nat → Prop) : byC Tryz.prog 244 K = K 8 := byC_of (by kernel_rfl) K
theorem ty245 (K : Ty → Prop) : tyC Tryz.prog 245 K = K (.st [(.int .u32), (.int .u64), (.int .i64)]) := tyC_of (by kernel_rfl) K
theorem by245 (K : Nat → Prop) : byC Tryz.prog 245 K = K 24 := byC_of (by kernel_rfl) K
theorem ty246 (K : Ty → Prop) : tyC Tryz.prog 246 K = K (.st [(.int .u32), (.int .u64), (.int .i64)]) := tyC_of (by kernel_rfl) K
theorem by246 (K : Nat → Prop) : byC Tryz.prog 246 K = K 24 := byC_of (by kernel_rfl) K
theorem ty247 (K : Ty → Prop) : tyC Tryz.prog 247 K = K (.st [(.st [(.int .u32), (.int .u64), (.int .i64)]), (.st [(.int .i64), (.int .i64)])]) := tyC_of (by kernel_rfl) K
theorem by247 (K : Nat → Prop) : byC Tryz.prog 247 K = K 40 := byC_of (by kernel_rfl) K
theorem ty248 (K : Ty → Prop) : tyC Tryz.prog 248 K = K (.st [(.st [(.int .u32), (.int .u64), (.int .i64)]), (.st [(.int .i64), (.int .i64)])]) := tyC_of (by kernel_rfl) K
theorem by248 (K : Nat → Prop) : byC Tryz.prog 248 K = K 40 := byC_of (by kernel_rfl) K
theorem ty249 (K : Ty → Prop) : tyC Tryz.prog 249 K = K .func := tyC_of (by kernel_rfl) K
theorem by249 (K : Nat → Prop) : byC Tryz.prog 249 K = K 8 := byC_of (by kernel_rfl) K
theorem ty250 (K : Ty → Prop) : tyC Tryz.prog 250 K = K (.arr 8 102 (.int .u32)) := tyC_of (by kernel_rfl) K
theorem by250 (K : Nat → Prop) : byC Tryz.prog 250 K = K 32 := byC_of (by kernel_rfl) K
theorem ty251 (K : Ty → Prop) : tyC Tryz.prog 251 K = K (.arr 8 102 (.int .u32)) := tyC_of (by kernel_rfl) K
theorem by251 (K : Nat → Prop) : byC Tryz.prog 251 K = K 32 := byC_of (by kernel_rfl) K
theorem ty252 (K : Ty → Prop) : tyC Tryz.prog 252 K = K .func := tyC_of (by kernel_rfl) K
theorem by252 (K : Nat → Prop) : byC Tryz.prog 252 K = K 8 := byC_of (by kernel_rfl) K
theorem ty253 (K : Ty → Prop) : tyC Tryz.prog 253 K = K (.st [(.slice 25), (.slice 25)]) := tyC_of (by kernel_rfl) K
theorem by253 (K : Nat → Prop) : byC Tryz.prog 253 K = K 48 := byC_of (by kernel_rfl) K
theorem ty254 (K : Ty → Prop) : tyC Tryz.prog 254 K = K (.st [(.slice 25), (.slice 25)]) := tyC_of (by kernel_rfl) K
theorem by254 (K : Nat → Prop) : byC Tryz.prog 254 K = K 48 := byC_of (by kernel_rfl) K
theorem ty255 (K : Ty → Prop) : tyC Tryz.prog 255 K = K .func := tyC_of (by kernel_rfl) K
theorem by255 (K : Nat → Prop) : byC Tryz.prog 255 K = K 8 := byC_of (by kernel_rfl) K
theorem ty256 (K : Ty → Prop) : tyC Tryz.prog 256 K = K (.ptr 56) := tyC_of (by kernel_rfl) K
theorem by256 (K : Nat → Prop) : byC Tryz.prog 256 K = K 8 := byC_of (by kernel_rfl) K
theorem ty258 (K : Ty → Prop) : tyC Tryz.prog 258 K = K .func := tyC_of (by kernel_rfl) K
theorem by258 (K : Nat → Prop) : byC Tryz.prog 258 K = K 8 := byC_of (by kernel_rfl) K
theorem ty259 (K : Ty → Prop) : tyC Tryz.prog 259 K = K (.st [(.arr 8 102 (.int .u32)), (.slice 5), (.int .i64)]) := tyC_of (by kernel_rfl) K
theorem by259 (K : Nat → Prop) : byC Tryz.prog 259 K = K 64 := byC_of (by kernel_rfl) K
theorem ty260 (K : Ty → Prop) : tyC Tryz.prog 260 K = K (.st [(.arr 8 102 (.int .u32)), (.slice 5), (.int .i64)]) := tyC_of (by kernel_rfl) K
theorem by260 (K : Nat → Prop) : byC Tryz.prog 260 K = K 64 := byC_of (by kernel_rfl) K
theorem ty261 (K : Ty → Prop) : tyC Tryz.prog 261 K = K .func := tyC_of (by kernel_rfl) K
theorem by261 (K : Nat → Prop) : byC Tryz.prog 261 K = K 8 := byC_of (by kernel_rfl) K
theorem ty262 (K : Ty → Prop) : tyC Tryz.prog 262 K = K .func := tyC_of (by kernel_rfl) K
theorem by262 (K : Nat → Prop) : byC Tryz.prog 262 K = K 8 := byC_of (by kernel_rfl) K
theorem ty263 (K : Ty → Prop) : tyC Tryz.prog 263 K = K .func := tyC_of (by kernel_rfl) K
theorem by263 (K : Nat → Prop) : byC Tryz.prog 263 K = K 8 := byC_of (by kernel_rfl) K
theorem ty264 (K : Ty → Prop) : tyC Tryz.prog 264 K = K .func := tyC_of (by kernel_rfl) K
theorem by264 (K : Nat → Prop) : byC Tryz.prog 264 K = K 8 := byC_of (by kernel_rfl) K
theorem ty265 (K : Ty → Prop) : tyC Tryz.prog 265 K = K .func := tyC_of (by kernel_rfl) K
theorem by265 (K : Nat → Prop) : byC Tryz.prog 265 K = K 8 := byC_of (by kernel_rfl) K
theorem ty266 (K : Ty → Prop) : tyC Tryz.prog 266 K = K .func := tyC_of (by kernel_rfl) K
theorem by266 (K : Nat → Prop) : byC Tryz.prog 266 K = K 8 := byC_of (by kernel_rfl) K
theorem ty267 (K : Ty → Prop) : tyC Tryz.prog 267 K = K .func := tyC_of (by kernel_rfl) K
theorem by267 (K : Nat → Prop) : byC Tryz.prog 267 K = K 8 := byC_of (by kernel_rfl) K
theorem ty268 (K : Ty → Prop) : tyC Tryz.prog 268 K = K .func := tyC_of (by kernel_rfl) K
theorem by268 (K : Nat → Prop) : byC Tryz.prog 268 K = K 8 := byC_of (by kernel_rfl) K
theorem ty269 (K : Ty → Prop) : tyC Tryz.prog 269 K = K .func := tyC_of (by kernel_rfl) K
theorem by269 (K : Nat → Prop) : byC Tryz.prog 269 K = K 8 := byC_of (by kernel_rfl) K
theorem ty270 (K : Ty → Prop) : tyC Tryz.prog 270 K = K .func := tyC_of (by kernel_rfl) K
theorem by270 (K : Nat → Prop) : byC Tryz.prog 270 K = K 8 := byC_of (by kernel_rfl) K
theorem ty271 (K : Ty → Prop) : tyC Tryz.prog 271 K = K .func := tyC_of (by kernel_rfl) K
theorem by271 (K : Nat → Prop) : byC Tryz.prog 271 K = K 8 := byC_of (by kernel_rfl) K
theorem ty272 (K : Ty → Prop) : tyC Tryz.prog 272 K = K .func := tyC_of (by kernel_rfl) K
theorem by272 (K : Nat → Prop) : byC Tryz.prog 272 K = K 8 := byC_of (by kernel_rfl) K
theorem ty273 (K : Ty → Prop) : tyC Tryz.prog 273 K = K .func := tyC_of (by kernel_rfl) K
theorem by273 (K : Nat → Prop) : byC Tryz.prog 273 K = K 8 := byC_of (by kernel_rfl) K
theorem ty274 (K : Ty → Prop) : tyC Tryz.prog 274 K = K (.slice 276) := tyC_of (by kernel_rfl) K
theorem by274 (K : Nat → Prop) : byC Tryz.prog 274 K = K 24 := byC_of (by kernel_rfl) K
theorem ty275 (K : Ty → Prop) : tyC Tryz.prog 275 K = K (.st [(.arr 32 5 (.int .u8)), (.int .i64)]) := tyC_of (by kernel_rfl) K
theorem by275 (K : Nat → Prop) : byC Tryz.prog 275 K = K 40 := byC_of (by kernel_rfl) K
theorem ty276 (K : Ty → Prop) : tyC Tryz.prog 276 K = K (.st [(.arr 32 5 (.int .u8)), (.int .i64)]) := tyC_of (by kernel_rfl) K
theorem by276 (K : Nat → Prop) : byC Tryz.prog 276 K = K 40 := byC_of (by kernel_rfl) K
theorem ty277 (K : Ty → Prop) : tyC Tryz.prog 277 K = K .func := tyC_of (by kernel_rfl) K
theorem by277 (K : Nat → Prop) : byC Tryz.prog 277 K = K 8 := byC_of (by kernel_rfl) K
theorem ty278 (K : Ty → Prop) : tyC Tryz.prog 278 K = K .func := tyC_of (by kernel_rfl) K
theorem by278 (K : Nat → Prop) : byC Tryz.prog 278 K = K 8 := byC_of (by kernel_rfl) K
theorem ty279 (K : Ty → Prop) : tyC Tryz.prog 279 K = K .func := tyC_of (by kernel_rfl) K
theorem by279 (K : Nat → Prop) : byC Tryz.prog 279 K = K 8 := byC_of (by kernel_rfl) K
theorem ty280 (K : Ty → Prop) : tyC Tryz.prog 280 K = K .func := tyC_of (by kernel_rfl) K
theorem by280 (K : Nat → Prop) : byC Tryz.prog 280 K = K 8 := byC_of (by kernel_rfl) K
theorem ty281 (K : Ty → Prop) : tyC Tryz.prog 281 K = K (.arr 67 3 (.int .i64)) := tyC_of (by kernel_rfl) K
theorem by281 (K : Nat → Prop) : byC Tryz.prog 281 K = K 536 := byC_of (by kernel_rfl) K
theorem ty282 (K : Ty → Prop) : tyC Tryz.prog 282 K = K .func := tyC_of (by kernel_rfl) K
theorem by282 (K : Nat → Prop) : byC Tryz.prog 282 K = K 8 := byC_of (by kernel_rfl) K
theorem ty283 (K : Ty → Prop) : tyC Tryz.prog 283 K = K .func := tyC_of (by kernel_rfl) K
theorem by283 (K : Nat → Prop) : byC Tryz.prog 283 K = K 8 := byC_of (by kernel_rfl) K
theorem ty284 (K : Ty → Prop) : tyC Tryz.prog 284 K = K .func := tyC_of (by kernel_rfl) K
theorem by284 (K : Nat → Prop) : byC Tryz.prog 284 K = K 8 := byC_of (by kernel_rfl) K
theorem ty285 (K : Ty → Prop) : tyC Tryz.prog 285 K = K .func := tyC_of (by kernel_rfl) K
theorem by285 (K : Nat → Prop) : byC Tryz.prog 285 K = K 8 := byC_of (by kernel_rfl) K
theorem ty286 (K : Ty → Prop) : tyC Tryz.prog 286 K = K .func := tyC_of (by kernel_rfl) K
theorem by286 (K : Nat → Prop) : byC Tryz.prog 286 K = K 8 := byC_of (by kernel_rfl) K
theorem ty287 (K : Ty → Prop) : tyC Tryz.prog 287 K = K (.arr 64 102 (.int .u32)) := tyC_of (by kernel_rfl) K
theorem by287 (K : Nat → Prop) : byC Tryz.prog 287 K = K 256 := byC_of (by kernel_rfl) K
theorem ty288 (K : Ty → Prop) : tyC Tryz.prog 288 K = K .func := tyC_of (by kernel_rfl) K
theorem by288 (K : Nat → Prop) : byC Tryz.prog 288 K = K 8 := byC_of (by kernel_rfl) K
theorem ty289 (K : Ty → Prop) : tyC Tryz.prog 289 K = K .func := tyC_of (by kernel_rfl) K
theorem by289 (K : Nat → Prop) : byC Tryz.prog 289 K = K 8 := byC_of (by kernel_rfl) K
theorem ty290 (K : Ty → Prop) : tyC Tryz.prog 290 K = K .func := tyC_of (by kernel_rfl) K
theorem by290 (K : Nat → Prop) : byC Tryz.prog 290 K = K 8 := byC_of (by kernel_rfl) K
theorem ty291 (K : Ty → Prop) : tyC Tryz.prog 291 K = K .func := tyC_of (by kernel_rfl) K
theorem by291 (K : Nat → Prop) : byC Tryz.prog 291 K = K 8 := byC_of (by kernel_rfl) K
theorem ty292 (K : Ty → Prop) : tyC Tryz.prog 292 K = K .func := tyC_of (by kernel_rfl) K
theorem by292 (K : Nat → Prop) : byC Tryz.prog 292 K = K 8 := byC_of (by kernel_rfl) K
theorem ty293 (K : Ty → Prop) : tyC Tryz.prog 293 K = K .func := tyC_of (by kernel_rfl) K
theorem by293 (K : Nat → Prop) : byC Tryz.prog 293 K = K 8 := byC_of (by kernel_rfl) K
theorem ty294 (K : Ty → Prop) : tyC Tryz.prog 294 K = K .func := tyC_of (by kernel_rfl) K
theorem by294 (K : Nat → Prop) : byC Tryz.prog 294 K = K 8 := byC_of (by kernel_rfl) K
theorem ty295 (K : Ty → Prop) : tyC Tryz.prog 295 K = K .func := tyC_of (by kernel_rfl) K
theorem by295 (K : Nat → Prop) : byC Tryz.prog 295 K = K 8 := byC_of (by kernel_rfl) K
theorem ty296 (K : Ty → Prop) : tyC Tryz.prog 296 K = K .func := tyC_of (by kernel_rfl) K
theorem by296 (K : Nat → Prop) : byC Tryz.prog 296 K = K 8 := byC_of (by kernel_rfl) K
theorem ty297 (K : Ty → Prop) : tyC Tryz.prog 297 K = K .func := tyC_of (by kernel_rfl) K
theorem by297 (K : Nat → Prop) : byC Tryz.prog 297 K = K 8 := byC_of (by kernel_rfl) K
theorem ty298 (K : Ty → Prop) : tyC Tryz.prog 298 K = K .func := tyC_of (by kernel_rfl) K
theorem by298 (K : Nat → Prop) : byC Tryz.prog 298 K = K 8 := byC_of (by kernel_rfl) K
theorem ty299 (K : Ty → Prop) : tyC Tryz.prog 299 K = K (.int .i64) := tyC_of (by kernel_rfl) K
theorem by299 (K : Nat → Prop) : byC Tryz.prog 299 K = K 8 := byC_of (by kernel_rfl) K
theorem ty301 (K : Ty → Prop) : tyC Tryz.prog 301 K = K .func := tyC_of (by kernel_rfl) K
theorem by301 (K : Nat → Prop) : byC Tryz.prog 301 K = K 8 := byC_of (by kernel_rfl) K
theorem ty302 (K : Ty → Prop) : tyC Tryz.prog 302 K = K .func := tyC_of (by kernel_rfl) K
theorem by302 (K : Nat → Prop) : byC Tryz.prog 302 K = K 8 := byC_of (by kernel_rfl) K
theorem ty303 (K : Ty → Prop) : tyC Tryz.prog 303 K = K .func := tyC_of (by kernel_rfl) K
theorem by303 (K : Nat → Prop) : byC Tryz.prog 303 K = K 8 := byC_of (by kernel_rfl) K
theorem ty305 (K : Ty → Prop) : tyC Tryz.prog 305 K = K .func := tyC_of (by kernel_rfl) K
theorem by305 (K : Nat → Prop) : byC Tryz.prog 305 K = K 8 := byC_of (by kernel_rfl) K
theorem ty306 (K : Ty → Prop) : tyC Tryz.prog 306 K = K .func := tyC_of (by kernel_rfl) K
theorem by306 (K : Nat → Prop) : byC Tryz.prog 306 K = K 8 := byC_of (by kernel_rfl) K
theorem ty307 (K : Ty → Prop) : tyC Tryz.prog 307 K = K .func := tyC_of (by kernel_rfl) K
theorem by307 (K : Nat → Prop) : byC Tryz.prog 307 K = K 8 := byC_of (by kernel_rfl) K
theorem ty308 (K : Ty → Prop) : tyC Tryz.prog 308 K = K .func := tyC_of (by kernel_rfl) K
theorem by308 (K : Nat → Prop) : byC Tryz.prog 308 K = K 8 := byC_of (by kernel_rfl) K
theorem ty309 (K : Ty → Prop) : tyC Tryz.prog 309 K = K .func := tyC_of (by kernel_rfl) K
theorem by309 (K : Nat → Prop) : byC Tryz.prog 309 K = K 8 := byC_of (by kernel_rfl) K
theorem ty310 (K : Ty → Prop) : tyC Tryz.prog 310 K = K .func := tyC_of (by kernel_rfl) K
theorem by310 (K : Nat → Prop) : byC Tryz.prog 310 K = K 8 := byC_of (by kernel_rfl) K
theorem ty311 (K : Ty → Prop) : tyC Tryz.prog 311 K = K (.arr 3 25 (.arr 32 5 (.int .u8))) := tyC_of (by kernel_rfl) K
theorem by311 (K : Nat → Prop) : byC Tryz.prog 311 K = K 96 := byC_of (by kernel_rfl) K
theorem ty312 (K : Ty → Prop) : tyC Tryz.prog 312 K = K .func := tyC_of (by kernel_rfl) K
theorem by312 (K : Nat → Prop) : byC Tryz.prog 312 K = K 8 := byC_of (by kernel_rfl) K
theorem ty313 (K : Ty → Prop) : tyC Tryz.prog 313 K = K .func := tyC_of (by kernel_rfl) K
theorem by313 (K : Nat → Prop) : byC Tryz.prog 313 K = K 8 := byC_of (by kernel_rfl) K
theorem ty314 (K : Ty → Prop) : tyC Tryz.prog 314 K = K (.int .u64) := tyC_of (by kernel_rfl) K
theorem by314 (K : Nat → Prop) : byC Tryz.prog 314 K = K 8 := byC_of (by kernel_rfl) K
theorem ty315 (K : Ty → Prop) : tyC Tryz.prog 315 K = K .func := tyC_of (by kernel_rfl) K
theorem by315 (K : Nat → Prop) : byC Tryz.prog 315 K = K 8 := byC_of (by kernel_rfl) K
theorem ty316 (K : Ty → Prop) : tyC Tryz.prog 316 K = K .func := tyC_of (by kernel_rfl) K
theorem by316 (K : Nat → Prop) : byC Tryz.prog 316 K = K 8 := byC_of (by kernel_rfl) K
theorem ty317 (K : Ty → Prop) : tyC Tryz.prog 317 K = K .func := tyC_of (by kernel_rfl) K
theorem by317 (K : Nat → Prop) : byC Tryz.prog 317 K = K 8 := byC_of (by kernel_rfl) K
theorem ty318 (K : Ty → Prop) : tyC Tryz.prog 318 K = K (.ptr 3) := tyC_of (by kernel_rfl) K
theorem by318 (K : Nat → Prop) : byC Tryz.prog 318 K = K 8 := byC_of (by kernel_rfl) K
theorem ty319 (K : Ty → Prop) : tyC Tryz.prog 319 K = K .func := tyC_of (by kernel_rfl) K
theorem by319 (K : Nat → Prop) : byC Tryz.prog 319 K = K 8 := byC_of (by kernel_rfl) K
theorem ty320 (K : Ty → Prop) : tyC Tryz.prog 320 K = K .func := tyC_of (by kernel_rfl) K
theorem by320 (K : Nat → Prop) : byC Tryz.prog 320 K = K 8 := byC_of (by kernel_rfl) K
theorem ty321 (K : Ty → Prop) : tyC Tryz.prog 321 K = K (.ptr 314) := tyC_of (by kernel_rfl) K
theorem by321 (K : Nat → Prop) : byC Tryz.prog 321 K = K 8 := byC_of (by kernel_rfl) K
theorem ty323 (K : Ty → Prop) : tyC Tryz.prog 323 K = K .func := tyC_of (by kernel_rfl) K
theorem by323 (K : Nat → Prop) : byC Tryz.prog 323 K = K 8 := byC_of (by kernel_rfl) K
theorem ty324 (K : Ty → Prop) : tyC Tryz.prog 324 K = K .func := tyC_of (by kernel_rfl) K
theorem by324 (K : Nat → Prop) : byC Tryz.prog 324 K = K 8 := byC_of (by kernel_rfl) K
theorem ty332 (K : Ty → Prop) : tyC Tryz.prog 332 K = K .func := tyC_of (by kernel_rfl) K
theorem by332 (K : Nat → Prop) : byC Tryz.prog 332 K = K 8 := byC_of (by kernel_rfl) K
theorem ty333 (K : Ty → Prop) : tyC Tryz.prog 333 K = K (.ptr 5) := tyC_of (by kernel_rfl) K
theorem by333 (K : Nat → Prop) : byC Tryz.prog 333 K = K 8 := byC_of (by kernel_rfl) K
attribute [go_sem ↓] ty1 by1 ty2 by2 ty3 by3 ty4 by4 ty5 by5 ty9 by9 ty12 by12 ty15 by15 ty16 by16 ty17 by17 ty21 by21 ty22 by22 ty23 by23 ty24 by24 ty25 by25 ty26 by26 ty27 by27 ty28 by28 ty29 by29 ty30 by30 ty31 by31 ty33 by33 ty34 by34 ty36 by36 ty37 by37 ty38 by38 ty39 by39 ty40 by40 ty41 by41 ty42 by42 ty43 by43 ty44 by44 ty45 by45 ty46 by46 ty47 by47 ty48 by48 ty49 by49 ty50 by50 ty51 by51 ty52 by52 ty53 by53 ty55 by55 ty56 by56 ty57 by57 ty58 by58 ty59 by59 ty60 by60 ty61 by61 ty63 by63 ty64 by64 ty65 by65 ty66 by66 ty67 by67 ty68 by68 ty69 by69 ty71 by71 ty72 by72 ty73 by73 ty75 by75 ty76 by76 ty77 by77 ty78 by78 ty79 by79 ty80 by80 ty81 by81 ty82 by82 ty83 by83 ty84 by84 ty85 by85 ty86 by86 ty87 by87 ty88 by88 ty89 by89 ty90 by90 ty91 by91 ty92 by92 ty93 by93 ty94 by94 ty95 by95 ty96 by96 ty97 by97 ty99 by99 ty101 by101 ty102 by102 ty103 by103 ty104 by104 ty105 by105 ty106 by106 ty107 by107 ty109 by109 ty110 by110 ty111 by111 ty113 by113 ty114 by114 ty115 by115 ty116 by116 ty117 by117 ty118 by118 ty119 by119 ty120 by120 ty122 by122 ty123 by123 ty124 by124 ty125 by125 ty126 by126 ty127 by127 ty128 by128 ty130 by130 ty131 by131 ty132 by132 ty133 by133 ty134 by134 ty136 by136 ty137 by137 ty138 by138 ty140 by140 ty141 by141 ty143 by143 ty145 by145 ty146 by146 ty147 by147 ty148 by148 ty149 by149 ty150 by150 ty152 by152 ty153 by153 ty154 by154 ty155 by155 ty156 by156 ty157 by157 ty158 by158 ty159 by159 ty161 by161 ty163 by163 ty164 by164 ty165 by165 ty167 by167 ty168 by168 ty170 by170 ty171 by171 ty172 by172 ty173 by173 ty174 by174 ty175 by175 ty176 by176 ty177 by177 ty178 by178 ty179 by179 ty180 by180 ty181 by181 ty182 by182 ty183 by183 ty184 by184 ty185 by185 ty187 by187 ty189 by189 ty190 by190 ty191 by191 ty192 by192 ty193 by193 ty194 by194 ty195 by195 ty196 by196 ty198 by198 ty199 by199 ty200 by200 ty201 by201 ty202 by202 ty203 by203 ty204 by204 ty205 by205 ty206 by206 ty207 by207 ty208 by208 ty209 by209 ty210 by210 ty211 by211 ty212 by212 ty213 by213 ty214 by214 ty215 by215 ty216 by216 ty217 by217 ty218 by218 ty219 by219 ty220 by220 ty221 by221 ty222 by222 ty223 by223 ty224 by224 ty225 by225 ty226 by226 ty227 by227 ty228 by228 ty229 by229 ty230 by230 ty231 by231 ty232 by232 ty233 by233 ty234 by234 ty235 by235 ty236 by236 ty237 by237 ty238 by238 ty239 by239 ty240 by240 ty241 by241 ty242 by242 ty243 by243 ty244 by244 ty245 by245 ty246 by246 ty247 by247 ty248 by248 ty249 by249 ty250 by250 ty251 by251 ty252 by252 ty253 by253 ty254 by254 ty255 by255 ty256 by256 ty258 by258 ty259 by259 ty260 by260 ty261 by261 ty262 by262 ty263 by263 ty264 by264 ty265 by265 ty266 by266 ty267 by267 ty268 by268 ty269 by269 ty270 by270 ty271 by271 ty272 by272 ty273 by273 ty274 by274 ty275 by275 ty276 by276 ty277 by277 ty278 by278 ty279 by279 ty280 by280 ty281 by281 ty282 by282 ty283 by283 ty284 by284 ty285 by285 ty286 by286 ty287 by287 ty288 by288 ty289 by289 ty290 by290 ty291 by291 ty292 by292 ty293 by293 ty294 by294 ty295 by295 ty296 by296 ty297 by297 ty298 by298 ty299 by299 ty301 by301 ty302 by302 ty303 by303 ty305 by305 ty306 by306 ty307 by307 ty308 by308 ty309 by309 ty310 by310 ty311 by311 ty312 by312 ty313 by313 ty314 by314 ty315 by315 ty316 by316 ty317 by317 ty318 by318 ty319 by319 ty320 by320 ty321 by321 ty323 by323 ty324 by324 ty332 by332 ty333 by333
end Go.Proofs.YtjaailbgeadnnaaGreat
namespace Go.Proofs.YtjaailbgeadnnaaGreat
open Go Go.Sy
/-- planchet/planchetlaw21.DirectoryKeys -/
def pl3 : List (Nat × Plan) := [(5, [(0, [], none), (1, [0], none), (2, [0, 1], none), (3, [], none), (4, [], none), (5, [], none), (6, [5], none), (7, [6], none), (8, [], none)]), (9, [(0, [], none), (1, [], none), (2, [0, 1], none), (3, [], none), (4, [0, 1, 2, 3], none), (5, [], none), (6, [], none), (7, [], none), (8, [7], none), (9, [], none), (10, [7, 8, 9], none), (11, [7, 8, 9], none), (12, [7, 8, 9, 10, 11], none), (13, [], none), (14, [], none), (15, [], none), (16, [], none), (17, [], none), (18, [], none), (19, [], none)])]
/-- planchet/directory.Open -/
def pl7 : List (Nat × Plan) := [(3, [(0, [], none), (1, [0], none), (2, [0, 1], none), (3, [0, 1], none), (4, [0, 1], none), (5, [0, 1, 2, 3, 4], none), (6, [0, 1, 2, 3, 4], none), (7, [], none), (8, [], none), (9, [], none), (10, [9], none), (11, [10], none), (12, [], none)])]
/-- planchet/planchetref21.Secret -/
def pl9 : List (Nat × Plan) := [(2, [(1, [], none), (2, [1], none), (3, [], some [13]), (0, [1, 2, 3], none), (4, [], none), (5, [1, 2, 3, 0, 4], none), (6, [], some [6])]), (3, [(1, [], none), (2, [1], none), (3, [], some [18]), (0, [1, 2, 3], none), (4, [], none), (5, [1, 2, 3, 0, 4], none), (6, [], some [7])]), (4, [(1, [], none), (2, [1], none), (3, [], some [23]), (0, [1, 2, 3], none), (4, [], none), (5, [1, 2, 3, 0, 4], none), (6, [], some [8])])]
/-- (*planchet/directory.Directory).Public -/
def pl11 : List (Nat × Plan) := [(3, [(0, [], none), (1, [], none), (2, [], none), (3, [], none), (4, [], none), (5, [0, 1, 2, 3, 4], none), (6, [0, 1, 2, 3, 4], none), (7, [0, 1, 2, 3, 4], none), (8, [0, 1, 2, 3, 4], none), (9, [0, 1, 2, 3, 4], none), (10, [0, 1, 2, 3, 4, 5, 6, 7, 8, 9], none), (11, [0, 1, 2, 3, 4], none), (12, [], none), (13, [], none), (14, [], none), (16, [0, 1, 2, 3, 4, 5, 6, 7, 8, 9, 10, 11, 12, 13, 14], none), (17, [], some [5]), (15, [14, 16, 17], none), (18, [], none)])]
/-- planchet/planchetref11.Small -/
def pl14 : List (Nat × Plan) := [(1, [(0, [], none), (1, [], none), (2, [], none), (3, [], none), (4, [], none), (5, [], none), (6, [4, 5], none), (7, [4, 5], none), (8, [4, 5], none), (9, [], none), (10, [4, 5, 6, 7, 8, 9], none), (11, [], none), (12, [], none), (13, [], none)])]
/-- (*planchet/directory.Directory).Publish -/
def pl16 : List (Nat × Plan) := [(3, [(0, [], none), (1, [], none), (2, [], none), (3, [], none), (4, [], none), (5, [0, 1, 2, 3, 4], none), (6, [0, 1, 2, 3, 4], none), (7, [0, 1, 2, 3, 4], none), (8, [0, 1, 2, 3, 4], none), (9, [], none), (10, [0, 1, 2, 3, 4, 5, 6, 7, 8, 9], none), (11, [], some [5])]), (4, [(0, [], none), (1, [], none), (2, [], none), (3, [], none), (4, [], none), (5, [], none), (6, [], none), (7, [], none), (8, [], none), (9, [], none), (10, [], none), (11, [8, 9, 10], none), (12, [10], none), (13, [10], none), (14, [8, 9, 10, 11, 12, 13], none), (15, [8, 9, 10, 11, 12, 13], none), (16, [8, 9, 10, 11, 12, 13], none), (17, [8, 9, 10, 11, 12, 13], none), (18, [10], none), (19, [], none), (20, [], none)]), (6, [(0, [], none), (1, [], none), (2, [], none), (3, [0, 1, 2], none), (4, [0, 1, 2], none), (5, [0, 1, 2], none), (6, [0, 1, 2], none), (7, [], none), (8, [], none), (9, [], none), (10, [], none), (12, [], none), (13, [], some [62]), (11, [10, 12, 13], none)]), (7, [(0, [], none), (1, [0], none), (2, [0], none), (3, [0, 1, 2], none), (4, [0, 1, 2], none), (5, [0, 1, 2], none), (6, [0, 1, 2], none), (7, [0, 1, 2], none), (8, [0, 1, 2], none), (9, [0, 1, 2], none), (10, [0, 1, 2, 3, 4, 5, 6, 7, 8, 9], none), (11, [0, 1, 2, 3, 4, 5, 6, 7, 8, 9], none), (12, [], none), (13, [0, 1, 2, 3, 4, 5, 6, 7, 8, 9, 10, 11, 12], none), (14, [], some [6])]), (8, [(0, [], none), (1, [], none), (2, [], none), (3, [], none), (4, [0, 1, 2, 3], none), (5, [0, 1, 2, 3], none), (6, [], none), (7, [], none), (8, [], none), (9, [8], none), (10, [8, 9], none), (11, [9, 10], none), (12, [10], none), (13, [], none)]), (19, [(0, [], none), (1, [], none), (2, [], none), (3, [0, 1, 2], none), (4, [], none)]), (21, [(0, [], none), (1, [0], none), (2, [0, 1], none), (3, [0, 1], none), (4, [0, 1, 2, 3], none), (5, [0, 1, 2, 3], none), (6, [0, 1, 2, 3, 4, 5], none), (7, [0, 1, 2, 3, 4, 5], none), (8, [0], none), (9, [], some [2]), (10, [], some [3]), (11, [], none)])]
/-- (*planchet/directory.Directory).Change -/
def pl17 : List (Nat × Plan) := [(7, [(1, [], none), (2, [], none), (3, [], none), (4, [], none), (5, [1, 2, 3, 4], none), (6, [1, 2, 3, 4], none), (7, [], some [59, 61]), (0, [1, 2, 3, 4, 5, 6, 7], none), (8, [], none), (9, [], none), (10, [], some [64])])]
/-- planchet/signer.Open -/
def pl19 : List (Nat × Plan) := [(14, [(0, [], none), (1, [], none), (2, [0, 1], none), (3, [0, 1], none), (4, [0, 1], none), (5, [0, 1], none), (6, [0, 1], none), (7, [0, 1, 2, 3, 4, 5, 6], none), (8, [0, 1, 2, 3, 4, 5, 6], none), (9, [0, 1, 2, 3, 4, 5, 6], none), (10, [0, 1, 2, 3, 4, 5, 6], none), (11, [0, 1, 2, 3, 4, 5, 6], none), (12, [0, 1, 2, 3, 4, 5, 6, 7, 8, 9, 10, 11], none), (13, [0, 1, 2, 3, 4, 5, 6, 7, 8, 9, 10, 11], none), (14, [0, 1, 2, 3, 4, 5, 6, 7, 8, 9, 10, 11], none), (15, [0, 1, 2, 3, 4, 5, 6, 7, 8, 9, 10, 11], none), (16, [0, 1, 2, 3, 4, 5, 6, 7, 8, 9, 10, 11], none), (17, [0, 1], none), (18, [], none), (19, [0, 1, 2, 3, 4, 5, 6, 7, 8, 9, 10, 11, 12, 13, 14, 15, 16, 17, 18], none), (20, [], some [17])]), (15, [(0, [], none), (4, [0], none), (5, [0], none), (6, [0], none), (13, [], none), (14, [], none), (15, [], none), (16, [], some [106]), (1, [0, 4, 5, 6, 13, 14, 15, 16], none), (7, [0, 4, 5, 6, 13, 14, 15, 16, 1], none), (8, [0, 4, 5, 6, 13, 14, 15, 16, 1], none), (17, [], none), (18, [], none), (19, [], none), (20, [], some [109]), (2, [0, 4, 5, 6, 13, 14, 15, 16, 1, 7, 8, 17, 18, 19, 20], none), (9, [0, 4, 5, 6, 13, 14, 15, 16, 1, 7, 8, 17, 18, 19, 20, 2], none), (10, [0, 4, 5, 6, 13, 14, 15, 16, 1, 7, 8, 17, 18, 19, 20, 2], none), (21, [], none), (22, [], none), (23, [], none), (24, [], some [112]), (3, [0, 4, 5, 6, 13, 14, 15, 16, 1, 7, 8, 17, 18, 19, 20, 2, 9, 10, 21, 22, 23, 24], none), (11, [0, 4, 5, 6, 13, 14, 15, 16, 1, 7, 8, 17, 18, 19, 20, 2, 9, 10, 21, 22, 23, 24, 3], none), (12, [0, 4, 5, 6, 13, 14, 15, 16, 1, 7, 8, 17, 18, 19, 20, 2, 9, 10, 21, 22, 23, 24, 3], none), (25, [], none), (26, [], none), (27, [], some [114])]), (16, [(0, [], none), (1, [0], none), (2, [0], none), (3, [0], none), (4, [0], none), (5, [0], none), (6, [0, 1, 2, 3, 4, 5], none), (7, [0, 1, 2, 3, 4, 5], none), (8, [0, 1, 2, 3, 4, 5], none), (9, [0, 1, 2, 3, 4, 5], none), (10, [], none)])]
/-- planchet/slots.Open -/
def pl21 : List (Nat × Plan) := [(4, [(0, [], none), (1, [], none), (2, [], none), (3, [], none), (4, [], none), (5, [], none), (6, [], none), (7, [], none), (8, [], none), (9, [8], none), (10, [8], none), (11, [8], none), (12, [], none), (13, [], none)])]
/-- (*planchet/directory.Directory).load -/
def pl26 : List (Nat × Plan) := [(7, [(0, [], none), (1, [], none), (2, [], none), (3, [0, 1, 2], none), (4, [0, 1, 2, 3], none), (5, [0, 1, 2, 3], none), (6, [0, 1, 2, 3], none), (7, [0, 1, 2], none), (8, [], none), (9, [], none), (10, [], none), (12, [0, 1, 2, 3, 4, 5, 6, 7, 8, 9, 10], none), (13, [], some [7]), (11, [10, 12, 13], none), (14, [], none)]), (10, [(0, [], none), (1, [], none), (2, [], none), (3, [0, 1, 2], none), (4, [], none)])]
/-- planchet/directory.Secret$1 -/
def pl29 : List (Nat × Plan) := [(1, [(0, [], none), (1, [0], none), (2, [0], none), (3, [0, 1, 2], none), (4, [0, 1, 2], none), (5, [0, 1, 2], none), (6, [0], none), (7, [], none), (8, [], some [4])])]
/-- planchet/mac.Code -/
def pl30 : List (Nat × Plan) := [(2, [(0, [], none), (1, [], none), (2, [0, 1], none), (3, [], none), (4, [], none), (5, [], some [4])])]
/-- planchet/planchetref10.Build -/
def pl33 : List (Nat × Plan) := [(2, [(0, [], none), (1, [0], none), (2, [], none), (3, [], none), (4, [], none), (5, [], none), (6, [0, 1, 2, 3, 4, 5], none), (7, [0, 1, 2, 3, 4, 5, 6], none), (8, [0, 1, 2, 3, 4, 5], none), (9, [], some [10]), (10, [], none)])]
/-- (*planchet/directory.Directory).show -/
def pl35 : List (Nat × Plan) := [(5, [(0, [], none), (1, [], none), (2, [], none), (3, [], none), (4, [], none), (5, [0, 1, 2, 3, 4], none), (6, [0, 1, 2, 3, 4], none), (7, [], none), (8, [], none)]), (6, [(0, [], none), (1, [], none), (2, [], none), (3, [], none), (4, [], none), (5, [0, 1, 2, 3, 4], none), (6, [0, 1, 2, 3, 4], none), (7, [0, 1, 2, 3, 4], none), (8, [0, 1, 2, 3, 4, 5, 6, 7], none), (9, [0, 1, 2, 3, 4, 5, 6, 7, 8], none), (10, [0, 1, 2, 3, 4, 5, 6, 7, 8], none), (11, [0, 1, 2, 3, 4, 5, 6, 7, 8], none), (12, [0, 1, 2, 3, 4], none), (13, [], none)]), (12, [(0, [], none), (1, [], none), (2, [], none), (3, [0, 1, 2], none), (4, [0, 1, 2], none), (5, [0, 1, 2, 3, 4], none), (6, [0, 1, 2, 3, 4, 5], none), (7, [0, 1, 2, 3, 4, 5, 6], none), (8, [0, 1, 2, 3, 4, 5, 6], none), (9, [0, 1, 2, 3, 4, 5], none), (10, [0, 1, 2, 3, 4, 5], none), (11, [0, 1, 2], none), (12, [], none), (13, [], none), (14, [], none), (17, [0, 1, 2, 3, 4, 5, 6, 7, 8, 9, 10, 11, 12, 13, 14], none), (18, [0, 1, 2, 3, 4, 5, 6, 7, 8, 9, 10, 11, 12, 13, 14, 17], none), (19, [0, 1, 2, 3, 4, 5, 6, 7, 8, 9, 10, 11, 12, 13, 14, 17, 18], none), (20, [], some [11]), (15, [14, 17, 18, 19, 20], none), (21, [], some [12]), (16, [14, 17, 18, 19, 20, 15, 21], none), (22, [], some [13])]), (13, [(0, [], none), (1, [], none), (2, [], none), (3, [], none), (4, [], none), (5, [0, 1, 2, 3, 4], none), (6, [0, 1, 2, 3, 4], none), (7, [], none), (8, [], none), (9, [], none), (11, [0, 1, 2, 3, 4, 5, 6, 7, 8, 9], none), (12, [], some [14]), (10, [9, 11, 12], none), (13, [], none)]), (14, [(3, [], none), (4, [3], none), (5, [3, 4], none), (6, [3, 4], none), (7, [3], none), (8, [3], none), (9, [], some [99]), (0, [3, 4, 5, 6, 7, 8, 9], none), (1, [3, 4, 5, 6, 7, 8, 9], none), (2, [3, 4, 5, 6, 7, 8, 9, 0, 1], none), (10, [3, 4, 5, 6, 7, 8, 9, 0, 1, 2], none), (11, [3, 4, 5, 6, 7, 8, 9, 0, 1, 2, 10], none), (12, [3, 4, 5, 6, 7, 8, 9, 0, 1, 2, 10, 11], none), (13, [0, 1], none), (14, [0, 1], none), (15, [], some [97, 110]), (16, [], none), (17, [], some [112])]), (17, [(0, [], none), (1, [], none), (2, [], none), (3, [], none), (4, [], none), (5, [0, 1, 2, 3, 4], none), (6, [], none), (7, [], none), (8, [], none), (10, [], none), (11, [], some [139]), (9, [8, 10, 11], none)])]
/-- planchet/directory.record -/
def pl39 : List (Nat × Plan) := [(1, [(0, [], none), (1, [], none), (2, [], none), (3, [], none), (4, [0, 1, 2, 3], none), (5, [0, 1, 2, 3], none), (6, [0, 1, 2, 3], none), (7, [], none), (8, [], none), (9, [], none)]), (5, [(0, [], none), (1, [], none), (2, [], none), (3, [0, 1, 2], none), (4, [0, 1, 2], none), (5, [0, 1, 2], none), (6, [0, 1, 2], none), (7, [0, 1, 2, 3, 4, 5, 6], none), (8, [0, 1, 2, 3, 4, 5, 6], none), (9, [], none), (10, [], none), (11, [], none), (12, [], none), (13, [12], none), (14, [13], none), (15, [], none)])]
/-- (*planchet/directory.Directory).head -/
def pl42 : List (Nat × Plan) := [(1, [(0, [], none), (1, [], none), (2, [], none), (3, [0, 1, 2], none), (4, [0, 1, 2], none), (5, [], none), (6, [0, 1, 2, 3, 4, 5], none), (7, [0, 1, 2, 3, 4, 5, 6], none), (8, [], none), (9, [], none), (10, [], some [17, 21]), (11, [], none), (12, [], none), (13, [], none), (15, [0, 1, 2, 3, 4, 5, 6, 7, 8, 9, 10, 11, 12, 13], none), (16, [], some [9]), (14, [13, 15, 16], none), (17, [], none)])]
/-- (*planchet/signer.Signer).Deal -/
def pl43 : List (Nat × Plan) := [(4, [(0, [], none), (1, [], none), (2, [0, 1], none), (3, [0, 1], none), (4, [0, 1], none), (5, [0, 1], none), (6, [0, 1], none), (7, [0, 1], none), (8, [], none), (9, [], none)]), (5, [(0, [], none), (1, [], none), (2, [], none), (3, [], none), (4, [], none), (5, [], none), (6, [0, 1, 2, 3, 4, 5], none), (7, [0, 1, 2, 3, 4, 5], none), (8, [0, 1, 2, 3, 4, 5], none), (9, [0, 1, 2, 3, 4, 5], none), (10, [0, 1, 2, 3, 4, 5], none), (11, [0, 1, 2, 3, 4, 5], none), (12, [6, 7, 8, 9, 10, 11], none), (13, [], none), (14, [], none)]), (6, [(0, [], none), (1, [], none), (2, [], none), (3, [], none), (4, [0, 1, 2, 3], none), (5, [0, 1, 2, 3], none), (6, [0, 1, 2, 3], none), (7, [0, 1, 2, 3], none), (8, [0, 1, 2, 3], none), (9, [], none), (10, [], none)]), (9, [(0, [], none), (1, [], none), (2, [], none), (3, [], none), (4, [0, 1, 2, 3], none), (5, [0, 1, 2, 3], none), (6, [0, 1, 2, 3], none), (7, [0, 1, 2, 3], none), (8, [0, 1, 2, 3], none), (9, [], none)]), (10, [(0, [], none), (1, [], none), (2, [], none), (3, [], none), (4, [0, 1, 2, 3], none), (5, [0, 1, 2, 3], none), (6, [0, 1, 2, 3], none), (7, [0, 1, 2, 3], none), (8, [], none), (9, [0, 1, 2, 3, 4, 5, 6, 7, 8], none), (10, [0, 1, 2, 3, 4, 5, 6, 7, 8], none), (11, [0, 1, 2, 3, 4, 5, 6, 7, 8], none), (12, [0, 1, 2, 3, 4, 5, 6, 7, 8], none), (13, [0, 1, 2, 3, 4, 5, 6, 7, 8], none), (14, [], none), (15, [], none), (16, [], some [78])]), (11, [(0, [], none), (1, [0], none), (2, [0], none), (3, [0], none), (4, [0], none), (5, [0], none), (6, [0, 1, 2, 3, 4, 5], none), (7, [0, 1, 2, 3, 4, 5], none), (8, [], none)]), (12, [(0, [], none), (1, [], none), (2, [], none), (3, [], none), (4, [], none), (5, [0, 1, 2, 3, 4], none), (6, [0, 1, 2, 3, 4], none), (7, [0, 1, 2, 3, 4], none), (8, [0, 1, 2, 3, 4], none), (9, [0, 1, 2, 3, 4, 5, 6, 7, 8], none), (10, [0, 1, 2, 3, 4, 5, 6, 7, 8], none), (11, [], none), (12, [], none), (13, [], some [100])]), (17, [(0, [], none), (1, [], none), (2, [], none), (3, [], none), (4, [], none), (5, [], none), (6, [0, 1, 2, 3, 4, 5], none), (7, [0, 1, 2, 3, 4, 5], none), (8, [0, 1, 2, 3, 4, 5], none), (9, [0, 1, 2, 3, 4, 5], none), (10, [0, 1, 2, 3, 4, 5], none), (11, [0, 1, 2, 3, 4, 5], none), (12, [6, 7, 8, 9, 10, 11], none), (13, [], none), (14, [], none)])]
/-- planchet/wire.HeadText -/
def pl44 : List (Nat × Plan) := [(2, [(0, [], none), (1, [0], none), (2, [0], none), (3, [0, 1, 2], none), (4, [0, 1, 2], none), (5, [0], none), (6, [], some [7, 12]), (7, [0, 1, 2, 3, 4, 5, 6], none), (8, [0, 1, 2, 3, 4, 5, 6], none), (9, [0, 1, 2, 3, 4, 5, 6, 7, 8], none), (10, [0, 1, 2, 3, 4, 5, 6, 7, 8], none), (11, [0, 1, 2, 3, 4, 5, 6], none), (12, [], some [13, 18]), (13, [], none), (14, [], none), (15, [], none), (16, [], none)])]
/-- (*planchet/directory.Directory).write -/
def pl46 : List (Nat × Plan) := [(9, [(0, [], none), (1, [], none), (2, [], none), (3, [], none), (4, [0, 1, 2, 3], none), (5, [0, 1, 2, 3], none), (6, [0, 1, 2, 3, 4, 5], none), (7, [0, 1, 2, 3, 4, 5, 6], none), (8, [0, 1, 2, 3, 4, 5, 6, 7], none), (9, [0, 1, 2, 3, 4, 5, 6], none), (10, [0, 1, 2, 3, 4, 5, 6, 7, 8, 9], none), (11, [0, 1, 2, 3, 4, 5, 6, 7, 8, 9], none), (12, [0, 1, 2, 3, 4, 5, 6, 7, 8, 9, 10, 11], none), (13, [0, 1, 2, 3, 4, 5, 6, 7, 8, 9], none), (14, [0, 1, 2, 3, 4, 5], none), (15, [], some [54, 56, 65]), (16, [], none)]), (15, [(0, [], none), (1, [], none), (2, [], none), (3, [], none), (4, [0, 1, 2, 3], none), (5, [0, 1, 2, 3], none), (6, [0, 1, 2, 3], none), (7, [0, 1, 2, 3], none), (8, [0, 1, 2, 3, 4, 5, 6, 7], none), (9, [0, 1, 2, 3, 4, 5, 6, 7], none), (10, [0, 1, 2, 3], none), (11, [0, 1, 2, 3], none), (12, [0, 1, 2, 3], none), (13, [], none), (14, [], none)])]
/-- (*planchet/directory.book).add -/
def pl47 : List (Nat × Plan) := [(6, [(0, [], none), (1, [], none), (2, [], none), (3, [], none), (4, [0, 1, 2, 3], none), (5, [0, 1, 2, 3], none), (6, [0, 1, 2, 3, 4, 5], none), (7, [], none)]), (7, [(6, [], none), (7, [], none), (8, [], none), (9, [], none), (10, [6, 7, 8, 9], none), (11, [6, 7, 8, 9], none), (12, [], none), (13, [6, 7, 8, 9, 10, 11, 12], none), (14, [6, 7, 8, 9, 10, 11, 12], none), (15, [6, 7, 8, 9, 10, 11, 12], none), (16, [], some [48, 51]), (0, [6, 7, 8, 9, 10, 11, 12, 13, 14, 15, 16], none), (1, [6, 7, 8, 9, 10, 11, 12, 13, 14, 15, 16], none), (2, [6, 7, 8, 9, 10, 11, 12, 13, 14, 15, 16], none), (3, [6, 7, 8, 9, 10, 11, 12, 13, 14, 15, 16], none), (4, [6, 7, 8, 9, 10, 11, 12, 13, 14, 15, 16, 0, 1, 2, 3], none), (5, [6, 7, 8, 9, 10, 11, 12, 13, 14, 15, 16, 0, 1, 2, 3], none), (17, [], none)]), (9, [(1, [], none), (2, [], none), (3, [], none), (4, [], none), (5, [1, 2, 3, 4], none), (6, [1, 2, 3, 4], none), (7, [], some [58, 60]), (0, [1, 2, 3, 4, 5, 6, 7], none), (8, [], none), (9, [], none), (10, [], some [63])])]
/-- (*planchet/directory.Directory).sign -/
def pl48 : List (Nat × Plan) := [(1, [(0, [], none), (1, [0], none), (2, [], none), (3, [0, 1, 2], none), (4, [0, 1, 2], none), (5, [0, 1, 2], none), (6, [0, 1, 2], none), (7, [0, 1, 2], none), (8, [0, 1, 2, 3, 4, 5, 6, 7], none), (9, [], none), (10, [0, 1, 2, 3, 4, 5, 6, 7, 8, 9], none), (11, [0, 1, 2, 3, 4, 5, 6, 7, 8, 9, 10], none), (12, [0, 1, 2, 3, 4, 5, 6, 7, 8, 9, 10], none), (13, [], none), (14, [], none), (15, [], none), (17, [0, 1, 2, 3, 4, 5, 6, 7, 8, 9, 10, 11, 12, 13, 14, 15], none), (18, [], some [9]), (16, [15, 17, 18], none), (19, [], none)])]
/-- (*planchet/directory.Directory).changed -/
def pl49 : List (Nat × Plan) := [(7, [(0, [], none), (1, [], none), (2, [], none), (3, [], none), (4, [], none), (5, [0, 1, 2, 3, 4], none), (6, [0, 1, 2, 3, 4], none), (7, [], none), (8, [0, 1, 2, 3, 4, 5, 6, 7], none), (9, [], some [12])]), (14, [(0, [], none), (1, [], none), (2, [], none), (3, [0, 1, 2], none), (4, [0, 1, 2], none), (5, [0, 1, 2], none), (6, [0, 1, 2], none), (7, [], none), (8, [0, 1, 2, 3, 4, 5, 6, 7], none), (9, [0, 1, 2, 3, 4, 5, 6, 7], none), (10, [0, 1, 2, 3, 4, 5, 6, 7], none), (11, [0, 1, 2, 3, 4, 5, 6, 7, 8, 9, 10], none), (12, [0, 1, 2, 3, 4, 5, 6, 7, 8, 9, 10, 11], none), (13, [0, 1, 2, 3, 4, 5, 6, 7, 8, 9, 10, 11], none), (14, [0, 1, 2, 3, 4, 5, 6, 7, 8, 9, 10, 11], none), (15, [], none), (16, [], none), (17, [], none)]), (16, [(0, [], none), (1, [], none), (2, [], none), (3, [], none), (4, [], none), (5, [], none), (6, [], none), (7, [], none), (8, [], none), (9, [], none), (10, [], none), (11, [], none), (12, [], none), (13, [7, 8, 9, 10, 11, 12], none), (14, [7, 8, 9, 10, 11, 12], none), (15, [7, 8, 9, 10, 11, 12], none), (16, [7, 8, 9, 10, 11, 12], none), (17, [7, 8, 9, 10, 11, 12], none), (18, [], none), (19, [], none), (20, [], none), (21, [], none)]), (20, [(5, [], none), (6, [5], none), (7, [], some [122]), (0, [5, 6, 7], none), (1, [5, 6, 7], none), (2, [5, 6, 7, 0, 1], none), (3, [5, 6, 7, 0, 1], none), (4, [5, 6, 7, 0, 1], none), (8, [], none), (9, [], some [8]), (10, [], none)])]
/-- planchet/signer.read -/
def pl51 : List (Nat × Plan) := [(13, [(0, [], none), (1, [], none), (2, [0, 1], none), (3, [0, 1], none), (4, [0, 1, 2, 3], none), (5, [0, 1, 2, 3], none), (6, [0, 1, 2, 3, 4, 5], none), (7, [0, 1, 2, 3, 4, 5], none), (8, [0, 1, 2, 3, 4, 5, 6, 7], none), (9, [0, 1, 2, 3, 4, 5, 6, 7], none), (10, [0, 1, 2, 3, 4, 5, 6, 7, 8, 9], none), (11, [0, 1, 2, 3, 4, 5, 6, 7, 8, 9], none), (12, [0, 1, 2, 3, 4, 5, 6, 7, 8, 9], none), (13, [0, 1, 2, 3, 4, 5, 6, 7, 8, 9], none), (14, [0, 1, 2, 3, 4, 5], none), (15, [], none), (16, [], some [2]), (17, [], none)])]
/-- (*planchet/signer.Signer).raise -/
def pl54 : List (Nat × Plan) := [(0, [(0, [], none), (1, [], none), (2, [], none), (3, [], none), (4, [0, 1, 2, 3], none), (5, [0, 1, 2, 3], none), (6, [0, 1, 2, 3], none), (7, [0, 1, 2, 3], none), (8, [0, 1, 2, 3], none), (9, [0, 1, 2, 3, 4, 5, 6, 7, 8], none), (10, [0, 1, 2, 3, 4, 5, 6, 7, 8, 9], none), (11, [0, 1, 2, 3], none), (12, [], some [9, 17])])]
/-- (*planchet/signer.Signer).store -/
def pl55 : List (Nat × Plan) := [(1, [(0, [], none), (1, [], none), (2, [], none), (3, [], none), (4, [0, 1, 2, 3], none), (5, [0, 1, 2, 3], none), (6, [0, 1, 2, 3], none), (7, [0, 1, 2, 3, 4, 5, 6], none), (8, [0, 1, 2, 3, 4, 5, 6], none), (9, [0, 1, 2, 3, 4, 5, 6, 7, 8], none), (10, [0, 1, 2, 3, 4, 5, 6, 7, 8], none), (11, [0, 1, 2, 3, 4, 5, 6, 7, 8, 9, 10], none), (12, [0, 1, 2, 3, 4, 5, 6, 7, 8, 9, 10], none), (13, [0, 1, 2, 3, 4, 5, 6, 7, 8, 9, 10, 11, 12], none), (14, [0, 1, 2, 3, 4, 5, 6, 7, 8, 9, 10, 11, 12], none), (15, [0, 1, 2, 3, 4, 5, 6, 7, 8, 9, 10, 11, 12], none), (16, [0, 1, 2, 3, 4, 5, 6, 7, 8, 9, 10, 11, 12, 13, 14, 15], none), (17, [0, 1, 2, 3, 4, 5, 6, 7, 8, 9, 10, 11, 12, 13, 14, 15], none), (18, [0, 1, 2, 3, 4, 5, 6, 7, 8, 9, 10, 11, 12, 13, 14, 15], none), (19, [0, 1, 2, 3, 4, 5, 6], none), (20, [0, 1, 2, 3], none), (21, [], none), (22, [], none)])]
/-- (*planchet/disk.Disk).Read -/
def pl56 : List (Nat × Plan) := [(5, [(0, [], none), (1, [0], none), (2, [0], none), (3, [0], none), (4, [0], none), (5, [0, 1, 2, 3, 4], none), (6, [0, 1, 2, 3, 4, 5], none), (7, [0, 1, 2, 3, 4, 5], none), (8, [0, 1, 2, 3, 4, 5], none), (9, [0, 1, 2, 3, 4, 5], none), (10, [0, 1, 2, 3, 4], none), (11, [0, 1, 2, 3, 4, 5, 6, 7, 8, 9, 10], none), (12, [0, 1, 2, 3, 4, 5, 6, 7, 8, 9, 10], none), (13, [0, 1, 2, 3, 4, 5, 6, 7, 8, 9, 10, 11, 12], none), (14, [0, 1, 2, 3, 4, 5, 6, 7, 8, 9, 10, 11, 12], none), (15, [0, 1, 2, 3, 4, 5, 6, 7, 8, 9, 10, 11, 12], none), (16, [0, 1, 2, 3, 4, 5, 6, 7, 8, 9, 10, 11, 12], none), (17, [0, 1, 2, 3, 4, 5, 6, 7, 8, 9, 10], none), (18, [0], none), (19, [], some [17]), (20, [], none)])]
/-- (*planchet/disk.Disk).Sectors -/
def pl58 : List (Nat × Plan) := [(3, [(0, [], none), (1, [], none), (2, [], none), (3, [], none), (4, [], none), (5, [0, 1, 2, 3, 4], none), (6, [0, 1, 2, 3, 4], none), (7, [0, 1, 2, 3, 4], none), (8, [0, 1, 2, 3, 4], none), (9, [0, 1, 2, 3, 4], none), (10, [], none), (11, [], none)])]
/-- planchet/slots.Open$1 -/
def pl59 : List (Nat × Plan) := [(4, [(0, [], none), (2, [0], none), (4, [], none), (5, [], none), (6, [], some [35]), (1, [0, 2, 4, 5, 6], none), (3, [0, 2, 4, 5, 6, 1], none), (7, [], none), (8, [], none), (9, [], some [37])])]
/-- (*planchet/directory.book).read -/
def pl63 : List (Nat × Plan) := [(4, [(0, [], none), (1, [], none), (2, [], none), (3, [], none), (4, [0, 1, 2, 3], none), (5, [0, 1, 2, 3], none), (6, [0, 1, 2, 3], none), (7, [], none), (8, [], none), (9, [0, 1, 2, 3, 4, 5, 6, 7, 8], none), (10, [], some [8])]), (15, [(0, [], none), (1, [0], none), (2, [0], none), (3, [0], none), (4, [0], none), (5, [0], none), (6, [0], none), (7, [0], none), (8, [0], none), (9, [0], none), (10, [0], none), (11, [0], none), (12, [0], none), (13, [0], none), (14, [0], none), (15, [0, 10, 11, 12, 13, 14], none), (16, [0, 10, 11, 12, 13, 14], none), (17, [0, 10, 11, 12, 13, 14], none), (18, [0], none), (19, [0], none), (20, [0], none), (21, [0], none), (29, [], some [4]), (22, [0, 29], none), (23, [0, 29], none), (24, [0, 29], none), (25, [0, 29], none), (26, [0, 29], none), (27, [0, 29], none), (28, [0, 29], none), (30, [], none)])]
/-- planchet/planchetref01.Sum -/
def pl64 : List (Nat × Plan) := [(12, [(0, [], none), (1, [0], none), (2, [0, 1], none), (3, [0, 1, 2], none), (4, [0, 1], none), (5, [0, 1], none), (6, [0, 1], none), (7, [0, 1], none), (8, [0, 1, 2, 3, 4, 5, 6, 7], none), (9, [0, 1, 2, 3, 4, 5, 6, 7, 8], none), (10, [0, 1, 2, 3, 4, 5, 6, 7, 8], none), (11, [0, 1, 2, 3, 4, 5, 6, 7], none), (12, [0, 1, 2, 3, 4, 5, 6, 7], none), (13, [0, 1, 2, 3, 4, 5, 6, 7], none), (14, [0, 1, 2, 3, 4, 5, 6, 7], none), (15, [0, 1], none), (16, [0, 1, 2, 3, 4, 5, 6, 7, 8, 9, 10, 11, 12, 13, 14, 15], none), (17, [0, 1, 2, 3, 4, 5, 6, 7, 8, 9, 10, 11, 12, 13, 14, 15, 16], none), (18, [0, 1, 2, 3, 4, 5, 6, 7, 8, 9, 10, 11, 12, 13, 14, 15, 16], none), (19, [0, 1, 2, 3, 4, 5, 6, 7, 8, 9, 10, 11, 12, 13, 14, 15], none), (20, [0, 1, 2, 3, 4, 5, 6, 7, 8, 9, 10, 11, 12, 13, 14, 15], none), (21, [0, 1, 2, 3, 4, 5, 6, 7, 8, 9, 10, 11, 12, 13, 14, 15], none), (22, [0, 1, 2, 3, 4, 5, 6, 7, 8, 9, 10, 11, 12, 13, 14, 15], none), (23, [0, 1], none), (24, [0, 1, 2, 3, 4, 5, 6, 7, 8, 9, 10, 11, 12, 13, 14, 15, 16, 17, 18, 19, 20, 21, 22, 23], none), (25, [0, 1, 2, 3, 4, 5, 6, 7, 8, 9, 10, 11, 12, 13, 14, 15, 16, 17, 18, 19, 20, 21, 22, 23, 24], none), (26, [0, 1, 2, 3, 4, 5, 6, 7, 8, 9, 10, 11, 12, 13, 14, 15, 16, 17, 18, 19, 20, 21, 22, 23, 24], none), (27, [0, 1, 2, 3, 4, 5, 6, 7, 8, 9, 10, 11, 12, 13, 14, 15, 16, 17, 18, 19, 20, 21, 22, 23], none), (28, [0, 1, 2, 3, 4, 5, 6, 7, 8, 9, 10, 11, 12, 13, 14, 15, 16, 17, 18, 19, 20, 21, 22, 23], none), (29, [0, 1, 2, 3, 4, 5, 6, 7, 8, 9, 10, 11, 12, 13, 14, 15, 16, 17, 18, 19, 20, 21, 22, 23], none), (30, [0, 1], none), (31, [], none), (32, [], some [74])]), (18, [(0, [], none), (1, [0], none), (2, [0, 1], none), (3, [0, 1], none), (4, [0, 1, 2, 3], none), (5, [0, 1], none), (6, [0, 1], none), (7, [0, 1, 2, 3, 4, 5, 6], none), (8, [0, 1, 2, 3, 4, 5, 6], none), (9, [0, 1], none), (10, [0, 1, 2, 3, 4, 5, 6, 7, 8, 9], none), (11, [0, 1, 2, 3, 4, 5, 6, 7, 8, 9, 10], none), (12, [0, 1, 2, 3, 4, 5, 6, 7, 8, 9, 10], none), (13, [0, 1, 2, 3, 4, 5, 6, 7, 8, 9], none), (14, [0, 1, 2, 3, 4, 5, 6, 7, 8, 9], none), (15, [0, 1], none), (16, [0, 1, 2, 3, 4, 5, 6, 7, 8, 9, 10, 11, 12, 13, 14, 15], none), (17, [0, 1, 6, 7, 8, 9, 10, 11, 12, 13, 14, 15], none), (18, [0, 1, 2, 3, 4, 5, 6, 7, 8, 9, 10, 11, 12, 13, 14, 15, 16, 17], none), (19, [0, 1, 6, 7, 8, 9, 10, 11, 12, 13, 14, 15], none), (20, [0, 1, 6, 7, 8, 9, 10, 11, 12, 13, 14, 15], none), (21, [0, 1, 2, 3, 4, 5, 6, 7, 8, 9, 10, 11, 12, 13, 14, 15, 16, 17, 18, 19, 20], none), (22, [0, 1, 2, 3, 4, 5, 6, 7, 8, 9, 10, 11, 12, 13, 14, 15, 16, 17, 18, 19, 20], none), (23, [0, 1, 6, 7, 8, 9, 10, 11, 12, 13, 14, 15], none), (24, [0, 1], none), (25, [0, 1, 2, 3, 4, 5, 6, 7, 8, 9, 10, 11, 12, 13, 14, 15, 16, 17, 18, 19, 20, 21, 22, 23, 24], none), (26, [0, 1, 2, 3, 4, 5, 6, 7, 8, 9, 10, 11, 12, 13, 14, 15, 16, 17, 18, 19, 20, 21, 22, 23, 24, 25], none), (27, [0, 1, 2, 3, 4, 5, 6, 7, 8, 9, 10, 11, 12, 13, 14, 15, 16, 17, 18, 19, 20, 21, 22, 23, 24, 25], none), (28, [0, 1, 2, 3, 4, 5, 6, 7, 8, 9, 10, 11, 12, 13, 14, 15, 16, 17, 18, 19, 20, 21, 22, 23, 24], none), (29, [0, 1, 2, 3, 4, 5, 6, 7, 8, 9, 10, 11, 12, 13, 14, 15, 16, 17, 18, 19, 20, 21, 22, 23, 24], none), (30, [0, 1], none), (31, [], none), (32, [], some [120])]), (25, [(0, [], none), (1, [0], none), (2, [0], none), (3, [0], none), (4, [], none), (5, [0, 1, 2, 3, 4], none), (6, [0, 1, 2, 3, 4], none), (7, [0, 1, 2, 3, 4, 5, 6], none), (8, [0, 1, 2, 3, 4, 5, 6], none), (9, [0, 1, 2, 3, 4, 5, 6], none), (10, [0, 1, 2, 3, 4], none), (11, [], none), (12, [], none)]), (26, [(0, [], none), (1, [0], none), (2, [0], none), (3, [0], none), (4, [], none), (5, [0, 1, 2, 3, 4], none), (6, [0, 1, 2, 3, 4, 5], none), (7, [0, 1, 2, 3, 4, 5], none), (8, [0, 1, 2, 3, 4, 5], none), (9, [0, 1, 2, 3, 4], none), (10, [], none), (11, [0, 1, 2, 3, 4, 5, 6, 7, 8, 9, 10], none), (12, [0, 1, 2, 3, 4, 5, 6, 7, 8, 9, 10], none), (13, [0, 1, 2, 3, 4, 5, 6, 7, 8, 9, 10], none), (14, [0, 1, 2, 3, 4, 5, 6, 7, 8, 9, 10, 11, 12, 13], none), (15, [0, 1, 2, 3, 4, 5, 6, 7, 8, 9, 10, 11, 12, 13], none), (16, [0, 1, 2, 3, 4, 5, 6, 7, 8, 9, 10, 11, 12, 13], none), (17, [0, 1, 2, 3, 4, 5, 6, 7, 8, 9, 10], none), (18, [], none), (19, [], none)]), (27, [(0, [], none), (1, [], none), (2, [], none), (3, [0, 1, 2], none), (4, [0, 1, 2], none), (5, [0, 1, 2, 3, 4], none), (6, [0, 1, 2], none), (7, [0, 1, 2], none), (8, [0, 1, 2, 3, 4, 5, 6, 7], none), (9, [0, 1, 2, 7], none), (10, [0, 1, 2], none), (11, [], none), (12, [0, 1, 2, 3, 4, 5, 6, 7, 8, 9, 10, 11], none), (13, [], none), (14, [0, 1, 2, 3, 4, 5, 6, 7, 8, 9, 10, 11, 12, 13], none), (15, [0, 1, 2, 3, 4, 5, 6, 7, 8, 9, 10, 11, 12, 13, 14], none), (16, [0, 1, 2, 3, 4, 5, 6, 7, 8, 9, 10, 11, 12, 13], none), (17, [0, 1, 2, 3, 4, 5, 6, 7, 8, 9, 10, 11, 12, 13], none), (18, [], none), (19, [0, 1, 2, 3, 4, 5, 6, 7, 8, 9, 10, 11, 12, 13, 14, 15, 16, 17, 18], none), (20, [0, 1, 2, 3, 4, 5, 6, 7, 8, 9, 10, 11, 12, 13, 14, 15, 16, 17, 18, 19], none), (21, [0, 1, 2, 3, 4, 5, 6, 7, 8, 9, 10, 11, 12, 13, 14, 15, 16, 17, 18], none), (22, [0, 1, 2, 3, 4, 5, 6, 7, 8, 9, 10, 11, 12, 13, 14, 15, 16, 17, 18], none), (23, [], none), (24, [], none)]), (29, [(0, [], none), (1, [0], none), (2, [], none), (3, [0, 1, 2], none), (4, [0, 1, 2, 3], none), (5, [0, 1, 2, 3], none), (6, [0, 1, 2, 3], none), (7, [0, 1, 2, 3, 4, 5, 6], none), (8, [0, 1, 2, 3, 4, 5, 6], none), (9, [0, 1, 2, 3, 4, 5, 6], none), (10, [0, 1, 2, 3, 4, 5, 6, 7, 8, 9], none), (11, [0, 1, 2, 3, 4, 5, 6, 7, 8, 9], none), (12, [0, 1, 2, 3, 4, 5, 6, 7, 8, 9], none), (13, [0, 1, 2, 3, 4, 5, 6, 7, 8, 9, 10, 11, 12], none), (14, [0, 1, 2, 3, 4, 5, 6, 7, 8, 9], none), (15, [0, 1, 2, 3, 4, 5, 6, 7, 8, 9, 10, 11, 12, 13, 14], none), (16, [0, 1, 2, 3, 4, 5, 6, 7, 8, 9, 10, 11, 12, 13, 14, 15], none), (17, [0, 1, 2, 3, 4, 5, 6, 7, 8, 9, 10, 11, 12, 13, 14, 15], none), (18, [0, 1, 2, 3, 4, 5, 6, 7, 8, 9, 10, 11, 12, 13, 14, 15], none), (19, [0, 1, 2, 3, 4, 5, 6, 7, 8, 9, 10, 11, 12, 13, 14, 15, 16, 17, 18], none), (20, [0, 1, 2, 3, 4, 5, 6, 7, 8, 9, 10, 11, 12, 13, 14, 15, 16, 17, 18], none), (21, [0, 1, 2, 3, 4, 5, 6, 7, 8, 9, 10, 11, 12, 13, 14, 15, 16, 17, 18], none), (22, [], none), (23, [], none)]), (33, [(0, [], none), (1, [0], none), (2, [0, 1], none), (3, [0, 1, 2], none), (4, [0, 1], none), (5, [0, 1], none), (6, [0, 1, 2, 3, 4, 5], none), (7, [0, 1, 2, 3, 4, 5, 6], none), (8, [0, 1, 2, 3, 4, 5], none), (9, [0, 1, 2, 3, 4, 5], none), (10, [0, 1], none), (11, [], none), (12, [], some [237])])]
/-- planchet/tree.Build -/
def pl67 : List (Nat × Plan) := [(3, [(0, [], none), (1, [], none), (2, [0, 1], none), (3, [0, 1, 2], none), (4, [], none), (5, [0, 1, 2, 3, 4], none), (6, [0, 1, 2, 3, 4, 5], none), (7, [0, 1, 2, 3, 4, 5], none), (8, [], none), (9, [], none), (10, [], none)]), (9, [(0, [], none), (1, [], none), (2, [], none), (3, [], none), (4, [], none), (5, [], none), (6, [], none), (11, [], some [10]), (7, [0, 1, 2, 3, 4, 5, 6, 11], none), (8, [0, 1, 2, 3, 4, 5, 6, 11], none), (9, [0, 1, 2, 3, 4, 5, 6, 11], none), (10, [0, 1, 2, 3, 4, 5, 6, 11], none), (12, [], none), (13, [], none)])]
/-- planchet/planchetref10.Rows -/
def pl68 : List (Nat × Plan) := [(20, [(0, [], none), (1, [0], none), (2, [0, 1], none), (3, [0, 1], none), (4, [0], none), (5, [0], none), (6, [0, 1, 2, 3, 4, 5], none), (7, [0, 1, 2, 3, 4, 5, 6], none), (8, [0, 1, 2, 3, 4, 5, 6], none), (9, [0, 1, 2, 3, 4, 5, 6], none), (10, [0, 1, 2, 3, 4, 5], none), (11, [0, 1, 2, 3, 4, 5], none), (12, [0, 1, 2, 3, 4, 5, 6, 7, 8, 9, 10, 11], none), (13, [0, 1, 2, 3, 4, 5, 6, 7, 8, 9, 10, 11], none), (14, [0, 1, 2, 3, 4, 5, 6, 7, 8, 9, 10, 11, 12, 13], none), (15, [0, 1, 2, 3, 4, 5, 6, 7, 8, 9, 10, 11, 12, 13, 14], none), (16, [0, 1, 2, 3, 4, 5, 6, 7, 8, 9, 10, 11, 12, 13, 14, 15], none), (17, [0, 1, 2, 3, 4, 5, 6, 7, 8, 9, 10, 11, 12, 13, 14, 15, 16], none), (18, [0], none), (19, [0], none), (20, [], some [55]), (21, [], none)])]
/-- (*planchet/directory.book).entry -/
def pl73 : List (Nat × Plan) := [(1, [(0, [], none), (1, [], none), (2, [], none), (3, [], none), (4, [0, 1, 2, 3], none), (5, [0, 1, 2, 3], none), (6, [0, 1, 2, 3], none), (7, [0, 1, 2, 3, 4, 5, 6], none), (8, [0, 1, 2, 3, 4, 5, 6], none), (9, [], none), (10, [], none), (11, [], none), (14, [0, 1, 2, 3, 4, 5, 6, 7, 8, 9, 10, 11], none), (15, [0, 1, 2, 3, 4, 5, 6, 7, 8, 9, 10, 11, 14], none), (16, [], some [7]), (12, [11, 14, 15, 16], none), (17, [], some [8]), (13, [11, 14, 15, 16, 12, 17], none), (18, [], none)]), (2, [(0, [], none), (1, [], none), (2, [], none), (3, [], none), (4, [0, 1, 2, 3], none), (5, [0, 1, 2, 3, 4], none), (6, [0, 1, 2, 3, 4], none), (7, [], none), (8, [], none), (9, [], none), (12, [0, 1, 2, 3, 4, 5, 6, 7, 8, 9], none), (13, [0, 1, 2, 3, 4, 5, 6, 7, 8, 9, 12], none), (14, [], some [10]), (10, [9, 12, 13, 14], none), (15, [], some [11]), (11, [9, 12, 13, 14, 10, 15], none), (16, [], none)]), (3, [(0, [], none), (1, [0], none), (2, [], none), (5, [], some [4]), (3, [0, 1, 2, 5], none), (6, [], some [5]), (4, [0, 1, 2, 5, 3, 6], none), (7, [], some [6])])]
/-- planchet/ptree.Prove -/
def pl74 : List (Nat × Plan) := [(10, [(0, [], none), (1, [0], none), (2, [], none), (3, [0, 1, 2], none), (4, [0, 1, 2, 3], none), (5, [0, 1, 2], none), (6, [3, 4, 5], none), (7, [], none)]), (15, [(0, [], none), (1, [], none), (2, [0, 1], none), (3, [], none), (4, [], none), (5, [0, 1, 2, 3, 4], none), (6, [0, 1, 2, 3, 4], none), (7, [0, 1, 2, 3, 4], none), (8, [], none), (9, [0, 1, 2, 3, 4, 5, 6, 7, 8], none), (10, [], none), (11, [], some [61])]), (16, [(0, [], none), (1, [], none), (2, [0, 1], none), (3, [0, 1, 2], none), (4, [0, 1, 2, 3], none), (5, [0, 1], none), (6, [0, 1], none), (7, [], some [63]), (8, [], none), (9, [], some [70])])]
/-- planchet/commit.Index -/
def pl75 : List (Nat × Plan) := [(5, [(0, [], none), (3, [], some [6]), (1, [0, 3], none), (4, [], some [7]), (2, [0, 3, 1, 4], none), (5, [], none)])]
/-- planchet/ptree.Empty -/
def pl78 : List (Nat × Plan) := [(6, [(0, [], none), (1, [0], none), (2, [0], none), (3, [0, 1, 2], none), (4, [0, 1, 2, 3], none), (5, [0, 1, 2], none), (6, [0, 1, 2], none), (7, [0, 1, 2, 3, 4, 5, 6], none), (8, [0, 1, 2, 3, 4, 5, 6, 7], none), (9, [0, 1, 2, 3, 4, 5, 6], none), (10, [0, 1, 2, 3, 4, 5, 6], none), (11, [0, 1, 2], none), (12, [], none), (13, [], some [24])])]
/-- (planchet/ptree.builder).node -/
def pl79 : List (Nat × Plan) := [(6, [(0, [], none), (1, [0], none), (2, [0, 1], none), (3, [0], none), (4, [0, 1, 2, 3], none), (5, [0, 1, 2, 3], none), (6, [], none), (7, [0, 1, 2, 3, 4, 5, 6], none), (8, [0, 1, 2, 3, 4, 5, 6, 7], none), (9, [0, 1, 2, 3, 4, 5, 6, 7, 8], none), (10, [0, 1, 2, 3, 4, 5, 6, 7], none), (11, [0, 1, 2, 3, 4, 5, 6, 7, 8, 9, 10], none), (12, [0, 1, 2, 3, 4, 5, 6, 7, 8, 9, 10], none), (13, [], none), (14, [], none), (15, [], some [6])])]
/-- planchet/wire.EpochText -/
def pl82 : List (Nat × Plan) := [(1, [(0, [], none), (1, [], none), (2, [0, 1], none), (3, [0, 1], none), (4, [], some [6, 8]), (5, [0, 1, 2, 3, 4], none), (6, [0, 1, 2, 3, 4], none), (7, [], some [9, 11]), (8, [], none), (9, [], none), (10, [], none), (11, [], none)])]
/-- (*planchet/wire.text).numbers -/
def pl84 : List (Nat × Plan) := [(4, [(1, [], none), (2, [], none), (3, [], none), (4, [], none), (5, [1, 2, 3, 4], none), (6, [1, 2, 3, 4], none), (7, [1, 2, 3, 4], none), (8, [], some [17]), (0, [1, 2, 3, 4, 5, 6, 7, 8], none), (9, [], none), (10, [], none), (11, [], some [23])])]
/-- (*planchet/wire.text).digests -/
def pl85 : List (Nat × Plan) := [(4, [(1, [], none), (2, [], none), (3, [], none), (4, [], none), (5, [1, 2, 3, 4], none), (6, [], some [17]), (0, [1, 2, 3, 4, 5, 6], none), (7, [], none), (8, [], none), (9, [], some [21])])]
/-- (*planchet/disk.Disk).Write -/
def pl86 : List (Nat × Plan) := [(5, [(6, [], none), (7, [6], none), (8, [], some [30]), (1, [6, 7, 8], none), (2, [6, 7, 8], none), (3, [6, 7, 8], none), (4, [6, 7, 8], none), (5, [6, 7, 8, 1, 2, 3, 4], none), (9, [1, 2, 3, 4], none), (10, [1, 2, 3, 4], none), (11, [], some [28, 34]), (0, [6, 7, 8, 1, 2, 3, 4, 5, 9, 10, 11], none), (12, [], none), (13, [], none), (14, [], some [37])])]
/-- (*planchet/disk.Disk).Sync -/
def pl87 : List (Nat × Plan) := [(6, [(0, [], none), (1, [0], none), (2, [0, 1], none), (3, [0, 1], none), (4, [0, 1], none), (5, [0, 1], none), (6, [], some [20, 21, 25])])]
/-- (*planchet/slots.Slots).Replace -/
def pl88 : List (Nat × Plan) := [(8, [(0, [], none), (1, [], none), (2, [], none), (3, [], none), (4, [0, 1, 2, 3], none), (5, [0, 1, 2, 3], none), (6, [0, 1, 2, 3], none), (7, [0, 1, 2, 3], none), (8, [0, 1, 2, 3, 4, 5, 6, 7], none), (9, [0, 1, 2, 3, 4, 5, 6, 7], none), (10, [0, 1, 2, 3], none), (11, [0, 1, 2, 3, 4, 5, 6, 7, 8, 9, 10], none), (12, [0, 1, 2, 3, 4, 5, 6, 7, 8, 9, 10, 11], none), (13, [0, 1, 2, 3, 4, 5, 6, 7, 8, 9, 10, 11, 12], none), (14, [0, 1, 2, 3, 4, 5, 6, 7, 8, 9, 10], none), (15, [], some [29, 36, 40]), (16, [], none)])]
/-- planchet/hyper.Sign -/
def pl89 : List (Nat × Plan) := [(5, [(0, [], none), (1, [0], none), (2, [0], none), (3, [0, 1, 2], none), (4, [0, 1, 2], none), (5, [0, 1, 2], none), (6, [0], none), (7, [], none), (8, [0, 1, 2, 3, 4, 5, 6, 7], none), (9, [], some [10])]), (10, [(0, [], none), (1, [0], none), (2, [0], none), (3, [0], none), (4, [0], none), (5, [0], none), (6, [0, 1, 2, 3, 4, 5], none), (7, [0, 1, 2, 3, 4, 5], none), (8, [0, 1, 2, 3, 4, 5], none), (9, [0, 1, 2, 3, 4, 5], none), (10, [0, 1, 2, 3, 4, 5], none), (11, [0, 1, 2, 3, 4, 5, 6, 7, 8, 9, 10], none), (12, [0, 1, 2, 3, 4, 5, 6, 7, 8, 9, 10], none), (13, [0, 1, 2, 3, 4, 5, 6, 7, 8, 9, 10], none), (14, [0, 1, 2, 3, 4, 5, 6, 7, 8, 9, 10, 11, 12, 13], none), (15, [0, 1, 2, 3, 4, 5, 6, 7, 8, 9, 10, 11, 12, 13], none), (16, [0, 1, 2, 3, 4, 5, 6, 7, 8, 9, 10, 11, 12, 13], none), (17, [0, 1, 2, 3, 4, 5, 6, 7, 8, 9, 10, 11, 12, 13], none), (18, [0, 1, 2, 3, 4, 5, 6, 7, 8, 9, 10, 11, 12, 13], none), (19, [], none), (20, [], none), (21, [], none), (24, [0, 1, 2, 3, 4, 5, 6, 7, 8, 9, 10, 11, 12, 13, 14, 15, 16, 17, 18, 19, 20, 21], none), (25, [], some [13]), (22, [21, 24, 25], none), (23, [21, 24, 25, 22], none), (26, [23], none), (27, [], none)]), (13, [(0, [], none), (1, [], none), (2, [0, 1], none), (3, [0, 1, 2], none), (4, [0, 1, 2], none), (5, [0, 1, 2, 3, 4], none), (6, [0, 1, 2, 3, 4], none), (7, [0, 1, 2, 3, 4, 5, 6], none), (8, [0, 1, 2, 3, 4, 5, 6], none), (9, [0, 1, 2, 3, 4, 5, 6], none), (10, [0, 1, 2, 3, 4, 5, 6], none), (11, [0, 1, 2, 3, 4, 5, 6], none), (12, [0, 1], none), (13, [0, 1, 2, 3, 4, 5, 6, 7, 8, 9, 10, 11, 12], none), (14, [0, 1], none), (15, [0, 1], none), (16, [], some [85, 99]), (17, [], none), (18, [], some [101])])]
/-- (*planchet/fence.Fence).Raise -/
def pl91 : List (Nat × Plan) := [(3, [(0, [], none), (1, [], none), (2, [], none), (3, [], none), (4, [0, 1, 2, 3], none), (5, [], none), (6, [0, 1, 2, 3, 4, 5], none), (7, [], some [5])]), (4, [(0, [], none), (1, [0], none), (2, [0], none), (3, [0], none), (4, [0], none), (5, [], none)])]
/-- (*planchet/directory.book).next -/
def pl95 : List (Nat × Plan) := [(4, [(0, [], none), (1, [], none), (2, [], none), (3, [], none), (4, [0, 1, 2, 3], none), (5, [0, 1, 2, 3], none), (6, [0, 1, 2, 3], none), (7, [0, 1, 2, 3], none), (8, [0, 1, 2, 3, 4, 5, 6, 7], none), (9, [0, 1, 2, 3, 4, 5, 6, 7], none), (10, [0, 1, 2, 3, 4, 5, 6, 7], none), (11, [], none), (12, [0, 1, 2, 3, 4, 5, 6, 7, 8, 9, 10, 11], none), (13, [], some [8])]), (5, [(0, [], none), (1, [], none), (2, [], none), (3, [], none), (4, [0, 1, 2, 3], none), (5, [0, 1, 2, 3], none), (6, [], none), (7, [0, 1, 2, 3, 4, 5, 6], none), (8, [], some [9])]), (9, [(0, [], none), (1, [0], none), (2, [0], none), (3, [0], none), (4, [0], none), (5, [0], none), (6, [0], none), (7, [0], none), (13, [], some [4]), (8, [0, 13], none), (9, [0, 13], none), (10, [0, 13], none), (11, [0, 13], none), (12, [0, 13], none), (14, [], none)]), (10, [(0, [], none), (1, [0], none), (2, [0], none), (9, [], some [4]), (3, [0, 9], none), (4, [0, 9], none), (5, [0, 9], none), (6, [0, 9], none), (7, [0, 9], none), (8, [0, 9], none), (10, [], none)])]
/-- planchet/planchetref01.right -/
def pl98 : List (Nat × Plan) := [(1, [(0, [], none), (1, [0], none), (2, [], none), (3, [0, 1, 2], none), (4, [0, 1, 2, 3], none), (5, [0, 1, 2], none), (6, [0, 1, 2, 3, 4, 5], none), (7, [0, 1, 2], none), (8, [], none), (9, [], none)])]
/-- (*planchet/sha.Hash).Sum -/
def pl101 : List (Nat × Plan) := [(3, [(4, [], none), (5, [4], none), (6, [4], none), (7, [4], none), (8, [4], none), (9, [], some [16]), (0, [4, 5, 6, 7, 8, 9], none), (1, [4, 5, 6, 7, 8, 9], none), (2, [4, 5, 6, 7, 8, 9], none), (3, [4, 5, 6, 7, 8, 9], none), (10, [], none), (11, [], none), (12, [], none)])]
/-- (*planchet/tree.builder).add -/
def pl102 : List (Nat × Plan) := [(2, [(0, [], none), (1, [], none), (2, [], none), (3, [], none), (4, [], none), (5, [], none), (6, [], none), (7, [], none), (8, [], none), (9, [], none), (10, [], none), (11, [7, 8, 9, 10], none), (12, [7, 8, 9, 10], none), (13, [7, 8, 9, 10], none), (14, [7, 8, 9, 10], none), (15, [7, 8, 9, 10], none), (16, [7, 8, 9, 10], none), (17, [], none), (18, [], none), (19, [], none), (20, [7, 8, 9, 10, 11, 12, 13, 14, 15, 16, 17, 18, 19], none), (21, [7, 8, 9, 10, 11, 12, 13, 14, 15, 16, 17, 18, 19], none), (22, [], none), (23, [], none)]), (3, [(0, [], none), (1, [], none), (2, [], none), (3, [], none), (4, [0, 1, 2, 3], none), (5, [0, 1, 2, 3], none), (6, [0, 1, 2, 3], none), (7, [0, 1, 2, 3], none), (8, [0, 1, 2, 3], none), (9, [0, 1, 2, 3], none), (10, [], none), (11, [], none), (12, [0, 1, 2, 3, 4, 5, 6, 7, 8, 9, 10, 11], none), (13, [], some [4])]), (4, [(0, [], none), (1, [0], none), (2, [0], none), (3, [0], none), (4, [0], none), (5, [0, 1, 2, 3, 4], none), (6, [0, 1, 2, 3, 4], none), (7, [0, 1, 2, 3, 4], none), (8, [0, 1, 2, 3, 4], none), (9, [0, 1, 2, 3, 4], none), (10, [0, 1, 2, 3, 4], none), (11, [0], none), (12, [], none), (13, [], none), (14, [], some [57])]), (5, [(0, [], none), (1, [], none), (2, [], none), (3, [], none), (4, [0, 1, 2, 3], none), (5, [0, 1, 2, 3], none), (6, [0, 1, 2, 3, 4, 5], none), (7, [0, 1, 2, 3, 4, 5], none), (8, [0, 1, 2, 3, 4, 5, 6, 7], none), (9, [0, 1, 2, 3, 4, 5, 6, 7], none), (10, [0, 1, 2, 3, 4, 5, 6, 7, 8, 9], none), (11, [0, 1, 2, 3, 4, 5, 6, 7, 8, 9], none), (12, [0, 1, 2, 3, 4, 5, 6, 7, 8, 9], none), (13, [], none), (14, [0, 1, 2, 3, 4, 5, 6, 7, 8, 9, 10, 11, 12, 13], none), (15, [0, 1, 2, 3, 4, 5, 6, 7, 8, 9, 10, 11, 12, 13], none), (16, [0, 1, 2, 3, 4, 5, 6, 7, 8, 9, 10, 11, 12, 13], none), (17, [0, 1, 2, 3, 4, 5, 6, 7, 8, 9, 10, 11, 12, 13, 14, 15, 16], none), (18, [0, 1, 2, 3, 4, 5, 6, 7, 8, 9, 10, 11, 12, 13, 14, 15, 16], none), (19, [0, 1, 2, 3, 4, 5, 6, 7, 8, 9, 10, 11, 12, 13, 14, 15, 16], none), (20, [], none), (21, [], some [3])]), (7, [(1, [], none), (2, [], none), (3, [], none), (4, [], none), (5, [1, 2, 3, 4], none), (6, [1, 2, 3, 4], none), (7, [], some [86]), (0, [1, 2, 3, 4, 5, 6, 7], none), (8, [], none), (9, [], none), (10, [], some [91])])]
/-- planchet/tree.Leaf -/
def pl103 : List (Nat × Plan) := [(1, [(0, [], none), (1, [], none), (2, [0, 1], none), (3, [0, 1], none), (4, [0, 1, 2, 3], none), (5, [0, 1, 2, 3, 4], none), (6, [0, 1, 2, 3, 4, 5], none), (7, [0, 1, 2, 3, 4, 5], none), (8, [0, 1, 2, 3], none), (9, [], none), (10, [], none)]), (2, [(0, [], none), (1, [0], none), (2, [0], none), (3, [0, 1, 2], none), (4, [0, 1, 2, 3], none), (5, [0, 1, 2, 3, 4], none), (6, [0, 1, 2, 3, 4], none), (7, [0, 1, 2], none), (8, [], none), (9, [], none), (10, [], none), (12, [0, 1, 2, 3, 4, 5, 6, 7, 8, 9, 10], none), (13, [], some [10]), (11, [10, 12, 13], none), (14, [], none)])]
/-- planchet/planchetref10.Leaf -/
def pl104 : List (Nat × Plan) := [(1, [(0, [], none), (1, [], none), (2, [0, 1], none), (3, [0, 1], none), (4, [0, 1, 2, 3], none), (5, [0, 1, 2, 3, 4], none), (6, [0, 1, 2, 3, 4, 5], none), (7, [0, 1, 2, 3], none), (8, [], none), (9, [], none)]), (2, [(0, [], none), (1, [0], none), (2, [0], none), (3, [0, 1, 2], none), (4, [0, 1, 2, 3], none), (5, [0, 1, 2, 3, 4], none), (6, [0, 1, 2], none), (7, [], none), (8, [], some [8])])]
/-- planchet/planchetref10.two -/
def pl105 : List (Nat × Plan) := [(1, [(0, [], none), (1, [0], none), (2, [0, 1], none), (3, [0, 1, 2], none), (4, [0, 1, 2, 3], none), (5, [0, 1, 2], none), (6, [0, 1, 2, 3, 4, 5], none), (7, [0, 1, 2, 3, 4, 5], none), (8, [0, 1, 2, 3, 4, 5, 6, 7], none), (9, [0, 1, 2, 3, 4, 5, 6, 7], none), (10, [0, 1, 2], none), (11, [], none), (12, [], some [14])])]
/-- planchet/commit.Value -/
def pl108 : List (Nat × Plan) := [(3, [(0, [], none), (1, [], none), (2, [0, 1], none), (3, [0, 1, 2], none), (4, [0, 1], none), (5, [], none), (6, [0, 1, 2, 3, 4, 5], none), (7, [], some [9])]), (5, [(0, [], none), (3, [], some [6]), (1, [0, 3], none), (4, [], some [7]), (2, [0, 3, 1, 4], none), (5, [], none)])]
/-- slices.Reverse[[]planchet/api.Digest,planchet/api.Digest] -/
def pl111 : List (Nat × Plan) := [(3, [(0, [], none), (1, [0], none), (4, [0, 1], none), (5, [0, 1, 4], none), (6, [0, 1], none), (7, [0, 1], none), (8, [0, 1, 4, 5, 6, 7], none), (9, [0, 1, 4, 5, 6, 7, 8], none), (10, [0, 1, 4, 5, 6, 7], none), (11, [0, 1, 4, 5, 6, 7], none), (12, [], none), (13, [], some [26]), (2, [0, 1, 4, 5, 6, 7, 8, 9, 10, 11, 12, 13], none), (3, [0, 1, 4, 5, 6, 7, 8, 9, 10, 11, 12, 13, 2], none), (14, [], none), (15, [], some [27])])]
/-- planchet/commit.From -/
def pl116 : List (Nat × Plan) := [(3, [(0, [], none), (1, [0], none), (2, [0, 1], none), (3, [1], none), (4, [0, 1, 2, 3], none), (5, [], none), (6, [], none), (7, [], some [6]), (8, [], none)])]
/-- planchet/ptree.sorted$1 -/
def pl119 : List (Nat × Plan) := [(1, [(0, [], none), (1, [], none), (2, [0, 1], none), (3, [0, 1], none), (4, [], none), (5, [], none)])]
/-- planchet/ptree.Node -/
def pl121 : List (Nat × Plan) := [(1, [(0, [], none), (1, [0], none), (2, [0, 1], none), (3, [], none), (4, [], none), (5, [], some [4])])]
/-- planchet/ptree.Leaf -/
def pl122 : List (Nat × Plan) := [(1, [(0, [], none), (1, [0], none), (2, [0], none), (3, [0, 1, 2], none), (4, [0, 1, 2], none), (5, [], none), (6, [], none), (7, [], some [2])])]
/-- planchet/log.root -/
def pl123 : List (Nat × Plan) := [(6, [(0, [], none), (1, [], none), (2, [], none), (3, [], none), (4, [], none), (5, [4], none), (6, [4], none), (7, [4], none), (8, [], none), (9, [], none), (10, [], none), (11, [4, 5, 6, 7, 8, 9, 10], none), (12, [4, 5, 6, 7, 8, 9, 10], none), (13, [], none), (14, [], none)]), (8, [(0, [], none), (1, [0], none), (2, [0], none), (3, [0], none), (4, [], none), (5, [0, 1, 2, 3, 4], none), (6, [0, 1, 2, 3, 4], none), (7, [0, 1, 2, 3, 4, 5, 6], none), (8, [0, 1, 2, 3, 4, 5, 6], none), (9, [0, 1, 2, 3, 4], none), (10, [0, 1, 2, 3, 4, 5, 6, 7, 8, 9], none), (11, [0, 1, 2, 3, 4, 5, 6, 7, 8, 9], none), (12, [0, 1, 2, 3, 4, 5, 6, 7, 8, 9], none), (13, [0, 1, 2, 3, 4], none), (14, [10, 11, 12, 13], none), (15, [], some [6])]), (17, [(0, [], none), (1, [0], none), (2, [], none), (3, [], none), (4, [], none), (5, [0, 1, 2, 3, 4], none), (6, [], none), (7, [], some [8])])]
/-- (*planchet/disk.Disk).put -/
def pl125 : List (Nat × Plan) := [(1, [(0, [], none), (1, [], none), (2, [], none), (3, [], none), (4, [0, 1, 2, 3], none), (5, [0, 1, 2, 3], none), (6, [0, 1, 2, 3, 4, 5], none), (7, [0, 1, 2, 3, 4, 5], none), (8, [0, 1, 2, 3, 4, 5], none), (9, [0, 1, 2, 3, 4, 5], none), (10, [0, 1, 2, 3], none), (11, [], none), (12, [0, 1, 2, 3, 4, 5, 6, 7, 8, 9, 10, 11], none), (13, [0, 1, 2, 3, 4, 5, 6, 7, 8, 9, 10, 11], none), (14, [0, 1, 2, 3, 4, 5, 6, 7, 8, 9, 10, 11, 12, 13], none), (15, [0, 1, 2, 3, 4, 5, 6, 7, 8, 9, 10, 11], none), (16, [], some [17])])]
/-- planchet/keyed.Prf -/
def pl127 : List (Nat × Plan) := [(1, [(0, [], none), (1, [0], none), (2, [0, 1], none), (3, [], none), (4, [], none), (5, [], some [4])])]
/-- (*planchet/hyper.climber).up -/
def pl132 : List (Nat × Plan) := [(0, [(0, [], none), (1, [0], none), (2, [0], none), (3, [0], none), (4, [0], none), (5, [0], none), (6, [0], none), (7, [0, 1, 2, 3, 4, 5, 6], none), (8, [0, 1, 2, 3, 4, 5, 6], none), (9, [0, 1, 2, 3, 4, 5, 6], none), (10, [0, 1, 2, 3, 4, 5, 6], none), (11, [0, 1, 2, 3, 4, 5, 6], none), (12, [0, 1, 2, 3, 4, 5, 6], none), (13, [], none)])]
/-- planchet/pack.size -/
def pl133 : List (Nat × Plan) := [(4, [(0, [], none), (1, [], none), (2, [], none), (3, [], none), (4, [], none), (5, [0, 1, 2, 3, 4], none), (6, [0, 1, 2, 3, 4], none), (7, [0, 1, 2, 3, 4], none), (8, [0, 1, 2, 3, 4], none), (9, [], none), (10, [], none)])]
/-- (*planchet/sha.Hash).take -/
def pl135 : List (Nat × Plan) := [(5, [(0, [], none), (1, [], none), (2, [0, 1], none), (3, [0, 1], none), (4, [2, 3], none), (5, [], none)]), (6, [(0, [], none), (1, [], none), (2, [0, 1], none), (3, [0, 1], none), (4, [0, 1, 2, 3], none), (5, [0, 1], none), (6, [0, 1], none), (7, [0, 1, 2, 3, 4, 5, 6], none), (8, [0, 1, 6], none), (9, [0, 1], none), (10, [], none), (11, [0, 1, 2, 3, 4, 5, 6, 7, 8, 9, 10], none), (12, [0, 1, 2, 3, 4, 5, 6, 7, 8, 9, 10, 11], none), (13, [0, 1, 2, 3, 4, 5, 6, 7, 8, 9, 10, 11], none), (14, [0, 1, 2, 3, 4, 5, 6, 7, 8, 9, 10], none), (15, [0, 1, 2, 3, 4, 5, 6, 7, 8, 9, 10, 11, 12, 13, 14], none), (16, [0, 1, 2, 3, 4, 5, 6, 7, 8, 9, 10, 11, 12, 13, 14], none), (17, [0, 1, 2, 3, 4, 5, 6, 7, 8, 9, 10, 11, 12, 13, 14, 15, 16], none), (18, [0, 1, 2, 3, 4, 5, 6, 7, 8, 9, 10, 11, 12, 13, 14, 15, 16], none), (19, [0, 1, 2, 3, 4, 5, 6, 7, 8, 9, 10, 11, 12, 13, 14], none), (20, [0, 1, 2, 3, 4, 5, 6, 7, 8, 9, 10], none), (21, [], none), (22, [0, 1, 2, 3, 4, 5, 6, 7, 8, 9, 10, 11, 12, 13, 14, 15, 16, 17, 18, 19, 20, 21], none), (23, [0, 1, 2, 3, 4, 5, 6, 7, 8, 9, 10, 11, 12, 13, 14, 15, 16, 17, 18, 19, 20, 21], none), (24, [0, 1, 2, 3, 4, 5, 6, 7, 8, 9, 10, 11, 12, 13, 14, 15, 16, 17, 18, 19, 20, 21], none), (25, [], none), (26, [0, 1, 2, 3, 4, 5, 6, 7, 8, 9, 10, 11, 12, 13, 14, 15, 16, 17, 18, 19, 20, 21, 22, 23, 24, 25], none), (27, [0, 1, 2, 3, 4, 5, 6, 7, 8, 9, 10, 11, 12, 13, 14, 15, 16, 17, 18, 19, 20, 21, 22, 23, 24, 25], none), (28, [0, 1, 2, 3, 4, 5, 6, 7, 8, 9, 10, 11, 12, 13, 14, 15, 16, 17, 18, 19, 20, 21, 22, 23, 24, 25], none), (29, [], none), (30, [], none)]), (7, [(0, [], none), (1, [], none), (2, [0, 1], none), (3, [], none), (4, [], none), (5, [0, 1, 2, 3, 4], none), (6, [4], none), (7, [], none), (8, [0, 1, 2, 3, 4, 5, 6, 7], none), (9, [0, 1, 2, 3, 4, 5, 6, 7, 8], none), (10, [0, 1, 2, 3, 4, 5, 6, 7, 8], none), (11, [0, 1, 2, 3, 4, 5, 6, 7], none), (12, [0, 1, 2, 3, 4, 5, 6, 7, 8, 9, 10, 11], none), (13, [0, 1, 2, 3, 4, 5, 6, 7, 8, 9, 10, 11, 12], none), (14, [0, 1, 2, 3, 4, 5, 6, 7, 8, 9, 10, 11, 12], none), (15, [0, 1, 2, 3, 4, 5, 6, 7, 8, 9, 10, 11], none), (16, [0, 1, 2, 3, 4, 5, 6, 7], none), (17, [0, 1, 2, 3, 4, 5, 6, 7, 8, 9, 10, 11, 12, 13, 14, 15, 16], none), (18, [0, 1, 2, 3, 4, 5, 6, 7, 8, 9, 10, 11, 12, 13, 14, 15, 16], none), (19, [0, 1, 2, 3, 4, 5, 6, 7, 8, 9, 10, 11, 12, 13, 14, 15, 16, 17, 18], none), (20, [0, 1, 2, 3, 4, 5, 6, 7, 8, 9, 10, 11, 12, 13, 14, 15, 16, 17, 18], none), (21, [0, 1, 2, 3, 4, 5, 6, 7, 8, 9, 10, 11, 12, 13, 14, 15, 16], none), (22, [0, 1, 2, 3, 4, 5, 6, 7], none), (23, [], none), (24, [], none)]), (13, [(0, [], none), (1, [0], none), (2, [1], none), (3, [1], none), (4, [], none), (5, [], none), (6, [0, 1, 2, 3, 4, 5], none), (7, [], none), (8, [1, 2, 3, 4, 5, 6, 7], none), (9, [1, 2, 3, 4, 5, 6, 7], none), (10, [], none), (11, [], some [116])])]
/-- (*planchet/tree.builder).see -/
def pl136 : List (Nat × Plan) := [(1, [(0, [], none), (1, [], none), (2, [0, 1], none), (3, [0, 1], none), (4, [0, 1], none), (5, [0, 1], none), (6, [0, 1], none), (7, [], none), (8, [], none), (9, [], none), (10, [], none), (11, [9, 10], none), (12, [9, 10], none), (13, [9, 10], none), (14, [9, 10], none), (15, [9, 10, 11, 12, 13, 14], none), (16, [9, 10, 11, 12, 13, 14], none), (17, [9, 10], none), (18, [9, 10], none), (19, [], none), (20, [], none)]), (2, [(0, [], none), (1, [], none), (2, [], none), (3, [], none), (4, [0, 1, 2, 3], none), (5, [0, 1, 2, 3], none), (6, [0, 1, 2, 3, 4, 5], none), (7, [0, 1, 2, 3, 4, 5], none), (8, [], none), (9, [], some [33])])]
/-- (planchet/tree.place).join -/
def pl137 : List (Nat × Plan) := [(1, [(0, [], none), (1, [0], none), (2, [0, 1], none), (3, [0, 1], none), (4, [0, 1, 2, 3], none), (5, [0, 1, 2, 3], none), (6, [0, 1, 2, 3, 4, 5], none), (7, [0, 1, 2, 3, 4, 5], none), (8, [0, 1, 2, 3], none), (9, [0, 1, 2, 3, 4, 5, 6, 7, 8], none), (10, [0, 1, 2, 3, 4, 5, 6, 7, 8], none), (11, [0, 1, 2, 3, 4, 5, 6, 7, 8, 9, 10], none), (12, [0, 1, 2, 3, 4, 5, 6, 7, 8, 9, 10], none), (13, [0, 1, 2, 3], none), (14, [], none), (15, [], some [10])])]
/-- planchet/ltree.Compress -/
def pl140 : List (Nat × Plan) := [(12, [(0, [], none), (1, [0], none), (2, [0, 1], none), (3, [0, 1, 2], none), (4, [0, 1, 2], none), (5, [0, 1], none), (6, [0, 1], none), (7, [0, 1, 2, 3, 4, 5, 6], none), (8, [0, 1, 2, 3, 4, 5, 6, 7], none), (9, [0, 1, 2, 3, 4, 5, 6, 7], none), (10, [0, 1, 2, 3, 4, 5, 6, 7], none), (11, [0, 1, 2, 3, 4, 5, 6], none), (12, [0, 1, 2, 3, 4, 5, 6], none), (13, [0, 1, 2, 3, 4, 5, 6, 7, 8, 9, 10, 11, 12], none), (14, [0, 1, 2, 3, 4, 5, 6, 7, 8, 9, 10, 11, 12, 13], none), (15, [0, 1, 2, 3, 4, 5, 6, 7, 8, 9, 10, 11, 12, 13, 14], none), (16, [0, 1, 2, 3, 4, 5, 6, 7, 8, 9, 10, 11, 12, 13, 14, 15], none), (17, [0, 1, 2, 3, 4, 5, 6, 7, 8, 9, 10, 11, 12, 13, 14, 15], none), (18, [0, 1, 2, 3, 4, 5, 6, 7, 8, 9, 10, 11, 12, 13], none), (19, [0, 1], none), (20, [], none), (21, [], some [59])])]
/-- planchet/planchetref08.Public -/
def pl142 : List (Nat × Plan) := [(1, [(0, [], none), (1, [0], none), (2, [], none), (3, [], none), (4, [], none), (5, [0, 1, 2, 3, 4], none), (6, [0, 1, 2, 3, 4, 5], none), (7, [], none), (8, [], none)])]
/-- planchet/planchetref09.Join -/
def pl145 : List (Nat × Plan) := [(1, [(0, [], none), (1, [0], none), (2, [0, 1], none), (3, [0, 1], none), (4, [0, 1, 2, 3], none), (5, [0, 1, 2, 3], none), (6, [0], none), (7, [], none), (8, [0, 1, 2, 3, 4, 5, 6, 7], none), (9, [], some [9])]), (2, [(0, [], none), (1, [0], none), (2, [0, 1], none), (3, [0, 1], none), (4, [0, 1, 2, 3], none), (5, [0, 1, 2, 3], none), (6, [0], none), (7, [], none), (8, [0, 1, 2, 3, 4, 5, 6, 7], none), (9, [], some [10])]), (3, [(0, [], none), (1, [0], none), (2, [0, 1], none), (3, [0, 1], none), (4, [0, 1, 2, 3], none), (5, [0, 1, 2, 3], none), (6, [0], none), (7, [], none), (8, [0, 1, 2, 3, 4, 5, 6, 7], none), (9, [], some [11])]), (4, [(0, [], none), (1, [0], none), (2, [0, 1], none), (3, [0], none), (4, [0, 1, 2, 3], none), (5, [0, 1, 2, 3, 4], none), (6, [0], none), (7, [], none), (8, [], some [8])])]
/-- planchet/commit.Made -/
def pl148 : List (Nat × Plan) := [(3, [(0, [], none), (1, [0], none), (2, [0, 1], none), (3, [0], none), (4, [], none), (5, [], some [4]), (6, [], none)])]
/-- slices.pdqsortCmpFunc[planchet/ptree.Entry] -/
def pl152 : List (Nat × Plan) := [(17, [(0, [], none), (1, [], none), (2, [], none), (3, [], none), (4, [3], none), (5, [3, 4], none), (6, [3, 4], none), (7, [3], none), (8, [3], none), (9, [3, 4, 5, 6, 7, 8], none), (10, [3, 4, 5, 6, 7, 8, 9], none), (11, [3, 4, 5, 6, 7, 8], none), (12, [3, 4, 5, 6, 7, 8], none), (13, [], none), (14, [], none), (15, [], none), (16, [], none)])]
/-- (*planchet/disk.Disk).Crash -/
def pl156 : List (Nat × Plan) := [(5, [(0, [], none), (1, [0], none), (2, [0, 1], none), (3, [0, 1, 2], none), (4, [0, 1], none), (5, [0, 1], none), (6, [0, 1, 2, 3, 4, 5], none), (7, [0, 1, 2, 3, 4, 5], none), (8, [0, 1, 2, 3, 4, 5], none), (9, [0, 1, 2, 3, 4, 5], none), (10, [0, 1], none), (11, [0, 1], none), (12, [], some [22, 23, 33])])]
/-- planchet/keyed.Message -/
def pl158 : List (Nat × Plan) := [(1, [(0, [], none), (1, [0], none), (2, [0, 1], none), (3, [0, 1, 2], none), (4, [1, 2], none), (5, [], none), (6, [0, 1, 2, 3, 4, 5], none), (7, [], some [14, 15]), (8, [], none), (9, [], some [8])])]
/-- (*planchet/hyper.climber).to -/
def pl159 : List (Nat × Plan) := [(0, [(0, [], none), (1, [0], none), (2, [0, 1], none), (3, [0, 1, 2], none), (4, [0, 1, 2], none), (5, [0, 1, 2], none), (6, [0, 1, 2], none), (7, [0, 1, 2], none), (8, [0, 1], none), (9, [0, 1], none), (10, [0, 1, 2, 3, 4, 5, 6, 7, 8, 9], none), (11, [0, 1, 2, 3, 4, 5, 6, 7, 8, 9, 10], none), (12, [0, 1, 2, 3, 4, 5, 6, 7, 8, 9, 10], none), (13, [0, 1, 2, 3, 4, 5, 6, 7, 8, 9, 10], none), (14, [0, 1, 2, 3, 4, 5, 6, 7, 8, 9, 10], none), (15, [0, 1, 2, 3, 4, 5, 6, 7, 8, 9, 10], none), (16, [0, 1, 2, 3, 4, 5, 6, 7, 8, 9, 10], none), (17, [0, 1, 2, 3, 4, 5, 6, 7, 8, 9, 10], none), (18, [0, 1, 2, 3, 4, 5, 6, 7, 8, 9], none), (19, [0], none), (20, [], none), (21, [], none), (22, [], some [27])])]
/-- planchet/wots.Sign$1 -/
def pl162 : List (Nat × Plan) := [(1, [(0, [], none), (1, [0], none), (2, [], none), (3, [0, 1, 2], none), (4, [0, 1, 2], none), (5, [0, 1, 2], none), (6, [0, 1, 2, 3, 4, 5], none), (7, [0, 1, 2, 3, 4, 5, 6], none), (8, [], none), (9, [], some [7])])]
/-- planchet/keyed.At -/
def pl164 : List (Nat × Plan) := [(1, [(0, [], none), (1, [0], none), (2, [0], none), (3, [], none), (4, [], some [4])])]
/-- planchet/sha.schedule -/
def pl165 : List (Nat × Plan) := [(14, [(0, [], none), (1, [], none), (2, [], none), (3, [], none), (4, [0, 1, 2, 3], none), (5, [0, 1, 2, 3], none), (6, [0, 1, 2, 3], none), (7, [0, 1, 2, 3], none), (8, [4, 5, 6, 7], none), (9, [], none)]), (15, [(0, [], none), (1, [0], none), (2, [0], none), (3, [0, 1, 2], none), (4, [0], none), (5, [0], none), (6, [0, 1, 2, 3, 4, 5], none), (7, [0, 1, 2, 3, 4, 5], none), (8, [0], none), (9, [0, 1, 2, 3, 4, 5, 6, 7, 8], none), (10, [0, 1, 2, 3, 4, 5, 6, 7, 8], none), (11, [0, 1, 2, 3, 4, 5, 6, 7, 8], none), (12, [0, 1, 2, 3, 4, 5, 6, 7, 8], none), (13, [0], none), (14, [0, 1, 2, 3, 4, 5, 6, 7, 8, 9, 10, 11, 12, 13], none), (15, [0, 5, 6, 7, 8, 9, 10, 11, 12, 13], none), (16, [0, 1, 2, 3, 4, 5, 6, 7, 8, 9, 10, 11, 12, 13, 14, 15], none), (17, [0, 5, 6, 7, 8, 9, 10, 11, 12, 13], none), (18, [0, 5, 6, 7, 8, 9, 10, 11, 12, 13], none), (19, [0, 1, 2, 3, 4, 5, 6, 7, 8, 9, 10, 11, 12, 13, 14, 15, 16, 17, 18], none), (20, [0, 1, 2, 3, 4, 5, 6, 7, 8, 9, 10, 11, 12, 13, 14, 15, 16, 17, 18], none), (21, [0, 5, 6, 7, 8, 9, 10, 11, 12, 13], none), (22, [0], none), (23, [0, 1, 2, 3, 4, 5, 6, 7, 8, 9, 10, 11, 12, 13, 14, 15, 16, 17, 18, 19, 20, 21, 22], none), (24, [0, 1, 2, 3, 4, 5, 6, 7, 8, 9, 10, 11, 12, 13, 14, 15, 16, 17, 18, 19, 20, 21, 22], none), (25, [0, 1, 2, 3, 4, 5, 6, 7, 8, 9, 10, 11, 12, 13, 14, 15, 16, 17, 18, 19, 20, 21, 22], none), (26, [0, 1, 2, 3, 4, 5, 6, 7, 8, 9, 10, 11, 12, 13, 14, 15, 16, 17, 18, 19, 20, 21, 22], none), (27, [0], none), (28, [], none), (29, [], some [76])])]
/-- planchet/ltree.Join -/
def pl168 : List (Nat × Plan) := [(5, [(0, [], none), (1, [0], none), (2, [0, 1], none), (3, [0, 1, 2], none), (4, [0, 1, 2], none), (5, [0, 1], none), (6, [0], none), (7, [], none), (8, [], some [21])]), (7, [(0, [], none), (1, [], none), (2, [0, 1], none), (3, [0, 1, 2], none), (4, [0, 1, 2], none), (5, [0, 1], none), (6, [0, 1, 2, 3, 4, 5], none), (7, [0, 1, 2, 3, 4, 5, 6], none), (8, [0, 1, 2, 3, 4, 5, 6], none), (9, [0, 1], none), (10, [], none), (11, [], some [8])])]
/-- planchet/wots.Public$1 -/
def pl171 : List (Nat × Plan) := [(1, [(0, [], none), (1, [0], none), (2, [], none), (3, [0, 1, 2], none), (4, [0, 1, 2, 3], none), (5, [], none), (6, [], some [6])])]
/-- planchet/planchetref08.runs -/
def pl173 : List (Nat × Plan) := [(5, [(0, [], none), (1, [0], none), (2, [0, 1], none), (3, [0], none), (4, [0], none), (5, [0, 1, 2, 3, 4], none), (6, [0, 1, 2, 3, 4, 5], none), (7, [0, 1, 2, 3, 4], none), (8, [0, 1, 2, 3, 4], none), (9, [0, 1, 2, 3, 4, 5, 6, 7, 8], none), (10, [0, 1, 2, 3, 4, 5, 6, 7, 8, 9], none), (11, [0, 1, 2, 3, 4, 5, 6, 7, 8], none), (12, [0, 1, 2, 3, 4, 5, 6, 7, 8], none), (13, [0, 1, 2, 3, 4, 5, 6, 7, 8, 9, 10, 11, 12], none), (14, [0, 1, 2, 3, 4, 5, 6, 7, 8, 9, 10, 11, 12, 13], none), (15, [0, 1, 2, 3, 4, 5, 6, 7, 8, 9, 10, 11, 12], none), (16, [0, 1, 2, 3, 4, 5, 6, 7, 8, 9, 10, 11, 12], none), (17, [0, 1, 2, 3, 4, 5, 6, 7, 8], none), (18, [0, 1, 2, 3, 4, 5, 6, 7, 8, 9, 10, 11, 12, 13, 14, 15, 16, 17], none), (19, [0, 1, 2, 3, 4, 5, 6, 7, 8, 9, 10, 11, 12, 13, 14, 15, 16, 17, 18], none), (20, [0, 1, 2, 3, 4, 5, 6, 7, 8, 9, 10, 11, 12, 13, 14, 15, 16, 17, 18, 19], none), (21, [0, 1, 2, 3, 4, 5, 6, 7, 8, 9, 10, 11, 12, 13, 14, 15, 16, 17, 18, 19], none), (22, [0, 1, 2, 3, 4, 5, 6, 7, 8, 9, 10, 11, 12, 13, 14, 15, 16, 17, 18], none), (23, [0], none), (24, [0], none), (25, [], some [17]), (26, [], none)])]
/-- planchet/planchetref08.Secret -/
def pl174 : List (Nat × Plan) := [(5, [(0, [], none), (1, [0], none), (2, [0, 1], none), (3, [0, 1, 2], none), (4, [0, 1, 2], none), (5, [0, 1], none), (6, [0], none), (7, [0], none), (8, [], some [11]), (9, [], none)])]
/-- planchet/planchetref09.up -/
def pl176 : List (Nat × Plan) := [(7, [(0, [], none), (1, [0], none), (2, [0, 1], none), (3, [0], none), (4, [0], none), (5, [0, 1, 2, 3, 4], none), (6, [0, 1, 2, 3, 4, 5], none), (7, [0, 1, 2, 3, 4, 5], none), (8, [0, 1, 2, 3, 4], none), (9, [0, 1, 2, 3, 4], none), (10, [0, 1, 2, 3, 4, 5, 6, 7, 8, 9], none), (11, [0, 1, 2, 3, 4, 5, 6, 7, 8, 9, 10], none), (12, [0, 1, 2, 3, 4, 5, 6, 7, 8, 9, 10, 11], none), (13, [0, 1, 2, 3, 4, 5, 6, 7, 8, 9, 10, 11, 12], none), (14, [0, 1, 2, 3, 4, 5, 6, 7, 8, 9, 10, 11, 12], none), (15, [0, 1, 2, 3, 4, 5, 6, 7, 8, 9, 10, 11, 12], none), (16, [0, 1, 2, 3, 4, 5, 6, 7, 8, 9, 10], none), (17, [0], none), (18, [0], none), (19, [], some [24]), (20, [], none)])]
/-- planchet/planchetref05.At -/
def pl177 : List (Nat × Plan) := [(1, [(0, [], none), (1, [0], none), (2, [0], none), (3, [], none), (4, [], some [4])])]
/-- planchet/planchetref05.H -/
def pl178 : List (Nat × Plan) := [(1, [(1, [], none), (2, [1], none), (3, [], some [8]), (4, [1, 2, 3], none), (5, [], some [10]), (0, [1, 2, 3, 4, 5], none), (6, [], none), (7, [], some [6])])]
/-- planchet/planchetref05.Mask -/
def pl179 : List (Nat × Plan) := [(5, [(0, [], none), (1, [0], none), (2, [0], none), (3, [0], none), (4, [0, 1, 2, 3], none), (5, [0, 1, 2, 3], none), (6, [0, 1, 2, 3], none), (7, [0], none), (8, [], none), (9, [], some [19])])]
/-- slices.insertionSortCmpFunc[planchet/ptree.Entry] -/
def pl180 : List (Nat × Plan) := [(4, [(0, [], none), (1, [0], none), (2, [], none), (3, [], none), (4, [], none), (5, [4], none), (6, [4, 5], none), (7, [4], none), (8, [4], none), (9, [4, 5, 6, 7, 8], none), (10, [4, 5, 6, 7, 8, 9], none), (11, [4, 5, 6, 7, 8, 9], none), (12, [4, 5, 6, 7, 8], none), (13, [4, 5, 6, 7, 8], none), (14, [], none), (15, [], none), (16, [], none)]), (6, [(0, [], none), (1, [0], none), (5, [0, 1], none), (6, [0, 1, 5], none), (7, [0, 1, 5], none), (8, [0, 1], none), (9, [0, 1], none), (10, [0, 1, 5, 6, 7, 8, 9], none), (11, [0, 1, 5, 6, 7, 8, 9, 10], none), (12, [0, 1, 5, 6, 7, 8, 9], none), (13, [0, 1, 5, 6, 7, 8, 9], none), (14, [], none), (15, [], some [51]), (2, [0, 1, 5, 6, 7, 8, 9, 10, 11, 12, 13, 14, 15], none), (3, [0, 1, 5, 6, 7, 8, 9, 10, 11, 12, 13, 14, 15, 2], none), (4, [0, 1, 5, 6, 7, 8, 9, 10, 11, 12, 13, 14, 15, 2], none), (16, [], none), (17, [], some [52])])]
/-- slices.heapSortCmpFunc[planchet/ptree.Entry] -/
def pl181 : List (Nat × Plan) := [(10, [(0, [], none), (1, [0], none), (6, [0, 1], none), (7, [0, 1, 6], none), (8, [0, 1, 6, 7], none), (9, [0, 1, 6], none), (10, [0, 1], none), (11, [0, 1], none), (12, [0, 1, 6, 7, 8, 9, 10, 11], none), (13, [0, 1, 6, 7, 8, 9, 10, 11, 12], none), (14, [0, 1, 6, 7, 8, 9, 10, 11], none), (15, [0, 1, 6, 7, 8, 9, 10, 11], none), (16, [], none), (17, [], some [52]), (2, [0, 1, 6, 7, 8, 9, 10, 11, 12, 13, 14, 15, 16, 17], none), (3, [0, 1, 6, 7, 8, 9, 10, 11, 12, 13, 14, 15, 16, 17, 2], none), (4, [0, 1, 6, 7, 8, 9, 10, 11, 12, 13, 14, 15, 16, 17, 2, 3], none), (5, [0, 1, 6, 7, 8, 9, 10, 11, 12, 13, 14, 15, 16, 17, 2], none), (18, [], none), (19, [], some [53])])]
/-- slices.breakPatternsCmpFunc[planchet/ptree.Entry] -/
def pl182 : List (Nat × Plan) := [(10, [(0, [], none), (1, [0], none), (6, [0, 1], none), (7, [0, 1, 6], none), (8, [0, 1, 6, 7], none), (9, [0, 1, 6], none), (10, [0, 1], none), (11, [0, 1], none), (12, [0, 1, 6, 7, 8, 9, 10, 11], none), (13, [0, 1, 6, 7, 8, 9, 10, 11, 12], none), (14, [0, 1, 6, 7, 8, 9, 10, 11], none), (15, [0, 1, 6, 7, 8, 9, 10, 11], none), (16, [], none), (17, [], some [65]), (2, [0, 1, 6, 7, 8, 9, 10, 11, 12, 13, 14, 15, 16, 17], none), (3, [0, 1, 6, 7, 8, 9, 10, 11, 12, 13, 14, 15, 16, 17, 2], none), (4, [0, 1, 6, 7, 8, 9, 10, 11, 12, 13, 14, 15, 16, 17, 2, 3], none), (5, [0, 1, 6, 7, 8, 9, 10, 11, 12, 13, 14, 15, 16, 17, 2], none), (18, [], none), (19, [], some [66])])]
/-- slices.reverseRangeCmpFunc[planchet/ptree.Entry] -/
def pl184 : List (Nat × Plan) := [(3, [(0, [], none), (1, [0], none), (4, [0, 1], none), (5, [0, 1, 4], none), (6, [0, 1], none), (7, [0, 1], none), (8, [0, 1, 4, 5, 6, 7], none), (9, [0, 1, 4, 5, 6, 7, 8], none), (10, [0, 1, 4, 5, 6, 7], none), (11, [0, 1, 4, 5, 6, 7], none), (12, [], none), (13, [], some [28]), (2, [0, 1, 4, 5, 6, 7, 8, 9, 10, 11, 12, 13], none), (3, [0, 1, 4, 5, 6, 7, 8, 9, 10, 11, 12, 13, 2], none), (14, [], none), (15, [], some [29])])]
/-- slices.partialInsertionSortCmpFunc[planchet/ptree.Entry] -/
def pl185 : List (Nat × Plan) := [(5, [(0, [], none), (1, [0], none), (2, [], none), (3, [], none), (4, [], none), (5, [4], none), (6, [4, 5], none), (7, [4], none), (8, [4], none), (9, [4, 5, 6, 7, 8], none), (10, [4, 5, 6, 7, 8, 9], none), (11, [4, 5, 6, 7, 8, 9], none), (12, [4, 5, 6, 7, 8], none), (13, [4, 5, 6, 7, 8], none), (14, [], none), (15, [], none), (16, [], none), (17, [], none)]), (11, [(0, [], none), (1, [0], none), (5, [0, 1], none), (6, [0, 1, 5], none), (7, [0, 1, 5], none), (8, [0, 1], none), (9, [0, 1], none), (10, [0, 1, 5, 6, 7, 8, 9], none), (11, [0, 1, 5, 6, 7, 8, 9, 10], none), (12, [0, 1, 5, 6, 7, 8, 9], none), (13, [0, 1, 5, 6, 7, 8, 9], none), (14, [], none), (15, [], some [60]), (2, [0, 1, 5, 6, 7, 8, 9, 10, 11, 12, 13, 14, 15], none), (3, [0, 1, 5, 6, 7, 8, 9, 10, 11, 12, 13, 14, 15, 2], none), (4, [0, 1, 5, 6, 7, 8, 9, 10, 11, 12, 13, 14, 15, 2], none), (16, [], none), (17, [], some [61])]), (16, [(0, [], none), (1, [0], none), (2, [0, 1], none), (3, [0], none), (4, [0], none), (5, [0, 1, 2, 3, 4], none), (6, [0, 1, 2, 3, 4, 5], none), (7, [0, 1, 2, 3, 4, 5], none), (8, [0, 1, 2, 3, 4], none), (9, [0, 1, 2, 3, 4], none), (10, [], none), (11, [], none), (12, [], none)]), (17, [(0, [], none), (1, [0], none), (5, [0, 1], none), (6, [0, 1, 5], none), (7, [0, 1, 5], none), (8, [0, 1], none), (9, [0, 1], none), (10, [0, 1, 5, 6, 7, 8, 9], none), (11, [0, 1, 5, 6, 7, 8, 9, 10], none), (12, [0, 1, 5, 6, 7, 8, 9], none), (13, [0, 1, 5, 6, 7, 8, 9], none), (14, [], none), (15, [], some [99]), (2, [0, 1, 5, 6, 7, 8, 9, 10, 11, 12, 13, 14, 15], none), (3, [0, 1, 5, 6, 7, 8, 9, 10, 11, 12, 13, 14, 15, 2], none), (4, [0, 1, 5, 6, 7, 8, 9, 10, 11, 12, 13, 14, 15, 2], none), (16, [], none), (17, [], some [100])]), (22, [(0, [], none), (1, [0], none), (2, [0, 1], none), (3, [0], none), (4, [0], none), (5, [0, 1, 2, 3, 4], none), (6, [0, 1, 2, 3, 4, 5], none), (7, [0, 1, 2, 3, 4, 5], none), (8, [0, 1, 2, 3, 4], none), (9, [0, 1, 2, 3, 4], none), (10, [], none), (11, [], none), (12, [], none)]), (23, [(0, [], none), (1, [0], none), (5, [0, 1], none), (6, [0, 1, 5], none), (7, [0, 1, 5], none), (8, [0, 1], none), (9, [0, 1], none), (10, [0, 1, 5, 6, 7, 8, 9], none), (11, [0, 1, 5, 6, 7, 8, 9, 10], none), (12, [0, 1, 5, 6, 7, 8, 9], none), (13, [0, 1, 5, 6, 7, 8, 9], none), (14, [], none), (15, [], some [139]), (2, [0, 1, 5, 6, 7, 8, 9, 10, 11, 12, 13, 14, 15], none), (3, [0, 1, 5, 6, 7, 8, 9, 10, 11, 12, 13, 14, 15, 2], none), (4, [0, 1, 5, 6, 7, 8, 9, 10, 11, 12, 13, 14, 15, 2], none), (16, [], none), (17, [], some [140])])]
/-- slices.partitionEqualCmpFunc[planchet/ptree.Entry] -/
def pl186 : List (Nat × Plan) := [(1, [(0, [], none), (1, [0], none), (4, [0, 1], none), (5, [0, 1, 4], none), (6, [0, 1], none), (7, [0, 1], none), (8, [0, 1, 4, 5, 6, 7], none), (9, [0, 1, 4, 5, 6, 7, 8], none), (10, [0, 1, 4, 5, 6, 7], none), (11, [0, 1, 4, 5, 6, 7], none), (12, [], none), (13, [], some [25]), (2, [0, 1, 4, 5, 6, 7, 8, 9, 10, 11, 12, 13], none), (3, [0, 1, 4, 5, 6, 7, 8, 9, 10, 11, 12, 13, 2], none), (14, [], none), (15, [], some [26])]), (3, [(0, [], none), (1, [0], none), (2, [], none), (3, [], none), (4, [], none), (5, [4], none), (6, [4, 5], none), (7, [4], none), (8, [4], none), (9, [4, 5, 6, 7, 8], none), (10, [4, 5, 6, 7, 8, 9], none), (11, [4, 5, 6, 7, 8], none), (12, [4, 5, 6, 7, 8], none), (13, [], none), (14, [], none), (15, [], none), (16, [], none)]), (5, [(0, [], none), (1, [0], none), (2, [], none), (3, [], none), (4, [], none), (5, [4], none), (6, [4, 5], none), (7, [4], none), (8, [4], none), (9, [4, 5, 6, 7, 8], none), (10, [4, 5, 6, 7, 8, 9], none), (11, [4, 5, 6, 7, 8], none), (12, [4, 5, 6, 7, 8], none), (13, [], none), (14, [], none), (15, [], none)]), (8, [(0, [], none), (1, [0], none), (4, [0, 1], none), (5, [0, 1, 4], none), (6, [0, 1], none), (7, [0, 1], none), (8, [0, 1, 4, 5, 6, 7], none), (9, [0, 1, 4, 5, 6, 7, 8], none), (10, [0, 1, 4, 5, 6, 7], none), (11, [0, 1, 4, 5, 6, 7], none), (12, [], none), (13, [], some [83]), (2, [0, 1, 4, 5, 6, 7, 8, 9, 10, 11, 12, 13], none), (3, [0, 1, 4, 5, 6, 7, 8, 9, 10, 11, 12, 13, 2], none), (14, [], none), (15, [], some [84])])]
/-- slices.partitionCmpFunc[planchet/ptree.Entry] -/
def pl187 : List (Nat × Plan) := [(1, [(0, [], none), (1, [0], none), (4, [0, 1], none), (5, [0, 1, 4], none), (6, [0, 1], none), (7, [0, 1], none), (8, [0, 1, 4, 5, 6, 7], none), (9, [0, 1, 4, 5, 6, 7, 8], none), (10, [0, 1, 4, 5, 6, 7], none), (11, [0, 1, 4, 5, 6, 7], none), (12, [], none), (13, [], some [26]), (2, [0, 1, 4, 5, 6, 7, 8, 9, 10, 11, 12, 13], none), (3, [0, 1, 4, 5, 6, 7, 8, 9, 10, 11, 12, 13, 2], none), (14, [], none), (15, [], some [27])]), (3, [(0, [], none), (1, [0], none), (2, [], none), (3, [], none), (4, [], none), (5, [4], none), (6, [4, 5], none), (7, [4], none), (8, [4], none), (9, [4, 5, 6, 7, 8], none), (10, [4, 5, 6, 7, 8, 9], none), (11, [4, 5, 6, 7, 8], none), (12, [4, 5, 6, 7, 8], none), (13, [], none), (14, [], none), (15, [], none)]), (5, [(0, [], none), (1, [0], none), (2, [], none), (3, [], none), (4, [], none), (5, [4], none), (6, [4, 5], none), (7, [4], none), (8, [4], none), (9, [4, 5, 6, 7, 8], none), (10, [4, 5, 6, 7, 8, 9], none), (11, [4, 5, 6, 7, 8], none), (12, [4, 5, 6, 7, 8], none), (13, [], none), (14, [], none), (15, [], none), (16, [], none)]), (8, [(0, [], none), (1, [0], none), (4, [0, 1], none), (5, [0, 1, 4], none), (6, [0, 1], none), (7, [0, 1], none), (8, [0, 1, 4, 5, 6, 7], none), (9, [0, 1, 4, 5, 6, 7, 8], none), (10, [0, 1, 4, 5, 6, 7], none), (11, [0, 1, 4, 5, 6, 7], none), (12, [], none), (13, [], some [84]), (2, [0, 1, 4, 5, 6, 7, 8, 9, 10, 11, 12, 13], none), (3, [0, 1, 4, 5, 6, 7, 8, 9, 10, 11, 12, 13, 2], none), (14, [], none), (15, [], some [85])]), (10, [(0, [], none), (1, [0], none), (4, [0, 1], none), (5, [0, 1, 4], none), (6, [0, 1], none), (7, [0, 1], none), (8, [0, 1, 4, 5, 6, 7], none), (9, [0, 1, 4, 5, 6, 7, 8], none), (10, [0, 1, 4, 5, 6, 7], none), (11, [0, 1, 4, 5, 6, 7], none), (12, [], none), (13, [], some [99]), (2, [0, 1, 4, 5, 6, 7, 8, 9, 10, 11, 12, 13], none), (3, [0, 1, 4, 5, 6, 7, 8, 9, 10, 11, 12, 13, 2], none), (14, [], none), (15, [], some [100])]), (13, [(0, [], none), (1, [0], none), (2, [], none), (3, [], none), (4, [], none), (5, [4], none), (6, [4, 5], none), (7, [4], none), (8, [4], none), (9, [4, 5, 6, 7, 8], none), (10, [4, 5, 6, 7, 8, 9], none), (11, [4, 5, 6, 7, 8], none), (12, [4, 5, 6, 7, 8], none), (13, [], none), (14, [], none), (15, [], none)]), (15, [(0, [], none), (1, [0], none), (2, [], none), (3, [], none), (4, [], none), (5, [4], none), (6, [4, 5], none), (7, [4], none), (8, [4], none), (9, [4, 5, 6, 7, 8], none), (10, [4, 5, 6, 7, 8, 9], none), (11, [4, 5, 6, 7, 8], none), (12, [4, 5, 6, 7, 8], none), (13, [], none), (14, [], none), (15, [], none), (16, [], none)]), (18, [(0, [], none), (1, [0], none), (4, [0, 1], none), (5, [0, 1, 4], none), (6, [0, 1], none), (7, [0, 1], none), (8, [0, 1, 4, 5, 6, 7], none), (9, [0, 1, 4, 5, 6, 7, 8], none), (10, [0, 1, 4, 5, 6, 7], none), (11, [0, 1, 4, 5, 6, 7], none), (12, [], none), (13, [], some [157]), (2, [0, 1, 4, 5, 6, 7, 8, 9, 10, 11, 12, 13], none), (3, [0, 1, 4, 5, 6, 7, 8, 9, 10, 11, 12, 13, 2], none), (14, [], none), (15, [], some [158])]), (21, [(0, [], none), (1, [0], none), (4, [0, 1], none), (5, [0, 1, 4], none), (6, [0, 1], none), (7, [0, 1], none), (8, [0, 1, 4, 5, 6, 7], none), (9, [0, 1, 4, 5, 6, 7, 8], none), (10, [0, 1, 4, 5, 6, 7], none), (11, [0, 1, 4, 5, 6, 7], none), (12, [], none), (13, [], some [175]), (2, [0, 1, 4, 5, 6, 7, 8, 9, 10, 11, 12, 13], none), (3, [0, 1, 4, 5, 6, 7, 8, 9, 10, 11, 12, 13, 2], none), (14, [], none), (15, [], some [176])])]
/-- planchet/keyed.H -/
def pl195 : List (Nat × Plan) := [(1, [(0, [], none), (1, [0], none), (2, [0, 1], none), (3, [0, 1, 2], none), (4, [], none), (5, [], none), (6, [], some [6])])]
/-- planchet/keyed.Mask -/
def pl196 : List (Nat × Plan) := [(4, [(0, [], none), (1, [], none), (2, [], none), (3, [0, 1, 2], none), (4, [0, 1, 2], none), (5, [0, 1, 2], none), (6, [], none), (7, [], none), (8, [], some [16])])]
/-- planchet/planchetref07.Run -/
def pl197 : List (Nat × Plan) := [(5, [(0, [], none), (1, [0], none), (2, [0, 1], none), (3, [0, 1], none), (4, [0, 1, 2, 3], none), (5, [0], none), (6, [], none), (7, [0, 1, 2, 3, 4, 5, 6], none), (8, [], some [13])]), (6, [(0, [], none), (1, [0], none), (2, [0, 1], none), (3, [0, 1], none), (4, [0, 1, 2, 3], none), (5, [0], none), (6, [], none), (7, [0, 1, 2, 3, 4, 5, 6], none), (8, [], some [14])]), (7, [(0, [], none), (1, [0], none), (2, [0, 1], none), (3, [0], none), (4, [], none), (5, [], some [10])])]
/-- planchet/planchetref05.of -/
def pl198 : List (Nat × Plan) := [(1, [(0, [], none), (1, [], none), (2, [0, 1], none), (3, [], some [9]), (4, [], none)])]
/-- slices.siftDownCmpFunc[planchet/ptree.Entry] -/
def pl200 : List (Nat × Plan) := [(3, [(0, [], none), (1, [], none), (2, [0, 1], none), (3, [], none), (4, [], none), (5, [], none), (6, [5], none), (7, [5, 6], none), (8, [5, 6, 7], none), (9, [5, 6], none), (10, [5], none), (11, [5], none), (12, [5, 6, 7, 8, 9, 10, 11], none), (13, [5, 6, 7, 8, 9, 10, 11, 12], none), (14, [5, 6, 7, 8, 9, 10, 11, 12, 13], none), (15, [5, 6, 7, 8, 9, 10, 11, 12], none), (16, [5, 6, 7, 8, 9, 10, 11, 12], none), (17, [5, 6, 7, 8, 9, 10, 11], none), (18, [5, 6, 7, 8, 9, 10, 11], none), (19, [], none), (20, [], none), (21, [], none)]), (5, [(0, [], none), (1, [0], none), (2, [0, 1], none), (3, [0, 1, 2], none), (4, [0, 1], none), (5, [0], none), (6, [0], none), (7, [0, 1, 2, 3, 4, 5, 6], none), (8, [0, 1, 2, 3, 4, 5, 6, 7], none), (9, [0, 1, 2, 3, 4, 5, 6, 7, 8], none), (10, [0, 1, 2, 3, 4, 5, 6, 7], none), (11, [0, 1, 2, 3, 4, 5, 6], none), (12, [0, 1, 2, 3, 4, 5, 6], none), (13, [], none), (14, [], none), (15, [], none)]), (6, [(0, [], none), (1, [0], none), (2, [0, 1], none), (3, [0], none), (8, [0, 1, 2, 3], none), (9, [0, 1, 2, 3, 8], none), (10, [0, 1, 2, 3, 8, 9], none), (11, [0, 1, 2, 3, 8], none), (12, [0, 1, 2, 3], none), (13, [0, 1, 2, 3], none), (14, [0, 1, 2, 3, 8, 9, 10, 11, 12, 13], none), (15, [0, 1, 2, 3, 8, 9, 10, 11, 12, 13, 14], none), (16, [0, 1, 2, 3, 8, 9, 10, 11, 12, 13, 14, 15], none), (17, [0, 1, 2, 3, 8, 9, 10, 11, 12, 13, 14], none), (18, [0, 1, 2, 3, 8, 9, 10, 11, 12, 13], none), (19, [0, 1, 2, 3, 8, 9, 10, 11, 12, 13], none), (20, [], none), (21, [], some [79]), (4, [0, 1, 2, 3, 8, 9, 10, 11, 12, 13, 14, 15, 16, 17, 18, 19, 20, 21], none), (5, [0, 1, 2, 3, 8, 9, 10, 11, 12, 13, 14, 15, 16, 17, 18, 19, 20, 21, 4], none), (6, [0, 1, 2, 3, 8, 9, 10, 11, 12, 13, 14, 15, 16, 17, 18, 19, 20, 21, 4, 5], none), (7, [0, 1, 2, 3, 8, 9, 10, 11, 12, 13, 14, 15, 16, 17, 18, 19, 20, 21, 4], none), (22, [], none), (23, [], some [80])])]
/-- (*slices.xorshift).Next -/
def pl202 : List (Nat × Plan) := [(1, [(0, [], none), (1, [], none), (2, [], none), (3, [0, 1, 2], none), (4, [0, 1, 2], none), (5, [0, 1, 2], none), (6, [0, 1, 2], none), (7, [], none), (8, [], none), (9, [], some [11])]), (2, [(0, [], none), (1, [], none), (2, [], none), (3, [0, 1, 2], none), (4, [0, 1, 2], none), (5, [0, 1, 2], none), (6, [0, 1, 2], none), (7, [], none), (8, [], none), (9, [], some [20])]), (3, [(0, [], none), (1, [], none), (2, [], none), (3, [0, 1, 2], none), (4, [0, 1, 2], none), (5, [0, 1, 2], none), (6, [0, 1, 2], none), (7, [], none), (8, [], none), (9, [], some [29])])]
/-- planchet/chain.Run$1 -/
def pl205 : List (Nat × Plan) := [(2, [(0, [], none), (1, [0], none), (2, [0], none), (3, [], none), (4, [0, 1, 2, 3], none), (5, [0, 1, 2, 3, 4], none), (6, [4], none), (7, [], none), (8, [0, 1, 2, 3, 4, 5, 6, 7], none), (9, [0, 1, 2, 3, 4, 5, 6, 7, 8], none), (10, [], some [8]), (11, [], some [9])]), (3, [(0, [], none), (1, [0], none), (2, [0, 1], none), (3, [0], none), (4, [], none), (5, [], some [6])])]
/-- planchet/keyed.F -/
def pl206 : List (Nat × Plan) := [(1, [(0, [], none), (1, [0], none), (2, [0, 1], none), (3, [], none), (4, [], none), (5, [], some [4])])]
/-- planchet/planchetref05.F -/
def pl207 : List (Nat × Plan) := [(1, [(0, [], none), (1, [0], none), (2, [], none), (3, [], some [4])])]
/-- slices.order2CmpFunc[planchet/ptree.Entry] -/
def pl208 : List (Nat × Plan) := [(1, [(0, [], none), (1, [0], none), (2, [0, 1], none), (3, [0], none), (4, [0], none), (5, [0, 1, 2, 3, 4], none), (6, [0, 1, 2, 3, 4, 5], none), (7, [0, 1, 2, 3, 4], none), (8, [0, 1, 2, 3, 4], none), (9, [], none), (10, [], none)])]
end Go.Proofs.YtjaailbgeadnnaaGreat
