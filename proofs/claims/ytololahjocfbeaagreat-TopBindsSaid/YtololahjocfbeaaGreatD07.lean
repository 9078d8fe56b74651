/- Texts,joined. -/
import Derived.Test.YtololahjocfbeaaGreatProg
import Derived.Test.YtololahjocfbeaaGreatD06
namespace Go.Proofs.YtololahjocfbeaaGreat
open Go Go.Sy Go.Proofs.Tryz
set_option maxRecDepth 100000
theorem mix : Tryz.prog.follows .mixedOrders = true:=by kernel_rfl
theorem ty3 (K : Ty → Prop) : tyC Tryz.prog 3 K = K (.int .i64):=tyC_of (by kernel_rfl) K
theorem by3 (K : Nat → Prop) : byC Tryz.prog 3 K = K 8:=byC_of (by kernel_rfl) K
theorem ty4 (K : Ty → Prop) : tyC Tryz.prog 4 K = K .bool:=tyC_of (by kernel_rfl) K
theorem ty5 (K : Ty → Prop) : tyC Tryz.prog 5 K = K (.int .u8):=tyC_of (by kernel_rfl) K
theorem by5 (K : Nat → Prop) : byC Tryz.prog 5 K = K 1:=byC_of (by kernel_rfl) K
theorem ty9 (K : Ty → Prop) : tyC Tryz.prog 9 K = K .str:=tyC_of (by kernel_rfl) K
theorem ty23 (K : Ty → Prop) : tyC Tryz.prog 23 K = K (.st [(.int .i64),(.int .i64)]):=tyC_of (by kernel_rfl) K
theorem ty25 (K : Ty → Prop) : tyC Tryz.prog 25 K = K (.arr 32 5 (.int .u8)):=tyC_of (by kernel_rfl) K
theorem by25 (K : Nat → Prop) : byC Tryz.prog 25 K = K 32:=byC_of (by kernel_rfl) K
theorem ty27 (K : Ty → Prop) : tyC Tryz.prog 27 K = K (.st [(.st [(.int .i64),(.int .i64)]),(.int .i64),(.arr 32 5 (.int .u8)),(.arr 32 5 (.int .u8))]):=tyC_of (by kernel_rfl) K
theorem ty28 (K : Ty → Prop) : tyC Tryz.prog 28 K = K (.slice 52):=tyC_of (by kernel_rfl) K
theorem ty30 (K : Ty → Prop) : tyC Tryz.prog 30 K = K .func:=tyC_of (by kernel_rfl) K
theorem ty31 (K : Ty → Prop) : tyC Tryz.prog 31 K = K (.ptr 119):=tyC_of (by kernel_rfl) K
theorem ty32 (K : Ty → Prop) : tyC Tryz.prog 32 K = K (.slice 3):=tyC_of (by kernel_rfl) K
theorem ty37 (K : Ty → Prop) : tyC Tryz.prog 37 K = K (.slice 44):=tyC_of (by kernel_rfl) K
theorem ty39 (K : Ty → Prop) : tyC Tryz.prog 39 K = K (.slice 176):=tyC_of (by kernel_rfl) K
theorem ty41 (K : Ty → Prop) : tyC Tryz.prog 41 K = K (.st [(.int .i64),(.arr 32 5 (.int .u8)),(.slice 176)]):=tyC_of (by kernel_rfl) K
theorem ty42 (K : Ty → Prop) : tyC Tryz.prog 42 K = K (.slice 5):=tyC_of (by kernel_rfl) K
theorem by42 (K : Nat → Prop) : byC Tryz.prog 42 K = K 24:=byC_of (by kernel_rfl) K
theorem ty44 (K : Ty → Prop) : tyC Tryz.prog 44 K = K (.st [(.int .i64),(.slice 5),(.st [(.int .i64),(.arr 32 5 (.int .u8)),(.slice 176)])]):=tyC_of (by kernel_rfl) K
theorem by44 (K : Nat → Prop) : byC Tryz.prog 44 K = K 96:=byC_of (by kernel_rfl) K
theorem ty52 (K : Ty → Prop) : tyC Tryz.prog 52 K = K (.st [(.int .i64),(.int .i64),(.slice 5),(.slice 5),(.slice 3)]):=tyC_of (by kernel_rfl) K
theorem ty53 (K : Ty → Prop) : tyC Tryz.prog 53 K = K (.ptr 135):=tyC_of (by kernel_rfl) K
theorem ty62 (K : Ty → Prop) : tyC Tryz.prog 62 K = K (.ptr 140):=tyC_of (by kernel_rfl) K
theorem ty64 (K : Ty → Prop) : tyC Tryz.prog 64 K = K (.ptr 143):=tyC_of (by kernel_rfl) K
theorem ty72 (K : Ty → Prop) : tyC Tryz.prog 72 K = K (.st [(.int .i64),(.int .i64),(.arr 32 5 (.int .u8)),(.arr 32 5 (.int .u8))]):=tyC_of (by kernel_rfl) K
theorem ty80 (K : Ty → Prop) : tyC Tryz.prog 80 K = K (.st [(.st [(.int .i64),(.int .i64)]),(.arr 32 5 (.int .u8)),(.arr 32 5 (.int .u8))]):=tyC_of (by kernel_rfl) K
theorem ty85 (K : Ty → Prop) : tyC Tryz.prog 85 K = K (.slice 94):=tyC_of (by kernel_rfl) K
theorem ty86 (K : Ty → Prop) : tyC Tryz.prog 86 K = K (.slice 25):=tyC_of (by kernel_rfl) K
theorem ty88 (K : Ty → Prop) : tyC Tryz.prog 88 K = K (.st [(.arr 32 5 (.int .u8)),(.slice 25)]):=tyC_of (by kernel_rfl) K
theorem ty90 (K : Ty → Prop) : tyC Tryz.prog 90 K = K (.st [(.slice 94),(.arr 32 5 (.int .u8)),(.st [(.arr 32 5 (.int .u8)),(.slice 25)])]):=tyC_of (by kernel_rfl) K
theorem ty94 (K : Ty → Prop) : tyC Tryz.prog 94 K = K (.st [(.int .i64),(.slice 5),(.arr 32 5 (.int .u8)),(.arr 32 5 (.int .u8)),(.st [(.arr 32 5 (.int .u8)),(.slice 25)])]):=tyC_of (by kernel_rfl) K
theorem ty106 (K : Ty → Prop) : tyC Tryz.prog 106 K = K (.st [.bool,(.arr 32 5 (.int .u8)),(.st [(.arr 32 5 (.int .u8)),(.slice 25)])]):=tyC_of (by kernel_rfl) K
theorem ty117 (K : Ty → Prop) : tyC Tryz.prog 117 K = K (.slice 42):=tyC_of (by kernel_rfl) K
theorem ty119 (K : Ty → Prop) : tyC Tryz.prog 119 K = K (.st [(.st [(.st [(.int .i64),(.int .i64)]),(.int .i64),(.arr 32 5 (.int .u8)),(.arr 32 5 (.int .u8))]),(.ptr 143),(.ptr 140),(.ptr 135),(.slice 42),(.slice 44)]):=tyC_of (by kernel_rfl) K
theorem ty121 (K : Ty → Prop) : tyC Tryz.prog 121 K = K .func:=tyC_of (by kernel_rfl) K
theorem ty124 (K : Ty → Prop) : tyC Tryz.prog 124 K = K (.map 3 121):=tyC_of (by kernel_rfl) K
theorem ty125 (K : Ty → Prop) : tyC Tryz.prog 125 K = K (.slice 153):=tyC_of (by kernel_rfl) K
theorem ty126 (K : Ty → Prop) : tyC Tryz.prog 126 K = K (.slice 229):=tyC_of (by kernel_rfl) K
theorem ty127 (K : Ty → Prop) : tyC Tryz.prog 127 K = K (.map 9 149):=tyC_of (by kernel_rfl) K
theorem ty128 (K : Ty → Prop) : tyC Tryz.prog 128 K = K (.map 9 117):=tyC_of (by kernel_rfl) K
theorem ty130 (K : Ty → Prop) : tyC Tryz.prog 130 K = K (.st [(.arr 32 5 (.int .u8)),(.slice 153),(.slice 229),(.map 9 149),(.map 9 117)]):=tyC_of (by kernel_rfl) K
theorem ty131 (K : Ty → Prop) : tyC Tryz.prog 131 K = K (.ptr 216):=tyC_of (by kernel_rfl) K
theorem ty132 (K : Ty → Prop) : tyC Tryz.prog 132 K = K (.ptr 295):=tyC_of (by kernel_rfl) K
theorem ty133 (K : Ty → Prop) : tyC Tryz.prog 133 K = K (.slice 149):=tyC_of (by kernel_rfl) K
theorem ty135 (K : Ty → Prop) : tyC Tryz.prog 135 K = K (.st [(.st [(.arr 32 5 (.int .u8)),(.slice 153),(.slice 229),(.map 9 149),(.map 9 117)]),(.st [(.st [(.int .i64),(.int .i64)]),(.int .i64),(.arr 32 5 (.int .u8)),(.arr 32 5 (.int .u8))]),(.ptr 143),(.ptr 216),(.ptr 295),(.int .i64),(.slice 149),.bool]):=tyC_of (by kernel_rfl) K
theorem ty138 (K : Ty → Prop) : tyC Tryz.prog 138 K = K (.st [(.int .i64),(.int .i64),(.int .i64)]):=tyC_of (by kernel_rfl) K
theorem ty140 (K : Ty → Prop) : tyC Tryz.prog 140 K = K (.st [(.st [(.int .i64),(.int .i64),(.int .i64)])]):=tyC_of (by kernel_rfl) K
theorem ty141 (K : Ty → Prop) : tyC Tryz.prog 141 K = K (.slice 201):=tyC_of (by kernel_rfl) K
theorem ty143 (K : Ty → Prop) : tyC Tryz.prog 143 K = K (.st [(.int .i64),(.slice 5),(.slice 201),.bool,.bool,(.int .i64),(.slice 3)]):=tyC_of (by kernel_rfl) K
theorem ty149 (K : Ty → Prop) : tyC Tryz.prog 149 K = K (.st [.str,(.int .i64),(.slice 5)]):=tyC_of (by kernel_rfl) K
theorem by149 (K : Nat → Prop) : byC Tryz.prog 149 K = K 48:=byC_of (by kernel_rfl) K
theorem ty153 (K : Ty → Prop) : tyC Tryz.prog 153 K = K (.st [(.int .i64),(.int .i64),(.slice 149),(.arr 32 5 (.int .u8))]):=tyC_of (by kernel_rfl) K
theorem by153 (K : Nat → Prop) : byC Tryz.prog 153 K = K 72:=byC_of (by kernel_rfl) K
theorem ty166 (K : Ty → Prop) : tyC Tryz.prog 166 K = K (.st [(.slice 5)]):=tyC_of (by kernel_rfl) K
theorem ty172 (K : Ty → Prop) : tyC Tryz.prog 172 K = K (.st [(.arr 32 5 (.int .u8)),(.arr 32 5 (.int .u8)),(.arr 32 5 (.int .u8))]):=tyC_of (by kernel_rfl) K
theorem ty176 (K : Ty → Prop) : tyC Tryz.prog 176 K = K (.st [(.slice 25),(.slice 25)]):=tyC_of (by kernel_rfl) K
theorem by176 (K : Nat → Prop) : byC Tryz.prog 176 K = K 48:=byC_of (by kernel_rfl) K
theorem ty187 (K : Ty → Prop) : tyC Tryz.prog 187 K = K .func:=tyC_of (by kernel_rfl) K
theorem ty201 (K : Ty → Prop) : tyC Tryz.prog 201 K = K (.st [(.int .i64),(.slice 5)]):=tyC_of (by kernel_rfl) K
theorem by201 (K : Nat → Prop) : byC Tryz.prog 201 K = K 32:=byC_of (by kernel_rfl) K
theorem ty212 (K : Ty → Prop) : tyC Tryz.prog 212 K = K (.st [(.int .i64),(.int .i64),.str]):=tyC_of (by kernel_rfl) K
theorem ty214 (K : Ty → Prop) : tyC Tryz.prog 214 K = K (.st [(.int .i64),(.int .i64),(.int .i64),(.st [(.int .i64),(.int .i64),.str])]):=tyC_of (by kernel_rfl) K
theorem ty216 (K : Ty → Prop) : tyC Tryz.prog 216 K = K (.st [(.st [(.int .i64),(.int .i64),(.int .i64),(.st [(.int .i64),(.int .i64),.str])]),(.ptr 295),(.ptr 140),(.int .i64),(.int .i64),(.int .i64),.bool]):=tyC_of (by kernel_rfl) K
theorem ty218 (K : Ty → Prop) : tyC Tryz.prog 218 K = K (.int .u64):=tyC_of (by kernel_rfl) K
theorem ty225 (K : Ty → Prop) : tyC Tryz.prog 225 K = K (.st [(.slice 25)]):=tyC_of (by kernel_rfl) K
theorem ty229 (K : Ty → Prop) : tyC Tryz.prog 229 K = K (.st [(.arr 32 5 (.int .u8)),(.arr 32 5 (.int .u8))]):=tyC_of (by kernel_rfl) K
theorem by229 (K : Nat → Prop) : byC Tryz.prog 229 K = K 64:=byC_of (by kernel_rfl) K
theorem ty241 (K : Ty → Prop) : tyC Tryz.prog 241 K = K (.int .u32):=tyC_of (by kernel_rfl) K
theorem by241 (K : Nat → Prop) : byC Tryz.prog 241 K = K 4:=byC_of (by kernel_rfl) K
theorem ty257 (K : Ty → Prop) : tyC Tryz.prog 257 K = K (.slice 241):=tyC_of (by kernel_rfl) K
theorem ty276 (K : Ty → Prop) : tyC Tryz.prog 276 K = K (.st [(.int .u32),(.int .u64),(.int .i64)]):=tyC_of (by kernel_rfl) K
theorem ty278 (K : Ty → Prop) : tyC Tryz.prog 278 K = K (.st [(.st [(.int .u32),(.int .u64),(.int .i64)]),(.st [(.int .i64),(.int .i64)])]):=tyC_of (by kernel_rfl) K
theorem ty281 (K : Ty → Prop) : tyC Tryz.prog 281 K = K (.arr 8 241 (.int .u32)):=tyC_of (by kernel_rfl) K
theorem ty282 (K : Ty → Prop) : tyC Tryz.prog 282 K = K (.arr 8 241 (.int .u32)):=tyC_of (by kernel_rfl) K
theorem ty295 (K : Ty → Prop) : tyC Tryz.prog 295 K = K (.st [(.ptr 143),(.int .i64),(.int .i64),(.slice 5),.bool]):=tyC_of (by kernel_rfl) K
theorem ty305 (K : Ty → Prop) : tyC Tryz.prog 305 K = K (.int .u64):=tyC_of (by kernel_rfl) K
theorem ty306 (K : Ty → Prop) : tyC Tryz.prog 306 K = K (.map 25 4):=tyC_of (by kernel_rfl) K
theorem ty321 (K : Ty → Prop) : tyC Tryz.prog 321 K = K (.st [(.arr 32 5 (.int .u8)),(.int .u32),(.int .u64)]):=tyC_of (by kernel_rfl) K
theorem ty322 (K : Ty → Prop) : tyC Tryz.prog 322 K = K (.slice 328):=tyC_of (by kernel_rfl) K
theorem ty324 (K : Ty → Prop) : tyC Tryz.prog 324 K = K (.st [(.st [(.arr 32 5 (.int .u8)),(.int .u32),(.int .u64)]),(.slice 328),(.int .i64),(.slice 25)]):=tyC_of (by kernel_rfl) K
theorem ty328 (K : Ty → Prop) : tyC Tryz.prog 328 K = K (.st [(.arr 32 5 (.int .u8)),(.int .i64),(.int .i64)]):=tyC_of (by kernel_rfl) K
theorem by328 (K : Nat → Prop) : byC Tryz.prog 328 K = K 48:=byC_of (by kernel_rfl) K
theorem ty335 (K : Ty → Prop) : tyC Tryz.prog 335 K = K (.slice 30):=tyC_of (by kernel_rfl) K
theorem ty339 (K : Ty → Prop) : tyC Tryz.prog 339 K = K (.ptr 370):=tyC_of (by kernel_rfl) K
theorem ty344 (K : Ty → Prop) : tyC Tryz.prog 344 K = K (.arr 67 3 (.int .i64)):=tyC_of (by kernel_rfl) K
theorem ty353 (K : Ty → Prop) : tyC Tryz.prog 353 K = K (.slice 355):=tyC_of (by kernel_rfl) K
theorem ty355 (K : Ty → Prop) : tyC Tryz.prog 355 K = K (.st [(.arr 32 5 (.int .u8)),(.int .i64)]):=tyC_of (by kernel_rfl) K
theorem by355 (K : Nat → Prop) : byC Tryz.prog 355 K = K 40:=byC_of (by kernel_rfl) K
theorem ty358 (K : Ty → Prop) : tyC Tryz.prog 358 K = K (.arr 5 3 (.int .i64)):=tyC_of (by kernel_rfl) K
theorem ty370 (K : Ty → Prop) : tyC Tryz.prog 370 K = K (.st [(.arr 8 241 (.int .u32)),(.slice 5),(.int .i64)]):=tyC_of (by kernel_rfl) K
theorem ty373 (K : Ty → Prop) : tyC Tryz.prog 373 K = K (.arr 3 25 (.arr 32 5 (.int .u8))):=tyC_of (by kernel_rfl) K
theorem ty392 (K : Ty → Prop) : tyC Tryz.prog 392 K = K (.arr 64 241 (.int .u32)):=tyC_of (by kernel_rfl) K
attribute [go_sem ↓] ty3 by3 ty4 ty5 by5 ty9 ty23 ty25 by25 ty27 ty28 ty30 ty31 ty32 ty37 ty39 ty41 ty42 by42 ty44 by44 ty52 ty53 ty62 ty64 ty72 ty80 ty85 ty86 ty88 ty90 ty94 ty106 ty117 ty119 ty121 ty124 ty125 ty126 ty127 ty128 ty130 ty131 ty132 ty133 ty135 ty138 ty140 ty141 ty143 ty149 by149 ty153 by153 ty166 ty172 ty176 by176 ty187 ty201 by201 ty212 ty214 ty216 ty218 ty225 ty229 by229 ty241 by241 ty257 ty276 ty278 ty281 ty282 ty295 ty305 ty306 ty321 ty322 ty324 ty328 by328 ty335 ty339 ty344 ty353 ty355 by355 ty358 ty370 ty373 ty392
end Go.Proofs.YtololahjocfbeaaGreat

