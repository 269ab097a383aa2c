/- A part of the proof: a verified reading of the model by values alone, and what is shown by it. It holds without conditions. -/
import Derived.Test.YtjmgcdbefkojjaaGreatDoorAvSimp2
import Derived.Test.YtjmgcdbefkojjaaGreatDoorProg
namespace Go.Proofs.YtjmgcdbefkojjaaGreatDoor
open Go Go.Av
set_option maxRecDepth 1000000
@[simp] theorem sz_3 : szOf Tryz.prog 3 = some 1 := by kernel_rfl
@[simp] theorem sz_4 : szOf Tryz.prog 4 = some 1 := by kernel_rfl
@[simp] theorem sz_5 : szOf Tryz.prog 5 = some 1 := by kernel_rfl
@[simp] theorem sz_9 : szOf Tryz.prog 9 = some 1 := by kernel_rfl
@[simp] theorem sz_21 : szOf Tryz.prog 21 = some 1 := by kernel_rfl
@[simp] theorem sz_22 : szOf Tryz.prog 22 = some 1 := by kernel_rfl
@[simp] theorem sz_24 : szOf Tryz.prog 24 = some 3 := by kernel_rfl
@[simp] theorem sz_25 : szOf Tryz.prog 25 = some 1 := by kernel_rfl
@[simp] theorem sz_26 : szOf Tryz.prog 26 = some 1 := by kernel_rfl
@[simp] theorem sz_28 : szOf Tryz.prog 28 = some 10 := by kernel_rfl
@[simp] theorem sz_30 : szOf Tryz.prog 30 = some 1 := by kernel_rfl
@[simp] theorem sz_31 : szOf Tryz.prog 31 = some 1 := by kernel_rfl
@[simp] theorem sz_38 : szOf Tryz.prog 38 = some 1 := by kernel_rfl
@[simp] theorem sz_39 : szOf Tryz.prog 39 = some 1 := by kernel_rfl
@[simp] theorem sz_41 : szOf Tryz.prog 41 = some 4 := by kernel_rfl
@[simp] theorem sz_49 : szOf Tryz.prog 49 = some 2 := by kernel_rfl
@[simp] theorem sz_51 : szOf Tryz.prog 51 = some 3 := by kernel_rfl
@[simp] theorem sz_54 : szOf Tryz.prog 54 = some 2 := by kernel_rfl
@[simp] theorem sz_55 : szOf Tryz.prog 55 = some 1 := by kernel_rfl
@[simp] theorem sz_59 : szOf Tryz.prog 59 = some 1 := by kernel_rfl
@[simp] theorem sz_68 : szOf Tryz.prog 68 = some 3 := by kernel_rfl
@[simp] theorem sz_90 : szOf Tryz.prog 90 = some 4 := by kernel_rfl
@[simp] theorem sz_97 : szOf Tryz.prog 97 = some 1 := by kernel_rfl
@[simp] theorem sz_99 : szOf Tryz.prog 99 = some 2 := by kernel_rfl
@[simp] theorem sz_101 : szOf Tryz.prog 101 = some 3 := by kernel_rfl
@[simp] theorem sz_102 : szOf Tryz.prog 102 = some 1 := by kernel_rfl
@[simp] theorem sz_104 : szOf Tryz.prog 104 = some 2 := by kernel_rfl
@[simp] theorem sz_106 : szOf Tryz.prog 106 = some 10 := by kernel_rfl
@[simp] theorem sz_118 : szOf Tryz.prog 118 = some 1 := by kernel_rfl
@[simp] theorem sz_119 : szOf Tryz.prog 119 = some 1 := by kernel_rfl
@[simp] theorem sz_121 : szOf Tryz.prog 121 = some 2 := by kernel_rfl
@[simp] theorem sz_123 : szOf Tryz.prog 123 = some 2 := by kernel_rfl
@[simp] theorem sz_125 : szOf Tryz.prog 125 = some 6 := by kernel_rfl
@[simp] theorem sz_131 : szOf Tryz.prog 131 = some 1 := by kernel_rfl
@[simp] theorem sz_138 : szOf Tryz.prog 138 = some 1 := by kernel_rfl
@[simp] theorem sz_140 : szOf Tryz.prog 140 = some 1 := by kernel_rfl
@[simp] theorem sz_148 : szOf Tryz.prog 148 = some 1 := by kernel_rfl
@[simp] theorem sz_150 : szOf Tryz.prog 150 = some 3 := by kernel_rfl
@[simp] theorem sz_152 : szOf Tryz.prog 152 = some 1 := by kernel_rfl
@[simp] theorem sz_162 : szOf Tryz.prog 162 = some 1 := by kernel_rfl
@[simp] theorem sz_164 : szOf Tryz.prog 164 = some 12 := by kernel_rfl
@[simp] theorem sz_167 : szOf Tryz.prog 167 = some 4 := by kernel_rfl
@[simp] theorem sz_168 : szOf Tryz.prog 168 = some 4 := by kernel_rfl
@[simp] theorem sz_170 : szOf Tryz.prog 170 = some 4 := by kernel_rfl
@[simp] theorem sz_181 : szOf Tryz.prog 181 = some 1 := by kernel_rfl
@[simp] theorem sz_205 : szOf Tryz.prog 205 = some 2 := by kernel_rfl
@[simp] theorem sz_207 : szOf Tryz.prog 207 = some 3 := by kernel_rfl
@[simp] theorem sz_213 : szOf Tryz.prog 213 = some 1 := by kernel_rfl
@[simp] theorem sz_228 : szOf Tryz.prog 228 = some 3 := by kernel_rfl
@[simp] theorem sz_236 : szOf Tryz.prog 236 = some 1 := by kernel_rfl
@[simp] theorem sz_241 : szOf Tryz.prog 241 = some 2 := by kernel_rfl
@[simp] theorem sz_243 : szOf Tryz.prog 243 = some 2 := by kernel_rfl
@[simp] theorem sz_282 : szOf Tryz.prog 282 = some 1 := by kernel_rfl
@[simp] theorem sz_295 : szOf Tryz.prog 295 = some 1 := by kernel_rfl
@[simp] theorem sz_298 : szOf Tryz.prog 298 = some 2 := by kernel_rfl
@[simp] theorem sz_299 : szOf Tryz.prog 299 = some 3 := by kernel_rfl
@[simp] theorem sz_301 : szOf Tryz.prog 301 = some 2 := by kernel_rfl
@[simp] theorem sz_304 : szOf Tryz.prog 304 = some 2 := by kernel_rfl
@[simp] theorem sz_307 : szOf Tryz.prog 307 = some 1 := by kernel_rfl
@[simp] theorem sz_318 : szOf Tryz.prog 318 = some 1 := by kernel_rfl
@[simp] theorem sz_322 : szOf Tryz.prog 322 = some 2 := by kernel_rfl
@[simp] theorem sz_328 : szOf Tryz.prog 328 = some 1 := by kernel_rfl
@[simp] theorem sz_333 : szOf Tryz.prog 333 = some 1 := by kernel_rfl
@[simp] theorem sz_352 : szOf Tryz.prog 352 = some 0 := by kernel_rfl
@[simp] theorem sz_396 : szOf Tryz.prog 396 = some 3 := by kernel_rfl
@[simp] theorem sz_410 : szOf Tryz.prog 410 = some 1 := by kernel_rfl
@[simp] theorem sz_422 : szOf Tryz.prog 422 = some 2 := by kernel_rfl
@[simp] theorem sz_436 : szOf Tryz.prog 436 = some 1 := by kernel_rfl
@[simp] theorem sz_462 : szOf Tryz.prog 462 = some 1 := by kernel_rfl
@[simp] theorem sz_464 : szOf Tryz.prog 464 = some 4 := by kernel_rfl
@[simp] theorem sz_474 : szOf Tryz.prog 474 = some 1 := by kernel_rfl
@[simp] theorem sz_477 : szOf Tryz.prog 477 = some 1 := by kernel_rfl
@[simp] theorem sz_497 : szOf Tryz.prog 497 = some 1 := by kernel_rfl
@[simp] theorem sz_505 : szOf Tryz.prog 505 = some 1 := by kernel_rfl
@[simp] theorem sz_507 : szOf Tryz.prog 507 = some 2 := by kernel_rfl
@[simp] theorem sz_517 : szOf Tryz.prog 517 = some 1 := by kernel_rfl
@[simp] theorem ag_3 : aggT Tryz.prog 3 = some false := by kernel_rfl
@[simp] theorem ag_4 : aggT Tryz.prog 4 = some false := by kernel_rfl
@[simp] theorem ag_5 : aggT Tryz.prog 5 = some false := by kernel_rfl
@[simp] theorem ag_9 : aggT Tryz.prog 9 = some false := by kernel_rfl
@[simp] theorem ag_21 : aggT Tryz.prog 21 = some false := by kernel_rfl
@[simp] theorem ag_22 : aggT Tryz.prog 22 = some false := by kernel_rfl
@[simp] theorem ag_24 : aggT Tryz.prog 24 = some true := by kernel_rfl
@[simp] theorem ag_25 : aggT Tryz.prog 25 = some false := by kernel_rfl
@[simp] theorem ag_26 : aggT Tryz.prog 26 = some false := by kernel_rfl
@[simp] theorem ag_28 : aggT Tryz.prog 28 = some true := by kernel_rfl
@[simp] theorem ag_30 : aggT Tryz.prog 30 = some false := by kernel_rfl
@[simp] theorem ag_31 : aggT Tryz.prog 31 = some false := by kernel_rfl
@[simp] theorem ag_38 : aggT Tryz.prog 38 = some false := by kernel_rfl
@[simp] theorem ag_39 : aggT Tryz.prog 39 = some false := by kernel_rfl
@[simp] theorem ag_41 : aggT Tryz.prog 41 = some true := by kernel_rfl
@[simp] theorem ag_49 : aggT Tryz.prog 49 = some true := by kernel_rfl
@[simp] theorem ag_51 : aggT Tryz.prog 51 = some true := by kernel_rfl
@[simp] theorem ag_54 : aggT Tryz.prog 54 = some true := by kernel_rfl
@[simp] theorem ag_55 : aggT Tryz.prog 55 = some false := by kernel_rfl
@[simp] theorem ag_59 : aggT Tryz.prog 59 = some false := by kernel_rfl
@[simp] theorem ag_68 : aggT Tryz.prog 68 = some true := by kernel_rfl
@[simp] theorem ag_90 : aggT Tryz.prog 90 = some true := by kernel_rfl
@[simp] theorem ag_97 : aggT Tryz.prog 97 = some true := by kernel_rfl
@[simp] theorem ag_99 : aggT Tryz.prog 99 = some true := by kernel_rfl
@[simp] theorem ag_101 : aggT Tryz.prog 101 = some true := by kernel_rfl
@[simp] theorem ag_102 : aggT Tryz.prog 102 = some false := by kernel_rfl
@[simp] theorem ag_104 : aggT Tryz.prog 104 = some true := by kernel_rfl
@[simp] theorem ag_106 : aggT Tryz.prog 106 = some true := by kernel_rfl
@[simp] theorem ag_118 : aggT Tryz.prog 118 = some false := by kernel_rfl
@[simp] theorem ag_119 : aggT Tryz.prog 119 = some false := by kernel_rfl
@[simp] theorem ag_121 : aggT Tryz.prog 121 = some true := by kernel_rfl
@[simp] theorem ag_123 : aggT Tryz.prog 123 = some true := by kernel_rfl
@[simp] theorem ag_125 : aggT Tryz.prog 125 = some true := by kernel_rfl
@[simp] theorem ag_131 : aggT Tryz.prog 131 = some false := by kernel_rfl
@[simp] theorem ag_138 : aggT Tryz.prog 138 = some false := by kernel_rfl
@[simp] theorem ag_140 : aggT Tryz.prog 140 = some false := by kernel_rfl
@[simp] theorem ag_148 : aggT Tryz.prog 148 = some false := by kernel_rfl
@[simp] theorem ag_150 : aggT Tryz.prog 150 = some true := by kernel_rfl
@[simp] theorem ag_152 : aggT Tryz.prog 152 = some false := by kernel_rfl
@[simp] theorem ag_162 : aggT Tryz.prog 162 = some false := by kernel_rfl
@[simp] theorem ag_164 : aggT Tryz.prog 164 = some true := by kernel_rfl
@[simp] theorem ag_167 : aggT Tryz.prog 167 = some true := by kernel_rfl
@[simp] theorem ag_168 : aggT Tryz.prog 168 = some true := by kernel_rfl
@[simp] theorem ag_170 : aggT Tryz.prog 170 = some true := by kernel_rfl
@[simp] theorem ag_205 : aggT Tryz.prog 205 = some true := by kernel_rfl
@[simp] theorem ag_207 : aggT Tryz.prog 207 = some true := by kernel_rfl
@[simp] theorem ag_213 : aggT Tryz.prog 213 = some false := by kernel_rfl
@[simp] theorem ag_228 : aggT Tryz.prog 228 = some true := by kernel_rfl
@[simp] theorem ag_236 : aggT Tryz.prog 236 = some false := by kernel_rfl
@[simp] theorem ag_241 : aggT Tryz.prog 241 = some true := by kernel_rfl
@[simp] theorem ag_304 : aggT Tryz.prog 304 = some true := by kernel_rfl
@[simp] theorem ag_307 : aggT Tryz.prog 307 = some false := by kernel_rfl
@[simp] theorem ag_318 : aggT Tryz.prog 318 = some false := by kernel_rfl
@[simp] theorem ag_322 : aggT Tryz.prog 322 = some true := by kernel_rfl
@[simp] theorem ag_333 : aggT Tryz.prog 333 = some false := by kernel_rfl
@[simp] theorem ag_396 : aggT Tryz.prog 396 = some true := by kernel_rfl
@[simp] theorem ag_410 : aggT Tryz.prog 410 = some false := by kernel_rfl
@[simp] theorem ag_422 : aggT Tryz.prog 422 = some true := by kernel_rfl
@[simp] theorem ag_436 : aggT Tryz.prog 436 = some false := by kernel_rfl
@[simp] theorem ag_462 : aggT Tryz.prog 462 = some false := by kernel_rfl
@[simp] theorem ag_464 : aggT Tryz.prog 464 = some true := by kernel_rfl
@[simp] theorem ag_497 : aggT Tryz.prog 497 = some false := by kernel_rfl
@[simp] theorem ag_505 : aggT Tryz.prog 505 = some false := by kernel_rfl
@[simp] theorem ag_507 : aggT Tryz.prog 507 = some true := by kernel_rfl
@[simp] theorem ze_3 : zeroT Tryz.prog 3 = some (.int .i64 0) := by kernel_rfl
@[simp] theorem ze_4 : zeroT Tryz.prog 4 = some (.bool false) := by kernel_rfl
@[simp] theorem ze_5 : zeroT Tryz.prog 5 = some (.int .u8 0) := by kernel_rfl
@[simp] theorem ze_9 : zeroT Tryz.prog 9 = some (.string ⟨#[]⟩) := by kernel_rfl
@[simp] theorem ze_22 : zeroT Tryz.prog 22 = some (.int .u64 0) := by kernel_rfl
@[simp] theorem ze_24 : zeroT Tryz.prog 24 = some (.agg #[(.int .u64 0), (.int .i64 0), (.int .u64 0)]) := by kernel_rfl
@[simp] theorem ze_26 : zeroT Tryz.prog 26 = some (.slice none 0 0) := by kernel_rfl
@[simp] theorem ze_28 : zeroT Tryz.prog 28 = some (.agg #[(.int .i64 0), (.int .u64 0), (.string ⟨#[]⟩), (.string ⟨#[]⟩), (.int .i64 0), (.slice none 0 0), (.int .u64 0), (.int .u64 0), (.int .u64 0), (.slice none 0 0)]) := by kernel_rfl
@[simp] theorem ze_31 : zeroT Tryz.prog 31 = some (.int .i64 0) := by kernel_rfl
@[simp] theorem ze_38 : zeroT Tryz.prog 38 = some (.slice none 0 0) := by kernel_rfl
@[simp] theorem ze_41 : zeroT Tryz.prog 41 = some (.agg #[(.int .i64 0), (.int .u64 0), (.slice none 0 0), (.slice none 0 0)]) := by kernel_rfl
@[simp] theorem ze_49 : zeroT Tryz.prog 49 = some (.agg #[(.int .u64 0), (.int .u64 0)]) := by kernel_rfl
@[simp] theorem ze_51 : zeroT Tryz.prog 51 = some (.agg #[(.int .u64 0), (.int .i64 0), (.int .u64 0)]) := by kernel_rfl
@[simp] theorem ze_54 : zeroT Tryz.prog 54 = some (.agg #[(.int .u64 0), (.int .u64 0)]) := by kernel_rfl
@[simp] theorem ze_55 : zeroT Tryz.prog 55 = some (.pointer none) := by kernel_rfl
@[simp] theorem ze_68 : zeroT Tryz.prog 68 = some (.agg #[(.pointer none), (.pointer none), (.int .u64 0)]) := by kernel_rfl
@[simp] theorem ze_69 : zeroT Tryz.prog 69 = some .nilFunc := by kernel_rfl
@[simp] theorem ze_90 : zeroT Tryz.prog 90 = some (.agg #[(.int .u64 0), (.int .u64 0), (.string ⟨#[]⟩), (.int .u64 0)]) := by kernel_rfl
@[simp] theorem ze_97 : zeroT Tryz.prog 97 = some (.agg #[(.slice none 0 0)]) := by kernel_rfl
@[simp] theorem ze_99 : zeroT Tryz.prog 99 = some (.agg #[(.int .i64 0), (.string ⟨#[]⟩)]) := by kernel_rfl
@[simp] theorem ze_101 : zeroT Tryz.prog 101 = some (.agg #[(.int .i64 0), (.int .i64 0), (.slice none 0 0)]) := by kernel_rfl
@[simp] theorem ze_104 : zeroT Tryz.prog 104 = some (.agg #[(.int .i64 0), (.slice none 0 0)]) := by kernel_rfl
@[simp] theorem ze_106 : zeroT Tryz.prog 106 = some (.agg #[(.int .i64 0), (.int .i64 0), (.slice none 0 0), (.int .i64 0), (.string ⟨#[]⟩), (.int .i64 0), (.int .i64 0), (.slice none 0 0), (.int .i64 0), (.slice none 0 0)]) := by kernel_rfl
@[simp] theorem ze_115 : zeroT Tryz.prog 115 = some (.agg #[(.int .i64 0), (.int .i64 0), (.int .i64 0), (.int .i64 0), (.int .i64 0), (.int .i64 0), (.int .i64 0), (.int .i64 0)]) := by kernel_rfl
@[simp] theorem ze_121 : zeroT Tryz.prog 121 = some (.agg #[(.int .u64 0), (.slice none 0 0)]) := by kernel_rfl
@[simp] theorem ze_123 : zeroT Tryz.prog 123 = some (.agg #[(.int .u64 0), (.slice none 0 0)]) := by kernel_rfl
@[simp] theorem ze_125 : zeroT Tryz.prog 125 = some (.agg #[(.slice none 0 0), (.int .u64 0), (.slice none 0 0), (.int .u64 0), (.slice none 0 0), (.int .u64 0)]) := by kernel_rfl
@[simp] theorem ze_130 : zeroT Tryz.prog 130 = some (.agg #[(.int .u8 0), (.int .u8 0), (.int .u8 0), (.int .u8 0), (.int .u8 0), (.int .u8 0), (.int .u8 0), (.int .u8 0)]) := by kernel_rfl
@[simp] theorem ze_138 : zeroT Tryz.prog 138 = some .nilFunc := by kernel_rfl
@[simp] theorem ze_140 : zeroT Tryz.prog 140 = some (.slice none 0 0) := by kernel_rfl
@[simp] theorem ze_150 : zeroT Tryz.prog 150 = some (.agg #[.nilIface, (.int .i64 0), (.int .i64 0)]) := by kernel_rfl
@[simp] theorem ze_152 : zeroT Tryz.prog 152 = some .nilIface := by kernel_rfl
@[simp] theorem ze_164 : zeroT Tryz.prog 164 = some (.agg #[(.slice none 0 0), (.int .i64 0), (.int .i64 0), (.slice none 0 0), (.int .i64 0), (.string ⟨#[]⟩), (.int .i64 0), (.int .i64 0), (.slice none 0 0), (.int .i64 0), (.slice none 0 0), (.int .u64 0)]) := by kernel_rfl
@[simp] theorem ze_167 : zeroT Tryz.prog 167 = some (.agg #[(.int .u64 0), (.int .u64 0), (.int .u64 0), (.int .u64 0)]) := by kernel_rfl
@[simp] theorem ze_170 : zeroT Tryz.prog 170 = some (.agg #[(.int .u64 0), (.int .u64 0), (.int .u64 0), (.int .u64 0)]) := by kernel_rfl
@[simp] theorem ze_181 : zeroT Tryz.prog 181 = some (.agg #[(.string ⟨#[]⟩)]) := by kernel_rfl
@[simp] theorem ze_205 : zeroT Tryz.prog 205 = some (.agg #[(.string ⟨#[]⟩), (.string ⟨#[]⟩)]) := by kernel_rfl
@[simp] theorem ze_207 : zeroT Tryz.prog 207 = some (.agg #[(.int .i64 0), (.int .i64 0), (.slice none 0 0)]) := by kernel_rfl
@[simp] theorem ze_213 : zeroT Tryz.prog 213 = some (.pointer none) := by kernel_rfl
@[simp] theorem ze_216 : zeroT Tryz.prog 216 = some .nilFunc := by kernel_rfl
@[simp] theorem ze_228 : zeroT Tryz.prog 228 = some (.agg #[(.int .u64 0), (.int .u64 0), (.string ⟨#[]⟩)]) := by kernel_rfl
@[simp] theorem ze_236 : zeroT Tryz.prog 236 = some (.slice none 0 0) := by kernel_rfl
@[simp] theorem ze_241 : zeroT Tryz.prog 241 = some (.agg #[(.string ⟨#[]⟩), (.string ⟨#[]⟩)]) := by kernel_rfl
@[simp] theorem ze_243 : zeroT Tryz.prog 243 = some (.agg #[(.int .u64 0), (.int .u64 0)]) := by kernel_rfl
@[simp] theorem ze_282 : zeroT Tryz.prog 282 = some (.agg #[(.string ⟨#[]⟩)]) := by kernel_rfl
@[simp] theorem ze_295 : zeroT Tryz.prog 295 = some (.agg #[(.slice none 0 0)]) := by kernel_rfl
@[simp] theorem ze_298 : zeroT Tryz.prog 298 = some (.agg #[(.int .i64 0), (.string ⟨#[]⟩)]) := by kernel_rfl
@[simp] theorem ze_299 : zeroT Tryz.prog 299 = some (.agg #[(.int .i64 0), (.int .i64 0), (.slice none 0 0)]) := by kernel_rfl
@[simp] theorem ze_301 : zeroT Tryz.prog 301 = some (.agg #[(.int .i64 0), (.slice none 0 0)]) := by kernel_rfl
@[simp] theorem ze_304 : zeroT Tryz.prog 304 = some (.agg #[(.int .i64 0), (.int .u64 0)]) := by kernel_rfl
@[simp] theorem ze_309 : zeroT Tryz.prog 309 = some (.agg #[(.pointer none), (.slice none 0 0)]) := by kernel_rfl
@[simp] theorem ze_322 : zeroT Tryz.prog 322 = some (.agg #[(.int .u64 0), (.int .u64 0)]) := by kernel_rfl
@[simp] theorem ze_328 : zeroT Tryz.prog 328 = some (.agg #[(.string ⟨#[]⟩)]) := by kernel_rfl
@[simp] theorem ze_331 : zeroT Tryz.prog 331 = some .nilFunc := by kernel_rfl
@[simp] theorem ze_349 : zeroT Tryz.prog 349 = some (.agg #[(.int .i32 0)]) := by kernel_rfl
@[simp] theorem ze_350 : zeroT Tryz.prog 350 = some (.agg #[]) := by kernel_rfl
@[simp] theorem ze_351 : zeroT Tryz.prog 351 = some (.agg #[]) := by kernel_rfl
@[simp] theorem ze_352 : zeroT Tryz.prog 352 = some (.agg #[]) := by kernel_rfl
@[simp] theorem ze_369 : zeroT Tryz.prog 369 = some .nilIface := by kernel_rfl
@[simp] theorem ze_371 : zeroT Tryz.prog 371 = some .nilIface := by kernel_rfl
@[simp] theorem ze_372 : zeroT Tryz.prog 372 = some .nilIface := by kernel_rfl
@[simp] theorem ze_396 : zeroT Tryz.prog 396 = some (.agg #[(.pointer none), (.pointer none), (.int .u64 0)]) := by kernel_rfl
@[simp] theorem ze_410 : zeroT Tryz.prog 410 = some (.int .u64 0) := by kernel_rfl
@[simp] theorem ze_422 : zeroT Tryz.prog 422 = some (.agg #[(.int .u8 0), (.int .u8 0)]) := by kernel_rfl
@[simp] theorem ze_428 : zeroT Tryz.prog 428 = some .nilIface := by kernel_rfl
@[simp] theorem ze_436 : zeroT Tryz.prog 436 = some .nilIface := by kernel_rfl
@[simp] theorem ze_464 : zeroT Tryz.prog 464 = some (.agg #[(.int .i64 0), (.string ⟨#[]⟩), (.slice none 0 0), .nilFunc]) := by kernel_rfl
@[simp] theorem ze_474 : zeroT Tryz.prog 474 = some (.agg #[(.string ⟨#[]⟩)]) := by kernel_rfl
@[simp] theorem ze_477 : zeroT Tryz.prog 477 = some (.agg #[(.string ⟨#[]⟩)]) := by kernel_rfl
@[simp] theorem ze_507 : zeroT Tryz.prog 507 = some (.agg #[(.map none), (.int .i64 0)]) := by kernel_rfl
@[simp] theorem ze_517 : zeroT Tryz.prog 517 = some (.agg #[(.string ⟨#[]⟩)]) := by kernel_rfl
@[simp] theorem ao_9 : arrayOf Tryz.prog 9 = none := by kernel_rfl
@[simp] theorem ao_25 : arrayOf Tryz.prog 25 = none := by kernel_rfl
@[simp] theorem ao_26 : arrayOf Tryz.prog 26 = none := by kernel_rfl
@[simp] theorem ao_38 : arrayOf Tryz.prog 38 = none := by kernel_rfl
@[simp] theorem ao_39 : arrayOf Tryz.prog 39 = none := by kernel_rfl
@[simp] theorem ao_52 : arrayOf Tryz.prog 52 = none := by kernel_rfl
@[simp] theorem ao_59 : arrayOf Tryz.prog 59 = none := by kernel_rfl
@[simp] theorem ao_102 : arrayOf Tryz.prog 102 = none := by kernel_rfl
@[simp] theorem ao_115 : arrayOf Tryz.prog 115 = some (8, 3) := by kernel_rfl
@[simp] theorem ao_118 : arrayOf Tryz.prog 118 = none := by kernel_rfl
@[simp] theorem ao_119 : arrayOf Tryz.prog 119 = none := by kernel_rfl
@[simp] theorem ao_130 : arrayOf Tryz.prog 130 = some (8, 5) := by kernel_rfl
@[simp] theorem ao_131 : arrayOf Tryz.prog 131 = none := by kernel_rfl
@[simp] theorem ao_140 : arrayOf Tryz.prog 140 = none := by kernel_rfl
@[simp] theorem ao_162 : arrayOf Tryz.prog 162 = none := by kernel_rfl
@[simp] theorem ao_167 : arrayOf Tryz.prog 167 = some (4, 22) := by kernel_rfl
@[simp] theorem ao_168 : arrayOf Tryz.prog 168 = some (4, 22) := by kernel_rfl
@[simp] theorem ao_185 : arrayOf Tryz.prog 185 = none := by kernel_rfl
@[simp] theorem ao_236 : arrayOf Tryz.prog 236 = none := by kernel_rfl
@[simp] theorem ao_243 : arrayOf Tryz.prog 243 = some (2, 22) := by kernel_rfl
@[simp] theorem ao_278 : arrayOf Tryz.prog 278 = none := by kernel_rfl
@[simp] theorem ao_373 : arrayOf Tryz.prog 373 = none := by kernel_rfl
@[simp] theorem ao_420 : arrayOf Tryz.prog 420 = some (256, 5) := by kernel_rfl
@[simp] theorem ao_423 : arrayOf Tryz.prog 423 = some (16, 422) := by kernel_rfl
@[simp] theorem se_25 : sliceElem Tryz.prog 25 = some 54 := by kernel_rfl
@[simp] theorem se_26 : sliceElem Tryz.prog 26 = some 22 := by kernel_rfl
@[simp] theorem se_38 : sliceElem Tryz.prog 38 = some 3 := by kernel_rfl
@[simp] theorem se_39 : sliceElem Tryz.prog 39 = some 90 := by kernel_rfl
@[simp] theorem se_52 : sliceElem Tryz.prog 52 = some 51 := by kernel_rfl
@[simp] theorem se_59 : sliceElem Tryz.prog 59 = some 55 := by kernel_rfl
@[simp] theorem se_102 : sliceElem Tryz.prog 102 = some 304 := by kernel_rfl
@[simp] theorem se_118 : sliceElem Tryz.prog 118 = some 164 := by kernel_rfl
@[simp] theorem se_119 : sliceElem Tryz.prog 119 = some 228 := by kernel_rfl
@[simp] theorem se_131 : sliceElem Tryz.prog 131 = some 5 := by kernel_rfl
@[simp] theorem se_140 : sliceElem Tryz.prog 140 = some 205 := by kernel_rfl
@[simp] theorem se_162 : sliceElem Tryz.prog 162 = some 241 := by kernel_rfl
@[simp] theorem se_185 : sliceElem Tryz.prog 185 = some 138 := by kernel_rfl
@[simp] theorem se_236 : sliceElem Tryz.prog 236 = some 9 := by kernel_rfl
@[simp] theorem se_278 : sliceElem Tryz.prog 278 = some 436 := by kernel_rfl
@[simp] theorem se_373 : sliceElem Tryz.prog 373 = some 152 := by kernel_rfl
@[simp] theorem un_3 : Tryz.prog.underlying 3 = some (.int .i64) := by kernel_rfl
@[simp] theorem un_5 : Tryz.prog.underlying 5 = some (.int .u8) := by kernel_rfl
@[simp] theorem un_9 : Tryz.prog.underlying 9 = some .string := by kernel_rfl
@[simp] theorem un_20 : Tryz.prog.underlying 20 = some (.interface #[]) := by kernel_rfl
@[simp] theorem un_21 : Tryz.prog.underlying 21 = some (.int .i32) := by kernel_rfl
@[simp] theorem un_22 : Tryz.prog.underlying 22 = some (.int .u64) := by kernel_rfl
@[simp] theorem un_25 : Tryz.prog.underlying 25 = some (.slice 54) := by kernel_rfl
@[simp] theorem un_26 : Tryz.prog.underlying 26 = some (.slice 22) := by kernel_rfl
@[simp] theorem un_30 : Tryz.prog.underlying 30 = some (.pointer 61) := by kernel_rfl
@[simp] theorem un_31 : Tryz.prog.underlying 31 = some (.int .i64) := by kernel_rfl
@[simp] theorem un_38 : Tryz.prog.underlying 38 = some (.slice 3) := by kernel_rfl
@[simp] theorem un_39 : Tryz.prog.underlying 39 = some (.slice 90) := by kernel_rfl
@[simp] theorem un_52 : Tryz.prog.underlying 52 = some (.slice 51) := by kernel_rfl
@[simp] theorem un_55 : Tryz.prog.underlying 55 = some (.pointer 127) := by kernel_rfl
@[simp] theorem un_59 : Tryz.prog.underlying 59 = some (.slice 55) := by kernel_rfl
@[simp] theorem un_102 : Tryz.prog.underlying 102 = some (.slice 304) := by kernel_rfl
@[simp] theorem un_118 : Tryz.prog.underlying 118 = some (.slice 164) := by kernel_rfl
@[simp] theorem un_119 : Tryz.prog.underlying 119 = some (.slice 228) := by kernel_rfl
@[simp] theorem un_131 : Tryz.prog.underlying 131 = some (.slice 5) := by kernel_rfl
@[simp] theorem un_132 : Tryz.prog.underlying 132 = some (.int .u64) := by kernel_rfl
@[simp] theorem un_140 : Tryz.prog.underlying 140 = some (.slice 205) := by kernel_rfl
@[simp] theorem un_152 : Tryz.prog.underlying 152 = some (.interface #[("Error", 313)]) := by kernel_rfl
@[simp] theorem un_162 : Tryz.prog.underlying 162 = some (.slice 241) := by kernel_rfl
@[simp] theorem un_185 : Tryz.prog.underlying 185 = some (.slice 138) := by kernel_rfl
@[simp] theorem un_236 : Tryz.prog.underlying 236 = some (.slice 9) := by kernel_rfl
@[simp] theorem un_278 : Tryz.prog.underlying 278 = some (.slice 436) := by kernel_rfl
@[simp] theorem un_307 : Tryz.prog.underlying 307 = some (.pointer 309) := by kernel_rfl
@[simp] theorem un_365 : Tryz.prog.underlying 365 = some (.pointer 5) := by kernel_rfl
@[simp] theorem un_373 : Tryz.prog.underlying 373 = some (.slice 152) := by kernel_rfl
@[simp] theorem un_379 : Tryz.prog.underlying 379 = some (.int .i64) := by kernel_rfl
@[simp] theorem un_386 : Tryz.prog.underlying 386 = some (.int .u32) := by kernel_rfl
@[simp] theorem un_399 : Tryz.prog.underlying 399 = some (.int .u8) := by kernel_rfl
@[simp] theorem un_410 : Tryz.prog.underlying 410 = some (.int .u64) := by kernel_rfl
@[simp] theorem un_416 : Tryz.prog.underlying 416 = some (.map 3 350) := by kernel_rfl
@[simp] theorem un_436 : Tryz.prog.underlying 436 = some (.interface #[("aviary/scope.isSign", 1)]) := by kernel_rfl
@[simp] theorem un_505 : Tryz.prog.underlying 505 = some (.map 3 22) := by kernel_rfl
@[simp] theorem mo_70 : mapOf Tryz.prog 70 = some (3, 69) := by kernel_rfl
@[simp] theorem mo_116 : mapOf Tryz.prog 116 = some (3, 115) := by kernel_rfl
@[simp] theorem mo_218 : mapOf Tryz.prog 218 = some (3, 216) := by kernel_rfl
@[simp] theorem mo_333 : mapOf Tryz.prog 333 = some (21, 331) := by kernel_rfl
@[simp] theorem mo_416 : mapOf Tryz.prog 416 = some (3, 350) := by kernel_rfl
@[simp] theorem mo_505 : mapOf Tryz.prog 505 = some (3, 22) := by kernel_rfl
@[simp] theorem by_3 : bytesT Tryz.prog 3 = some 8 := by kernel_rfl
@[simp] theorem by_5 : bytesT Tryz.prog 5 = some 1 := by kernel_rfl
@[simp] theorem by_9 : bytesT Tryz.prog 9 = some 16 := by kernel_rfl
@[simp] theorem by_22 : bytesT Tryz.prog 22 = some 8 := by kernel_rfl
@[simp] theorem by_51 : bytesT Tryz.prog 51 = some 24 := by kernel_rfl
@[simp] theorem by_54 : bytesT Tryz.prog 54 = some 16 := by kernel_rfl
@[simp] theorem by_55 : bytesT Tryz.prog 55 = some 8 := by kernel_rfl
@[simp] theorem by_90 : bytesT Tryz.prog 90 = some 40 := by kernel_rfl
@[simp] theorem by_138 : bytesT Tryz.prog 138 = some 8 := by kernel_rfl
@[simp] theorem by_152 : bytesT Tryz.prog 152 = some 16 := by kernel_rfl
@[simp] theorem by_164 : bytesT Tryz.prog 164 = some 168 := by kernel_rfl
@[simp] theorem by_205 : bytesT Tryz.prog 205 = some 32 := by kernel_rfl
@[simp] theorem by_228 : bytesT Tryz.prog 228 = some 32 := by kernel_rfl
@[simp] theorem by_241 : bytesT Tryz.prog 241 = some 32 := by kernel_rfl
@[simp] theorem by_304 : bytesT Tryz.prog 304 = some 16 := by kernel_rfl
@[simp] theorem by_436 : bytesT Tryz.prog 436 = some 16 := by kernel_rfl
@[simp] theorem ni_9 : notIfaceT Tryz.prog 9 = true := by kernel_rfl
@[simp] theorem ni_213 : notIfaceT Tryz.prog 213 = true := by kernel_rfl
@[simp] theorem ni_282 : notIfaceT Tryz.prog 282 = true := by kernel_rfl
@[simp] theorem ni_295 : notIfaceT Tryz.prog 295 = true := by kernel_rfl
@[simp] theorem ni_298 : notIfaceT Tryz.prog 298 = true := by kernel_rfl
@[simp] theorem ni_299 : notIfaceT Tryz.prog 299 = true := by kernel_rfl
@[simp] theorem ni_301 : notIfaceT Tryz.prog 301 = true := by kernel_rfl
@[simp] theorem ni_328 : notIfaceT Tryz.prog 328 = true := by kernel_rfl
@[simp] theorem ni_349 : notIfaceT Tryz.prog 349 = true := by kernel_rfl
@[simp] theorem ni_351 : notIfaceT Tryz.prog 351 = true := by kernel_rfl
@[simp] theorem ni_352 : notIfaceT Tryz.prog 352 = true := by kernel_rfl
@[simp] theorem ni_355 : notIfaceT Tryz.prog 355 = true := by kernel_rfl
@[simp] theorem ni_369 : notIfaceT Tryz.prog 369 = false := by kernel_rfl
@[simp] theorem ni_371 : notIfaceT Tryz.prog 371 = false := by kernel_rfl
@[simp] theorem ni_372 : notIfaceT Tryz.prog 372 = false := by kernel_rfl
@[simp] theorem ni_428 : notIfaceT Tryz.prog 428 = false := by kernel_rfl
@[simp] theorem ni_439 : notIfaceT Tryz.prog 439 = true := by kernel_rfl
@[simp] theorem ni_474 : notIfaceT Tryz.prog 474 = true := by kernel_rfl
@[simp] theorem ni_477 : notIfaceT Tryz.prog 477 = true := by kernel_rfl
@[simp] theorem ni_517 : notIfaceT Tryz.prog 517 = true := by kernel_rfl
@[simp] theorem bi_24 : buildInfo Tryz.prog 24 = some ([(.atom (.int .u64 0)), (.atom (.int .i64 0)), (.atom (.int .u64 0))], [(0, 1), (1, 1), (2, 1)]) := by kernel_rfl
@[simp] theorem bi_28 : buildInfo Tryz.prog 28 = some ([(.atom (.int .i64 0)), (.atom (.int .u64 0)), (.atom (.string ⟨#[]⟩)), (.atom (.string ⟨#[]⟩)), (.atom (.int .i64 0)), (.sl [] 0 true), (.atom (.int .u64 0)), (.atom (.int .u64 0)), (.atom (.int .u64 0)), (.sl [] 0 true)], [(0, 1), (1, 1), (2, 1), (3, 1), (4, 1), (5, 1), (6, 1), (7, 1), (8, 1), (9, 1)]) := by kernel_rfl
@[simp] theorem bi_41 : buildInfo Tryz.prog 41 = some ([(.atom (.int .i64 0)), (.atom (.int .u64 0)), (.sl [] 0 true), (.sl [] 0 true)], [(0, 1), (1, 1), (2, 1), (3, 1)]) := by kernel_rfl
@[simp] theorem bi_49 : buildInfo Tryz.prog 49 = some ([(.atom (.int .u64 0)), (.atom (.int .u64 0))], [(0, 1), (1, 1)]) := by kernel_rfl
@[simp] theorem bi_51 : buildInfo Tryz.prog 51 = some ([(.atom (.int .u64 0)), (.atom (.int .i64 0)), (.atom (.int .u64 0))], [(0, 1), (1, 1), (2, 1)]) := by kernel_rfl
@[simp] theorem bi_54 : buildInfo Tryz.prog 54 = some ([(.atom (.int .u64 0)), (.atom (.int .u64 0))], [(0, 1), (1, 1)]) := by kernel_rfl
@[simp] theorem bi_61 : buildInfo Tryz.prog 61 = some ([(.atom (.int .u64 0)), (.atom (.int .u64 0)), (.sl [] 0 true), (.sl [] 0 true)], [(0, 2), (2, 1), (3, 1)]) := by kernel_rfl
@[simp] theorem bi_68 : buildInfo Tryz.prog 68 = some ([(.atom (.pointer none)), (.atom (.pointer none)), (.atom (.int .u64 0))], [(0, 1), (1, 1), (2, 1)]) := by kernel_rfl
@[simp] theorem bi_85 : buildInfo Tryz.prog 85 = some ([(.atom (.string ⟨#[]⟩))], [(0, 1)]) := by kernel_rfl
@[simp] theorem bi_87 : buildInfo Tryz.prog 87 = some ([(.atom (.string ⟨#[]⟩)), (.atom (.bool false))], [(0, 1), (1, 1)]) := by kernel_rfl
@[simp] theorem bi_90 : buildInfo Tryz.prog 90 = some ([(.atom (.int .u64 0)), (.atom (.int .u64 0)), (.atom (.string ⟨#[]⟩)), (.atom (.int .u64 0))], [(0, 1), (1, 1), (2, 1), (3, 1)]) := by kernel_rfl
@[simp] theorem bi_97 : buildInfo Tryz.prog 97 = some ([(.sl [] 0 true)], [(0, 1)]) := by kernel_rfl
@[simp] theorem bi_99 : buildInfo Tryz.prog 99 = some ([(.atom (.int .i64 0)), (.atom (.string ⟨#[]⟩))], [(0, 1), (1, 1)]) := by kernel_rfl
@[simp] theorem bi_101 : buildInfo Tryz.prog 101 = some ([(.atom (.int .i64 0)), (.atom (.int .i64 0)), (.sl [] 0 true)], [(0, 1), (1, 1), (2, 1)]) := by kernel_rfl
@[simp] theorem bi_104 : buildInfo Tryz.prog 104 = some ([(.atom (.int .i64 0)), (.sl [] 0 true)], [(0, 1), (1, 1)]) := by kernel_rfl
@[simp] theorem bi_106 : buildInfo Tryz.prog 106 = some ([(.atom (.int .i64 0)), (.atom (.int .i64 0)), (.sl [] 0 true), (.atom (.int .i64 0)), (.atom (.string ⟨#[]⟩)), (.atom (.int .i64 0)), (.atom (.int .i64 0)), (.sl [] 0 true), (.atom (.int .i64 0)), (.sl [] 0 true)], [(0, 1), (1, 1), (2, 1), (3, 2), (5, 3), (8, 2)]) := by kernel_rfl
@[simp] theorem bi_115 : buildInfo Tryz.prog 115 = some ([(.atom (.int .i64 0)), (.atom (.int .i64 0)), (.atom (.int .i64 0)), (.atom (.int .i64 0)), (.atom (.int .i64 0)), (.atom (.int .i64 0)), (.atom (.int .i64 0)), (.atom (.int .i64 0))], [(0, 1), (1, 1), (2, 1), (3, 1), (4, 1), (5, 1), (6, 1), (7, 1)]) := by kernel_rfl
@[simp] theorem bi_121 : buildInfo Tryz.prog 121 = some ([(.atom (.int .u64 0)), (.sl [] 0 true)], [(0, 1), (1, 1)]) := by kernel_rfl
@[simp] theorem bi_123 : buildInfo Tryz.prog 123 = some ([(.atom (.int .u64 0)), (.sl [] 0 true)], [(0, 1), (1, 1)]) := by kernel_rfl
@[simp] theorem bi_127 : buildInfo Tryz.prog 127 = some ([(.sl [] 0 true), (.atom (.int .u64 0)), (.sl [] 0 true), (.atom (.int .u64 0)), (.sl [] 0 true), (.atom (.int .u64 0)), (.atom (.int .u64 0)), (.atom (.int .i64 0)), (.atom (.int .u64 0)), (.atom (.int .u64 0)), (.atom (.int .u64 0))], [(0, 6), (6, 3), (9, 2)]) := by kernel_rfl
@[simp] theorem bi_150 : buildInfo Tryz.prog 150 = some ([(.atom .nilIface), (.atom (.int .i64 0)), (.atom (.int .i64 0))], [(0, 1), (1, 1), (2, 1)]) := by kernel_rfl
@[simp] theorem bi_164 : buildInfo Tryz.prog 164 = some ([(.sl [] 0 true), (.atom (.int .i64 0)), (.atom (.int .i64 0)), (.sl [] 0 true), (.atom (.int .i64 0)), (.atom (.string ⟨#[]⟩)), (.atom (.int .i64 0)), (.atom (.int .i64 0)), (.sl [] 0 true), (.atom (.int .i64 0)), (.sl [] 0 true), (.atom (.int .u64 0))], [(0, 1), (1, 10), (11, 1)]) := by kernel_rfl
@[simp] theorem bi_179 : buildInfo Tryz.prog 179 = some ([(.atom (.string ⟨#[]⟩))], [(0, 1)]) := by kernel_rfl
@[simp] theorem bi_181 : buildInfo Tryz.prog 181 = some ([(.atom (.string ⟨#[]⟩))], [(0, 1)]) := by kernel_rfl
@[simp] theorem bi_205 : buildInfo Tryz.prog 205 = some ([(.atom (.string ⟨#[]⟩)), (.atom (.string ⟨#[]⟩))], [(0, 1), (1, 1)]) := by kernel_rfl
@[simp] theorem bi_207 : buildInfo Tryz.prog 207 = some ([(.atom (.int .i64 0)), (.atom (.int .i64 0)), (.sl [] 0 true)], [(0, 3)]) := by kernel_rfl
@[simp] theorem bi_215 : buildInfo Tryz.prog 215 = some ([(.atom (.int .i64 0))], [(0, 1)]) := by kernel_rfl
@[simp] theorem bi_223 : buildInfo Tryz.prog 223 = some ([(.atom (.int .i64 0)), (.atom (.int .i64 0)), (.sl [] 0 true), (.atom (.int .i64 0)), (.atom (.string ⟨#[]⟩)), (.atom (.int .i64 0)), (.atom (.int .i64 0)), (.sl [] 0 true), (.atom (.int .i64 0)), (.sl [] 0 true)], [(0, 10)]) := by kernel_rfl
@[simp] theorem bi_228 : buildInfo Tryz.prog 228 = some ([(.atom (.int .u64 0)), (.atom (.int .u64 0)), (.atom (.string ⟨#[]⟩))], [(0, 1), (1, 1), (2, 1)]) := by kernel_rfl
@[simp] theorem bi_241 : buildInfo Tryz.prog 241 = some ([(.atom (.string ⟨#[]⟩)), (.atom (.string ⟨#[]⟩))], [(0, 1), (1, 1)]) := by kernel_rfl
@[simp] theorem bi_243 : buildInfo Tryz.prog 243 = some ([(.atom (.int .u64 0)), (.atom (.int .u64 0))], [(0, 1), (1, 1)]) := by kernel_rfl
@[simp] theorem bi_273 : buildInfo Tryz.prog 273 = some ([(.sl [] 0 true), (.sl [] 0 true)], [(0, 1), (1, 1)]) := by kernel_rfl
@[simp] theorem bi_282 : buildInfo Tryz.prog 282 = some ([(.atom (.string ⟨#[]⟩))], [(0, 1)]) := by kernel_rfl
@[simp] theorem bi_295 : buildInfo Tryz.prog 295 = some ([(.sl [] 0 true)], [(0, 1)]) := by kernel_rfl
@[simp] theorem bi_298 : buildInfo Tryz.prog 298 = some ([(.atom (.int .i64 0)), (.atom (.string ⟨#[]⟩))], [(0, 2)]) := by kernel_rfl
@[simp] theorem bi_299 : buildInfo Tryz.prog 299 = some ([(.atom (.int .i64 0)), (.atom (.int .i64 0)), (.sl [] 0 true)], [(0, 3)]) := by kernel_rfl
@[simp] theorem bi_301 : buildInfo Tryz.prog 301 = some ([(.atom (.int .i64 0)), (.sl [] 0 true)], [(0, 2)]) := by kernel_rfl
@[simp] theorem bi_304 : buildInfo Tryz.prog 304 = some ([(.atom (.int .i64 0)), (.atom (.int .u64 0))], [(0, 1), (1, 1)]) := by kernel_rfl
@[simp] theorem bi_322 : buildInfo Tryz.prog 322 = some ([(.atom (.int .u64 0)), (.atom (.int .u64 0))], [(0, 1), (1, 1)]) := by kernel_rfl
@[simp] theorem bi_328 : buildInfo Tryz.prog 328 = some ([(.atom (.string ⟨#[]⟩))], [(0, 1)]) := by kernel_rfl
@[simp] theorem bi_335 : buildInfo Tryz.prog 335 = some ([(.atom (.string ⟨#[]⟩)), (.atom (.string ⟨#[]⟩)), (.atom (.int .i64 0)), (.atom (.int .i64 0)), (.sl [] 0 true), (.atom (.map none))], [(0, 2), (2, 1), (3, 1), (4, 1), (5, 1)]) := by kernel_rfl
@[simp] theorem bi_349 : buildInfo Tryz.prog 349 = some ([(.atom (.int .i32 0))], [(0, 1)]) := by kernel_rfl
@[simp] theorem bi_350 : buildInfo Tryz.prog 350 = some ([], []) := by kernel_rfl
@[simp] theorem bi_351 : buildInfo Tryz.prog 351 = some ([], []) := by kernel_rfl
@[simp] theorem bi_352 : buildInfo Tryz.prog 352 = some ([], []) := by kernel_rfl
@[simp] theorem bi_464 : buildInfo Tryz.prog 464 = some ([(.atom (.int .i64 0)), (.atom (.string ⟨#[]⟩)), (.sl [] 0 true), (.atom .nilFunc)], [(0, 2), (2, 1), (3, 1)]) := by kernel_rfl
@[simp] theorem bi_474 : buildInfo Tryz.prog 474 = some ([(.atom (.string ⟨#[]⟩))], [(0, 1)]) := by kernel_rfl
@[simp] theorem bi_477 : buildInfo Tryz.prog 477 = some ([(.atom (.string ⟨#[]⟩))], [(0, 1)]) := by kernel_rfl
@[simp] theorem bi_507 : buildInfo Tryz.prog 507 = some ([(.atom (.map none)), (.atom (.int .i64 0))], [(0, 1), (1, 1)]) := by kernel_rfl
@[simp] theorem bi_517 : buildInfo Tryz.prog 517 = some ([(.atom (.string ⟨#[]⟩))], [(0, 1)]) := by kernel_rfl
@[simp] theorem bi_538 : buildInfo Tryz.prog 538 = some ([(.atom (.string ⟨#[]⟩))], [(0, 1)]) := by kernel_rfl
@[simp] theorem fo_24_0 : foff Tryz.prog 24 0 = some 0 := by kernel_rfl
@[simp] theorem fo_24_1 : foff Tryz.prog 24 1 = some 1 := by kernel_rfl
@[simp] theorem fo_24_2 : foff Tryz.prog 24 2 = some 2 := by kernel_rfl
@[simp] theorem fo_28_0 : foff Tryz.prog 28 0 = some 0 := by kernel_rfl
@[simp] theorem fo_28_1 : foff Tryz.prog 28 1 = some 1 := by kernel_rfl
@[simp] theorem fo_28_2 : foff Tryz.prog 28 2 = some 2 := by kernel_rfl
@[simp] theorem fo_28_3 : foff Tryz.prog 28 3 = some 3 := by kernel_rfl
@[simp] theorem fo_28_4 : foff Tryz.prog 28 4 = some 4 := by kernel_rfl
@[simp] theorem fo_28_5 : foff Tryz.prog 28 5 = some 5 := by kernel_rfl
@[simp] theorem fo_28_6 : foff Tryz.prog 28 6 = some 6 := by kernel_rfl
@[simp] theorem fo_28_7 : foff Tryz.prog 28 7 = some 7 := by kernel_rfl
@[simp] theorem fo_28_8 : foff Tryz.prog 28 8 = some 8 := by kernel_rfl
@[simp] theorem fo_28_9 : foff Tryz.prog 28 9 = some 9 := by kernel_rfl
@[simp] theorem fo_41_0 : foff Tryz.prog 41 0 = some 0 := by kernel_rfl
@[simp] theorem fo_41_1 : foff Tryz.prog 41 1 = some 1 := by kernel_rfl
@[simp] theorem fo_41_2 : foff Tryz.prog 41 2 = some 2 := by kernel_rfl
@[simp] theorem fo_41_3 : foff Tryz.prog 41 3 = some 3 := by kernel_rfl
@[simp] theorem fo_49_0 : foff Tryz.prog 49 0 = some 0 := by kernel_rfl
@[simp] theorem fo_49_1 : foff Tryz.prog 49 1 = some 1 := by kernel_rfl
@[simp] theorem fo_51_0 : foff Tryz.prog 51 0 = some 0 := by kernel_rfl
@[simp] theorem fo_51_1 : foff Tryz.prog 51 1 = some 1 := by kernel_rfl
@[simp] theorem fo_51_2 : foff Tryz.prog 51 2 = some 2 := by kernel_rfl
@[simp] theorem fo_54_0 : foff Tryz.prog 54 0 = some 0 := by kernel_rfl
@[simp] theorem fo_54_1 : foff Tryz.prog 54 1 = some 1 := by kernel_rfl
@[simp] theorem fo_61_0 : foff Tryz.prog 61 0 = some 0 := by kernel_rfl
@[simp] theorem fo_61_1 : foff Tryz.prog 61 1 = some 2 := by kernel_rfl
@[simp] theorem fo_61_2 : foff Tryz.prog 61 2 = some 3 := by kernel_rfl
@[simp] theorem fo_68_0 : foff Tryz.prog 68 0 = some 0 := by kernel_rfl
@[simp] theorem fo_68_1 : foff Tryz.prog 68 1 = some 1 := by kernel_rfl
@[simp] theorem fo_68_2 : foff Tryz.prog 68 2 = some 2 := by kernel_rfl
@[simp] theorem fo_85_0 : foff Tryz.prog 85 0 = some 0 := by kernel_rfl
@[simp] theorem fo_87_0 : foff Tryz.prog 87 0 = some 0 := by kernel_rfl
@[simp] theorem fo_87_1 : foff Tryz.prog 87 1 = some 1 := by kernel_rfl
@[simp] theorem fo_90_0 : foff Tryz.prog 90 0 = some 0 := by kernel_rfl
@[simp] theorem fo_90_1 : foff Tryz.prog 90 1 = some 1 := by kernel_rfl
@[simp] theorem fo_90_2 : foff Tryz.prog 90 2 = some 2 := by kernel_rfl
@[simp] theorem fo_90_3 : foff Tryz.prog 90 3 = some 3 := by kernel_rfl
@[simp] theorem fo_97_0 : foff Tryz.prog 97 0 = some 0 := by kernel_rfl
@[simp] theorem fo_99_0 : foff Tryz.prog 99 0 = some 0 := by kernel_rfl
@[simp] theorem fo_99_1 : foff Tryz.prog 99 1 = some 1 := by kernel_rfl
@[simp] theorem fo_101_0 : foff Tryz.prog 101 0 = some 0 := by kernel_rfl
@[simp] theorem fo_101_1 : foff Tryz.prog 101 1 = some 1 := by kernel_rfl
@[simp] theorem fo_101_2 : foff Tryz.prog 101 2 = some 2 := by kernel_rfl
@[simp] theorem fo_104_0 : foff Tryz.prog 104 0 = some 0 := by kernel_rfl
@[simp] theorem fo_104_1 : foff Tryz.prog 104 1 = some 1 := by kernel_rfl
@[simp] theorem fo_106_0 : foff Tryz.prog 106 0 = some 0 := by kernel_rfl
@[simp] theorem fo_106_1 : foff Tryz.prog 106 1 = some 1 := by kernel_rfl
@[simp] theorem fo_106_2 : foff Tryz.prog 106 2 = some 2 := by kernel_rfl
@[simp] theorem fo_106_3 : foff Tryz.prog 106 3 = some 3 := by kernel_rfl
@[simp] theorem fo_106_4 : foff Tryz.prog 106 4 = some 5 := by kernel_rfl
@[simp] theorem fo_106_5 : foff Tryz.prog 106 5 = some 8 := by kernel_rfl
@[simp] theorem fo_121_0 : foff Tryz.prog 121 0 = some 0 := by kernel_rfl
@[simp] theorem fo_121_1 : foff Tryz.prog 121 1 = some 1 := by kernel_rfl
@[simp] theorem fo_123_0 : foff Tryz.prog 123 0 = some 0 := by kernel_rfl
@[simp] theorem fo_123_1 : foff Tryz.prog 123 1 = some 1 := by kernel_rfl
@[simp] theorem fo_125_0 : foff Tryz.prog 125 0 = some 0 := by kernel_rfl
@[simp] theorem fo_125_1 : foff Tryz.prog 125 1 = some 1 := by kernel_rfl
@[simp] theorem fo_125_2 : foff Tryz.prog 125 2 = some 3 := by kernel_rfl
@[simp] theorem fo_125_3 : foff Tryz.prog 125 3 = some 5 := by kernel_rfl
@[simp] theorem fo_127_0 : foff Tryz.prog 127 0 = some 0 := by kernel_rfl
@[simp] theorem fo_127_1 : foff Tryz.prog 127 1 = some 6 := by kernel_rfl
@[simp] theorem fo_127_2 : foff Tryz.prog 127 2 = some 9 := by kernel_rfl
@[simp] theorem fo_150_0 : foff Tryz.prog 150 0 = some 0 := by kernel_rfl
@[simp] theorem fo_150_1 : foff Tryz.prog 150 1 = some 1 := by kernel_rfl
@[simp] theorem fo_150_2 : foff Tryz.prog 150 2 = some 2 := by kernel_rfl
@[simp] theorem fo_164_0 : foff Tryz.prog 164 0 = some 0 := by kernel_rfl
@[simp] theorem fo_164_1 : foff Tryz.prog 164 1 = some 1 := by kernel_rfl
@[simp] theorem fo_164_2 : foff Tryz.prog 164 2 = some 11 := by kernel_rfl
@[simp] theorem fo_170_0 : foff Tryz.prog 170 0 = some 0 := by kernel_rfl
@[simp] theorem fo_179_0 : foff Tryz.prog 179 0 = some 0 := by kernel_rfl
@[simp] theorem fo_181_0 : foff Tryz.prog 181 0 = some 0 := by kernel_rfl
@[simp] theorem fo_205_0 : foff Tryz.prog 205 0 = some 0 := by kernel_rfl
@[simp] theorem fo_205_1 : foff Tryz.prog 205 1 = some 1 := by kernel_rfl
@[simp] theorem fo_207_0 : foff Tryz.prog 207 0 = some 0 := by kernel_rfl
@[simp] theorem fo_215_0 : foff Tryz.prog 215 0 = some 0 := by kernel_rfl
@[simp] theorem fo_223_0 : foff Tryz.prog 223 0 = some 0 := by kernel_rfl
@[simp] theorem fo_228_0 : foff Tryz.prog 228 0 = some 0 := by kernel_rfl
@[simp] theorem fo_228_1 : foff Tryz.prog 228 1 = some 1 := by kernel_rfl
@[simp] theorem fo_228_2 : foff Tryz.prog 228 2 = some 2 := by kernel_rfl
@[simp] theorem fo_241_0 : foff Tryz.prog 241 0 = some 0 := by kernel_rfl
@[simp] theorem fo_241_1 : foff Tryz.prog 241 1 = some 1 := by kernel_rfl
@[simp] theorem fo_271_0 : foff Tryz.prog 271 0 = some 0 := by kernel_rfl
@[simp] theorem fo_273_0 : foff Tryz.prog 273 0 = some 0 := by kernel_rfl
@[simp] theorem fo_273_1 : foff Tryz.prog 273 1 = some 1 := by kernel_rfl
@[simp] theorem fo_295_0 : foff Tryz.prog 295 0 = some 0 := by kernel_rfl
@[simp] theorem fo_298_0 : foff Tryz.prog 298 0 = some 0 := by kernel_rfl
@[simp] theorem fo_299_0 : foff Tryz.prog 299 0 = some 0 := by kernel_rfl
@[simp] theorem fo_301_0 : foff Tryz.prog 301 0 = some 0 := by kernel_rfl
@[simp] theorem fo_304_0 : foff Tryz.prog 304 0 = some 0 := by kernel_rfl
@[simp] theorem fo_304_1 : foff Tryz.prog 304 1 = some 1 := by kernel_rfl
@[simp] theorem fo_309_0 : foff Tryz.prog 309 0 = some 0 := by kernel_rfl
@[simp] theorem fo_309_1 : foff Tryz.prog 309 1 = some 1 := by kernel_rfl
@[simp] theorem fo_322_0 : foff Tryz.prog 322 0 = some 0 := by kernel_rfl
@[simp] theorem fo_322_1 : foff Tryz.prog 322 1 = some 1 := by kernel_rfl
@[simp] theorem fo_335_0 : foff Tryz.prog 335 0 = some 0 := by kernel_rfl
@[simp] theorem fo_335_1 : foff Tryz.prog 335 1 = some 2 := by kernel_rfl
@[simp] theorem fo_335_2 : foff Tryz.prog 335 2 = some 3 := by kernel_rfl
@[simp] theorem fo_335_3 : foff Tryz.prog 335 3 = some 4 := by kernel_rfl
@[simp] theorem fo_335_4 : foff Tryz.prog 335 4 = some 5 := by kernel_rfl
@[simp] theorem fo_422_0 : foff Tryz.prog 422 0 = some 0 := by kernel_rfl
@[simp] theorem fo_422_1 : foff Tryz.prog 422 1 = some 1 := by kernel_rfl
@[simp] theorem fo_464_0 : foff Tryz.prog 464 0 = some 0 := by kernel_rfl
@[simp] theorem fo_464_1 : foff Tryz.prog 464 1 = some 2 := by kernel_rfl
@[simp] theorem fo_464_2 : foff Tryz.prog 464 2 = some 3 := by kernel_rfl
@[simp] theorem fo_507_0 : foff Tryz.prog 507 0 = some 0 := by kernel_rfl
@[simp] theorem fo_507_1 : foff Tryz.prog 507 1 = some 1 := by kernel_rfl
@[simp] theorem fp_295_0 : fput Tryz.prog 295 0 = some (0, 97) := by kernel_rfl
@[simp] theorem fp_298_0 : fput Tryz.prog 298 0 = some (0, 99) := by kernel_rfl
@[simp] theorem fp_299_0 : fput Tryz.prog 299 0 = some (0, 101) := by kernel_rfl
@[simp] theorem fp_301_0 : fput Tryz.prog 301 0 = some (0, 104) := by kernel_rfl
@[simp] theorem fp_349_0 : fput Tryz.prog 349 0 = some (0, 21) := by kernel_rfl
end Go.Proofs.YtjmgcdbefkojjaaGreatDoor
