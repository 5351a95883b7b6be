/- A part of the proof of the statements of this seat: plain functions, and laws on them. No condition of its own. -/
import Derived.Test.YtbpaehkcjccplaaGreatDoorQ1
import Derived.Test.YtbpaehkcjccplaaGreatDoorProg
import Derived.KernelRfl
set_option linter.unusedVariables false
set_option linter.unusedSimpArgs false
namespace Yp
open Go Go.Proofs
abbrev yT22:Ty := .unit
abbrev yT19:Ty := .int .u32
abbrev yT14:Ty := .bool
abbrev yT11:Ty := .int .u8
abbrev yT5:Ty := .sl yT11
abbrev yT10:Ty := .pair yT5 (.pair yT5 yT22)
abbrev yT9:Ty := .pair yT14 (.pair (.sl yT10) (.pair yT14 yT22))
abbrev yT4:Ty := .int .i64
abbrev yT16:Ty := .pair yT4 (.pair (.ar 16 (.int .u64)) yT22)
abbrev yT15:Ty := .pair yT4 (.pair yT4 yT22)
abbrev yT20:Ty := .pair yT5 yT15
abbrev yT8:Ty := .pair yT4 (.pair yT4 (.pair (.ar 2 yT4) (.pair yT4 (.pair yT4 yT10))))
abbrev yT7:Ty := .pair (.ar 4 yT14) (.pair (.ar 4 yT20) (.pair (.ar 4 yT4) (.pair yT4 yT22)))
abbrev yT3:Ty := .pair yT14 (.pair yT4 (.pair yT4 (.pair yT4 (.pair yT4 (.pair yT5 (.pair yT5 (.pair yT4 yT22)))))))
abbrev yT2:Ty := .pair yT4 (.pair yT5 yT22)
abbrev yT21:Ty := .pair (.sl yT2) (.pair (.fn [350]) yT22)
abbrev yT18:Ty := .pair yT4 (.pair (.ar 2 yT4) yT2)
abbrev yT17:Ty := .pair (.ar 8 yT19) yT2
abbrev yT13:Ty := .pair yT4 (.pair (.sl yT2) yT22)
abbrev yT12:Ty := .pair yT4 (.pair yT4 (.pair yT4 yT2))
abbrev yT6:Ty := .pair yT2 (.pair yT2 (.pair yT2 yT15))
abbrev yT0:Ty := .pair yT4 (.pair yT5 (.pair yT4 (.pair yT10 (.pair yT4 (.pair yT4 (.pair yT4 (.pair yT4 (.pair yT4 (.pair yT16 (.pair yT6 (.pair yT12 (.pair yT4 (.pair yT4 (.pair (.sl yT5) (.pair yT7 (.pair (.sl yT2) (.pair (.sl yT18) (.pair (.ar 4 yT4) yT22))))))))))))))))))
abbrev yT1:Ty := .pair yT0 (.pair yT9 yT22)
noncomputable abbrev qDR:qI:=⟨[yT4,yT4],[.im (.str), .im yT4],yW⟩
theorem qj8:FOK Tryz.prog 180 qDR:=mkC qD qC Tryz.func180 8 (by kernel_rfl) (by kernel_rfl) (fun x=>by kernel_rfl)
noncomputable abbrev qDH:qI:=⟨[yT4,yT4],[.im yT4],qcF⟩
theorem qFp:FOK Tryz.prog 344 qDH:=mkC qD qC Tryz.func344 5 (by kernel_rfl) (by kernel_rfl) (fun x=>by kernel_rfl)
noncomputable abbrev qJF:qI:=⟨[yT4],[.im yT14],qtB⟩
theorem qKf:FOK Tryz.prog 271 qJF:=mkC (qA qD qFp) qC Tryz.func271 4 (by kernel_rfl) (by kernel_rfl) (fun x=>by kernel_rfl)
noncomputable abbrev quC:qI:=⟨[yT4],[.im yT4],wI⟩
theorem qwQ:FOK Tryz.prog 382 quC:=mkC qD qC Tryz.func382 3 (by kernel_rfl) (by kernel_rfl) (fun x=>by kernel_rfl)
noncomputable def qeS:Inl:=inlF (eN [] []) Tryz.f383 3
theorem qeI:wP Tryz.prog 383 qeS:=mkI qD qC Tryz.func383 3 (by kernel_rfl) (by kernel_rfl)
noncomputable abbrev qDN:qI:=⟨[yT4,yT4],[.im yT4],qaL⟩
theorem qFt:FOK Tryz.prog 346 qDN:=mkC (qA qD qwQ) (jV qC qeI) Tryz.func346 5 (by kernel_rfl) (by kernel_rfl) (fun x=>by kernel_rfl)
noncomputable abbrev qJH:qI:=⟨[yT4],[.im yT15, .im yT14],qg9⟩
theorem qqR:FOK Tryz.prog 273 qJH:=mkC (qA qD qFt) qC Tryz.func273 6 (by kernel_rfl) (by kernel_rfl) (fun x=>by kernel_rfl)
noncomputable abbrev qDM:qI:=⟨[yT4],[.im yT4],qY⟩
theorem qrY:FOK Tryz.prog 347 qDM:=mkC qD qC Tryz.func347 3 (by kernel_rfl) (by kernel_rfl) (fun x=>by kernel_rfl)
noncomputable def qpJ:Inl:=inlF (eN [] [(383,qeS)]) Tryz.f384 7
theorem qoI:wP Tryz.prog 384 qpJ:=mkI qD (jV qC qeI) Tryz.func384 7 (by kernel_rfl) (by kernel_rfl)
noncomputable def qIf:Inl:=inlF (eN [] [(383,qeS),(384,qpJ)]) Tryz.f349 3
theorem qHj:wP Tryz.prog 349 qIf:=mkI qD (jV (jV qC qoI) qeI) Tryz.func349 3 (by kernel_rfl) (by kernel_rfl)
noncomputable abbrev qpX:qI:=⟨[yT3],[.im yT14],qc5⟩
theorem v7:FOK Tryz.prog 363 qpX:=mkC qD qC Tryz.func363 3 (by kernel_rfl) (by kernel_rfl) (fun x=>by kernel_rfl)
noncomputable abbrev qr8:qI:=⟨[yT3],[.im yT14],qa0⟩
theorem vD:FOK Tryz.prog 365 qr8:=mkC qD qC Tryz.func365 3 (by kernel_rfl) (by kernel_rfl) (fun x=>by kernel_rfl)
noncomputable abbrev qpY:qI:=⟨[yT3],[.im yT14],qc6⟩
theorem v8:FOK Tryz.prog 364 qpY:=mkC (qA qD vD) qC Tryz.func364 4 (by kernel_rfl) (by kernel_rfl) (fun x=>by kernel_rfl)
noncomputable abbrev qAO:qI:=⟨[yT3],[.im yT14],qmP⟩
theorem qb9:FOK Tryz.prog 366 qAO:=mkC qD qC Tryz.func366 3 (by kernel_rfl) (by kernel_rfl) (fun x=>by kernel_rfl)
noncomputable abbrev qDO:qI:=⟨[yT4,yT5],[.im yT14],qcG⟩
theorem qj7:FOK Tryz.prog 277 qDO:=mkC (qA (qA (qA (qA (qA (qA qD qb9) vD) v8) v7) qrY) qqR) (jV (jV qC qHj) qoI) Tryz.func277 8 (by kernel_rfl) (by kernel_rfl) (fun x=>by kernel_rfl)
noncomputable abbrev qGG:qI:=⟨[yT13],[.im yT14],qoH⟩
theorem qH3:FOK Tryz.prog 280 qGG:=mkC (qA (qA qD qj7) qKf) qC Tryz.func280 6 (by kernel_rfl) (by kernel_rfl) (fun x=>by kernel_rfl)
noncomputable abbrev qDQ:qI:=⟨[(.int .i32)],[.im yT4, .im yT14],qaN⟩
theorem qFv:FOK Tryz.prog 343 qDQ:=mkC qD qC Tryz.func343 4 (by kernel_rfl) (by kernel_rfl) (fun x=>by kernel_rfl)
noncomputable abbrev qKU:qI:=⟨[.str],[.ow yT11, .im yT4],qeN⟩
theorem qFx:FOK Tryz.prog 281 qKU:=mkC (qA qD qFv) qC Tryz.func281 10 (by kernel_rfl) (by kernel_rfl) (fun x=>by kernel_rfl)
noncomputable abbrev qxI:qI:=⟨[(.sl yT4)],[.im yT14],qd0⟩
theorem qyP:FOK Tryz.prog 352 qxI:=mkC qD qC Tryz.func352 6 (by kernel_rfl) (by kernel_rfl) (fun x=>by kernel_rfl)
noncomputable abbrev qxH:qI:=⟨[(.sl yT4)],[.ow yT11, .im yT4],qdZ⟩
theorem qyO:FOK Tryz.prog 282 qxH:=mkC (qA (qA qD qyQ) qyP) qC Tryz.func282 9 (by kernel_rfl) (by kernel_rfl) (fun x=>by kernel_rfl)
noncomputable abbrev qAT:qI:=⟨[yT4,yT5],[.ow yT11, .im yT4],qdA⟩
theorem qB8:FOK Tryz.prog 283 qAT:=mkC (qA (qA (qA (qA (qA (qA (qA (qA (qA qD qb9) vD) v8) v7) qrY) qFx) qj7) qqR) qj8) qC Tryz.func283 14 (by kernel_rfl) (by kernel_rfl) (fun x=>by kernel_rfl)
noncomputable abbrev qGF:qI:=⟨[yT13],[.ow yT11, .im yT4],qoG⟩
theorem qH2:FOK Tryz.prog 182 qGF:=mkC (qA (qA (qA (qA (qA qD qB8) qyO) qFx) qH3) qj8) qC Tryz.func182 17 (by kernel_rfl) (by kernel_rfl) (fun x=>by kernel_rfl)
noncomputable abbrev qGz:qI:=⟨[yT3],[.im (.fn [363,364,365,366])],qvB⟩
theorem qHZ:FOK Tryz.prog 315 qGz:=mkC (qA (qA (qA (qA qD qb9) vD) v8) v7) qC Tryz.func315 3 (by kernel_rfl) (by kernel_rfl) (fun x=>by kernel_rfl)
noncomputable abbrev qDD:qI:=⟨[yT3],[.im yT14],qk9⟩
theorem qFm:FOK Tryz.prog 232 qDD:=mkC (qA (qA (qA (qA (qA qD qb9) vD) v8) v7) qHZ) qC Tryz.func232 3 (by kernel_rfl) (by kernel_rfl) (fun x=>by kernel_rfl)
noncomputable abbrev qlP:qI:=⟨[yT2],[.im yT4],qbC⟩
theorem xG:FOK Tryz.prog 350 qlP:=mkC qD qC Tryz.func350 3 (by kernel_rfl) (by kernel_rfl) (fun x=>by kernel_rfl)
noncomputable abbrev qDI:qI:=⟨[yT13],[.im yT21],qqE⟩
theorem qFq:FOK Tryz.prog 278 qDI:=mkC (qA qD xG) qC Tryz.func278 3 (by kernel_rfl) (by kernel_rfl) (fun x=>by kernel_rfl)
noncomputable abbrev qf3:qI:=⟨[yT21,yT4],[.im yT4, .im yT14],j7⟩
theorem qhO:FOK Tryz.prog 348 qf3:=mkC (qA qD xG) qC Tryz.func348 9 (by kernel_rfl) (by kernel_rfl) (fun x=>by kernel_rfl)
noncomputable def qbT:Inl:=inlF (eN [] []) Tryz.f385 5
theorem qbR:wP Tryz.prog 385 qbT:=mkI qD qC Tryz.func385 5 (by kernel_rfl) (by kernel_rfl)
noncomputable abbrev qAU:qI:=⟨[yT5,yT5],[.im yT14],qdG⟩
theorem qpA:FOK Tryz.prog 333 qAU:=mkC qD qC Tryz.func333 5 (by kernel_rfl) (by kernel_rfl) (fun x=>by kernel_rfl)
noncomputable abbrev qDK:qI:=⟨[yT2,yT2],[.im yT14],qJ0⟩
theorem qFr:FOK Tryz.prog 359 qDK:=mkC (qA qD qpA) qC Tryz.func359 5 (by kernel_rfl) (by kernel_rfl) (fun x=>by kernel_rfl)
noncomputable abbrev wU:qI:=⟨[(.sl (.sl yT2))],[.ow yT2],zJ⟩
theorem qaQ:FOK Tryz.prog 351 wU:=mkC (qA qD qFr) (jV qC qbR) Tryz.func351 9 (by kernel_rfl) (by kernel_rfl) (fun x=>by kernel_rfl)
noncomputable abbrev qf2:qI:=⟨[yT21,yT2],[.ow yT2],j6⟩
theorem qhN:FOK Tryz.prog 279 qf2:=mkC (qA (qA (qA qD xG) qaQ) qhO) qC Tryz.func279 8 (by kernel_rfl) (by kernel_rfl) (fun x=>by kernel_rfl)
noncomputable abbrev qDJ:qI:=⟨[yT13,yT4,yT5],[.im yT13, .im yT4],x7⟩
theorem qMx:FOK Tryz.prog 181 qDJ:=mkC (qA (qA (qA (qA (qA qD xG) qhN) qFq) qj7) qqR) qC Tryz.func181 10 (by kernel_rfl) (by kernel_rfl) (fun x=>by kernel_rfl)
noncomputable def qs0:Inl:=inlF (eN [(181,qDJ)] []) Tryz.f316 4
theorem qsT:wP Tryz.prog 316 qs0:=mkI (qA qD qMx) qC Tryz.func316 4 (by kernel_rfl) (by kernel_rfl)
noncomputable abbrev qxG:qI:=⟨[yT4,yT4],[.ow yT11],z5⟩
theorem qyN:FOK Tryz.prog 317 qxG:=mkC (qA qD qj8) qC Tryz.func317 7 (by kernel_rfl) (by kernel_rfl) (fun x=>by kernel_rfl)
noncomputable abbrev qKT:qI:=⟨[yT5],[.im (.str)],qBC⟩
theorem qMy:FOK Tryz.prog 318 qKT:=mkC qD qC Tryz.func318 6 (by kernel_rfl) (by kernel_rfl) (fun x=>by kernel_rfl)
noncomputable abbrev qxF:qI:=⟨[yT3],[.im yT13],qdV⟩
theorem qyM:FOK Tryz.prog 233 qxF:=mkC (qA (qA qD qMy) qyN) (jV qC qsT) Tryz.func233 5 (by kernel_rfl) (by kernel_rfl) (fun x=>by kernel_rfl)
noncomputable abbrev qq2:qI:=⟨[yT3],[.ow yT11, .im yT4],xO⟩
theorem qrV:FOK Tryz.prog 123 qq2:=mkC (qA (qA (qA qD qyM) qFm) qH2) qC Tryz.func123 4 (by kernel_rfl) (by kernel_rfl) (fun x=>by kernel_rfl)
noncomputable abbrev qAS:qI:=⟨[yT4,(.sl yT4)],[.im yT14],x6⟩
theorem qhM:FOK Tryz.prog 263 qAS:=mkC qD qC Tryz.func263 7 (by kernel_rfl) (by kernel_rfl) (fun x=>by kernel_rfl)
noncomputable abbrev qGD:qI:=⟨[yT0],[.im (.ar 2 yT4)],qbA⟩
theorem qmZ:FOK Tryz.prog 228 qGD:=mkC (qA qD qhM) qC Tryz.func228 4 (by kernel_rfl) (by kernel_rfl) (fun x=>by kernel_rfl)
noncomputable abbrev qGB:qI:=⟨[yT5],[.im yT14],qjL⟩
theorem qwN:FOK Tryz.prog 234 qGB:=mkC qD qC Tryz.func234 3 (by kernel_rfl) (by kernel_rfl) (fun x=>by kernel_rfl)
noncomputable abbrev qDA:qI:=⟨[yT4],[.im yT4],qaH⟩
theorem qj6:FOK Tryz.prog 225 qDA:=mkC qD qC Tryz.func225 3 (by kernel_rfl) (by kernel_rfl) (fun x=>by kernel_rfl)
noncomputable abbrev qxE:qI:=⟨[yT4],[.im yT14],qdT⟩
theorem qyL:FOK Tryz.prog 235 qxE:=mkC (qA qD qj6) qC Tryz.func235 3 (by kernel_rfl) (by kernel_rfl) (fun x=>by kernel_rfl)
noncomputable abbrev qJG:qI:=⟨[yT7],[.im yT7, .im yT4, .im yT4],qtC⟩
theorem qKg:FOK Tryz.prog 319 qJG:=mkC qD qC Tryz.func319 7 (by kernel_rfl) (by kernel_rfl) (fun x=>by kernel_rfl)
noncomputable abbrev qDP:qI:=⟨[yT4,yT4],[.im yT14],qcH⟩
theorem qFu:FOK Tryz.prog 389 qDP:=mkC qD qC Tryz.func389 5 (by kernel_rfl) (by kernel_rfl) (fun x=>by kernel_rfl)
noncomputable abbrev qGH:qI:=⟨[yT8],[.im yT14],qjV⟩
theorem qwR:FOK Tryz.prog 367 qGH:=mkC (qA qD qFu) qC Tryz.func367 5 (by kernel_rfl) (by kernel_rfl) (fun x=>by kernel_rfl)
noncomputable abbrev qDS:qI:=⟨[yT4,yT4],[.ow yT11, .im yT4],qaO⟩
theorem qFw:FOK Tryz.prog 308 qDS:=mkC qD qC Tryz.func308 8 (by kernel_rfl) (by kernel_rfl) (fun x=>by kernel_rfl)
noncomputable def qCq:Inl:=inlF (eN [(308,qDS)] []) Tryz.f368 8
theorem qBq:wP Tryz.prog 368 qCq:=mkI (qA qD qFw) qC Tryz.func368 8 (by kernel_rfl) (by kernel_rfl)
noncomputable abbrev qGK:qI:=⟨[yT8],[.ow yT11, .im yT4],qjW⟩
theorem qwS:FOK Tryz.prog 320 qGK:=mkC (qA qD qwR) (jV qC qBq) Tryz.func320 6 (by kernel_rfl) (by kernel_rfl) (fun x=>by kernel_rfl)
theorem qKd:FOK Tryz.prog 369 qy7:=qJ3 qzV
noncomputable abbrev y4:qI:=⟨[(.sl yT10)],[.cl yT10],zQ⟩
theorem wK:FOK Tryz.prog 370 y4:=mkC qD qC Tryz.func370 3 (by kernel_rfl) (by kernel_rfl) (fun x=>by kernel_rfl)
theorem qB9:FOK Tryz.prog 371 qnI:=qBt
noncomputable abbrev qeZ:qI:=⟨[yT19,yT4],[.im yT19],qJ⟩
theorem yX:FOK Tryz.prog 388 qeZ:=mkC qD qC Tryz.func388 6 (by kernel_rfl) (by kernel_rfl) (fun x=>by kernel_rfl)
noncomputable abbrev qCK:qI:=⟨[yT5],[.im (.ar 64 yT19)],qkF⟩
theorem qEO:FOK Tryz.prog 387 qCK:=mkC (qA qD yX) qC Tryz.func387 9 (by kernel_rfl) (by kernel_rfl) (fun x=>by kernel_rfl)
noncomputable abbrev qF0:qI:=⟨[(.ar 8 yT19),yT5],[.im (.ar 8 yT19), .im yT4],qiD⟩
theorem qv8:FOK Tryz.prog 362 qF0:=mkC (qA (qA qD yX) qEO) qC Tryz.func362 16 (by kernel_rfl) (by kernel_rfl) (fun x=>by kernel_rfl)
noncomputable abbrev qCL:qI:=⟨[yT17,yT5],[.im yT17],qf1⟩
theorem qv7:FOK Tryz.prog 312 qCL:=mkC (qA qD qv8) qC Tryz.func312 6 (by kernel_rfl) (by kernel_rfl) (fun x=>by kernel_rfl)
noncomputable abbrev qCM:qI:=⟨[],[.im yT17],qtW⟩
theorem qEQ:FOK Tryz.prog 313 qCM:=mkC qD qC Tryz.func313 1 (by kernel_rfl) (by kernel_rfl) (fun x=>by kernel_rfl)
noncomputable abbrev qKQ:qI:=⟨[yT17],[.ow yT11],qmE⟩
theorem qEP:FOK Tryz.prog 314 qKQ:=mkC (qA qD qv8) qC Tryz.func314 9 (by kernel_rfl) (by kernel_rfl) (fun x=>by kernel_rfl)
noncomputable abbrev qMW:qI:=⟨[yT5],[.ow yT11],qIw⟩
theorem qNG:FOK Tryz.prog 361 qMW:=mkC (qA (qA (qA (qA qD xG) qEP) qEQ) qv7) qC Tryz.func361 3 (by kernel_rfl) (by kernel_rfl) (fun x=>by kernel_rfl)
noncomputable abbrev qGA:qI:=⟨[yT5],[.ow yT11],qoC⟩
theorem qH0:FOK Tryz.prog 310 qGA:=mkC (qA qD qNG) qC Tryz.func310 4 (by kernel_rfl) (by kernel_rfl) (fun x=>by kernel_rfl)
noncomputable def qIe:Inl:=inlF (eN [(312,qCL),(313,qCM),(350,qlP)] []) Tryz.f311 6
theorem qHi:wP Tryz.prog 311 qIe:=mkI (qA (qA (qA qD xG) qEQ) qv7) qC Tryz.func311 6 (by kernel_rfl) (by kernel_rfl)
noncomputable abbrev qKR:qI:=⟨[yT5,yT5],[.ow yT11],qqA⟩
theorem qwM:FOK Tryz.prog 231 qKR:=mkC (qA (qA (qA (qA qD xG) qEP) qv7) qH0) (jV qC qHi) Tryz.func231 7 (by kernel_rfl) (by kernel_rfl) (fun x=>by kernel_rfl)
noncomputable abbrev qDz:qI:=⟨[yT5,yT5],[.ow yT11],qfJ⟩
theorem qFk:FOK Tryz.prog 372 qDz:=mkC (qA qD qwM) qC Tryz.func372 5 (by kernel_rfl) (by kernel_rfl) (fun x=>by kernel_rfl)
noncomputable abbrev qJD:qI:=⟨[yT9,yT5,yT5],[.im yT9, .ow yT11],qs4⟩
theorem qKc:FOK Tryz.prog 321 qJD:=mkC (qA (qA (qA (qA qD qFk) qB9) wK) qKd) qC Tryz.func321 8 (by kernel_rfl) (by kernel_rfl) (fun x=>by kernel_rfl)
noncomputable abbrev qGJ:qI:=⟨[yT8],[.im yT14],qoS⟩
theorem qH5:FOK Tryz.prog 373 qGJ:=mkC (qA qD qwR) qC Tryz.func373 3 (by kernel_rfl) (by kernel_rfl) (fun x=>by kernel_rfl)
noncomputable abbrev qGI:qI:=⟨[yT8],[.ow yT11, .im yT4],qoR⟩
theorem qH4:FOK Tryz.prog 322 qGI:=mkC (qA (qA qD qH5) qwS) qC Tryz.func322 6 (by kernel_rfl) (by kernel_rfl) (fun x=>by kernel_rfl)
noncomputable abbrev qDL:qI:=⟨[yT5],[.ow yT11, .im yT4],qlF⟩
theorem qFs:FOK Tryz.prog 323 qDL:=mkC qD qC Tryz.func323 4 (by kernel_rfl) (by kernel_rfl) (fun x=>by kernel_rfl)
noncomputable abbrev wV:qI:=⟨[(.sl yT2)],[.cl yT2],zW⟩
theorem qaR:FOK Tryz.prog 324 wV:=mkC qD qC Tryz.func324 3 (by kernel_rfl) (by kernel_rfl) (fun x=>by kernel_rfl)
noncomputable abbrev qGC:qI:=⟨[yT1,yT8,yT5],[.im yT1, .im yT4],qjM⟩
theorem qwO:FOK Tryz.prog 236 qGC:=mkC (qA (qA (qA (qA (qA (qA qD qaR) qFs) qH4) qKc) qwS) qKg) qC Tryz.func236 17 (by kernel_rfl) (by kernel_rfl) (fun x=>by kernel_rfl)
noncomputable abbrev quB:qI:=⟨[yT1,yT5],[.im yT1, .im yT4],vV⟩
theorem qwP:FOK Tryz.prog 124 quB:=mkC (qA (qA (qA (qA qD qwO) qyL) qwN) qmZ) qC Tryz.func124 9 (by kernel_rfl) (by kernel_rfl) (fun x=>by kernel_rfl)
noncomputable abbrev qJK:qI:=⟨[yT4],[.im yT4],qtG⟩
theorem qKj:FOK Tryz.prog 167 qJK:=mkC qD qC Tryz.func167 3 (by kernel_rfl) (by kernel_rfl) (fun x=>by kernel_rfl)
noncomputable abbrev qGM:qI:=⟨[yT4],[.im yT14],qpF⟩
theorem qH7:FOK Tryz.prog 338 qGM:=mkC qD qC Tryz.func338 3 (by kernel_rfl) (by kernel_rfl) (fun x=>by kernel_rfl)
noncomputable abbrev qJJ:qI:=⟨[yT4,yT4,yT5],[.im yT14],qtF⟩
theorem qKi:FOK Tryz.prog 262 qJJ:=mkC (qA qD qH7) qC Tryz.func262 7 (by kernel_rfl) (by kernel_rfl) (fun x=>by kernel_rfl)
noncomputable abbrev qGN:qI:=⟨[yT4,yT4,yT5],[.im yT12, .im yT4],qpG⟩
theorem qH8:FOK Tryz.prog 168 qGN:=mkC (qA qD qKi) qC Tryz.func168 8 (by kernel_rfl) (by kernel_rfl) (fun x=>by kernel_rfl)
noncomputable abbrev qDE:qI:=⟨[yT5, .str,(.sl yT5)],[.ow yT11, .im yT4],qfQ⟩
theorem qrW:FOK Tryz.prog 309 qDE:=mkC (qA qD qwM) qC Tryz.func309 11 (by kernel_rfl) (by kernel_rfl) (fun x=>by kernel_rfl)
noncomputable abbrev qGE:qI:=⟨[yT5],[.ow yT11],qjN⟩
theorem qH1:FOK Tryz.prog 264 qGE:=mkC (qA qD qrW) qC Tryz.func264 5 (by kernel_rfl) (by kernel_rfl) (fun x=>by kernel_rfl)
noncomputable abbrev qDF:qI:=⟨[yT1,yT4,yT5],[.im yT1, .im yT4],qlB⟩
theorem qFo:FOK Tryz.prog 169 qDF:=mkC (qA (qA (qA (qA (qA qD qH1) qhM) qwO) qwN) qmZ) qC Tryz.func169 9 (by kernel_rfl) (by kernel_rfl) (fun x=>by kernel_rfl)
noncomputable abbrev qtZ:qI:=⟨[yT1,yT3],[.im yT1],y3⟩
theorem qjY:FOK Tryz.prog 63 qtZ:=mkC (qA (qA (qA (qA (qA qD qFo) qH8) qKj) qwP) qrV) qC Tryz.func63 9 (by kernel_rfl) (by kernel_rfl) (fun x=>by kernel_rfl)
noncomputable abbrev qDC:qI:=⟨[yT4],[.im yT14],qk6⟩
theorem qFl:FOK Tryz.prog 105 qDC:=mkC (qA qD qj6) qC Tryz.func105 3 (by kernel_rfl) (by kernel_rfl) (fun x=>by kernel_rfl)
noncomputable abbrev qF2:qI:=⟨[yT2],[.im yT14],qiG⟩
theorem qwA:FOK Tryz.prog 238 qF2:=mkC qD qC Tryz.func238 3 (by kernel_rfl) (by kernel_rfl) (fun x=>by kernel_rfl)
noncomputable abbrev qt0:qI:=⟨[(.pair yT6 yT22)],[.im (.ar 3 yT2)],qf4⟩
theorem qv9:FOK Tryz.prog 307 qt0:=mkC qD qC Tryz.func307 3 (by kernel_rfl) (by kernel_rfl) (fun x=>by kernel_rfl)
noncomputable abbrev qpV:qI:=⟨[(.pair yT6 yT22)],[.im yT14],vO⟩
theorem qfW:FOK Tryz.prog 226 qpV:=mkC (qA (qA qD qv9) qwA) qC Tryz.func226 5 (by kernel_rfl) (by kernel_rfl) (fun x=>by kernel_rfl)
noncomputable abbrev qF4:qI:=⟨[yT6],[.im yT4, .im yT4],qnR⟩
theorem qHE:FOK Tryz.prog 106 qF4:=mkC (qA qD qfW) qC Tryz.func106 4 (by kernel_rfl) (by kernel_rfl) (fun x=>by kernel_rfl)
noncomputable abbrev qz6:qI:=⟨[yT1],[.im (.pair (.pair yT0 yT22) (.pair yT1 yT22))],xZ⟩
theorem qb7:FOK Tryz.prog 107 qz6:=mkC qD qC Tryz.func107 3 (by kernel_rfl) (by kernel_rfl) (fun x=>by kernel_rfl)
noncomputable abbrev qJE:qI:=⟨[yT5,(.ar 2 yT4),yT4,yT5],[.ow yT11],qoF⟩
theorem qKe:FOK Tryz.prog 227 qJE:=mkC (qA (qA (qA qD qrW) qFw) qhM) qC Tryz.func227 17 (by kernel_rfl) (by kernel_rfl) (fun x=>by kernel_rfl)
noncomputable abbrev qr2:qI:=⟨[(.pair yT0 yT22),yT4,yT5],[.ow yT11],xC⟩
theorem qh3:FOK Tryz.prog 108 qr2:=mkC (qA (qA qD qmZ) qKe) qC Tryz.func108 7 (by kernel_rfl) (by kernel_rfl) (fun x=>by kernel_rfl)
noncomputable abbrev qF1:qI:=⟨[yT2],[.im yT14],qnP⟩
theorem qHC:FOK Tryz.prog 229 qF1:=mkC qD qC Tryz.func229 3 (by kernel_rfl) (by kernel_rfl) (fun x=>by kernel_rfl)
noncomputable abbrev qCN:qI:=⟨[yT6,yT4,yT5],[.im yT6, .im yT4],qcB⟩
theorem qrG:FOK Tryz.prog 109 qCN:=mkC (qA (qA qD qHC) qfW) qC Tryz.func109 10 (by kernel_rfl) (by kernel_rfl) (fun x=>by kernel_rfl)
noncomputable def qFG:Inl:=inlF (eN [] []) Tryz.f230 3
theorem qEv:wP Tryz.prog 230 qFG:=mkI qD qC Tryz.func230 3 (by kernel_rfl) (by kernel_rfl)
noncomputable abbrev qDB:qI:=⟨[yT4,yT4],[.im yT4, .im yT14],qfK⟩
theorem qrU:FOK Tryz.prog 110 qDB:=mkC (qA qD qj6) (jV qC qEv) Tryz.func110 9 (by kernel_rfl) (by kernel_rfl) (fun x=>by kernel_rfl)
noncomputable abbrev qKS:qI:=⟨[yT5],[.ow yT11],qvD⟩
theorem qFn:FOK Tryz.prog 111 qKS:=mkC (qA qD qwM) qC Tryz.func111 3 (by kernel_rfl) (by kernel_rfl) (fun x=>by kernel_rfl)
noncomputable abbrev qF5:qI:=⟨[yT1,yT5],[.im yT1, .im yT4],jY⟩
theorem qdF:FOK Tryz.prog 23 qF5:=mkC (qA (qA (qA (qA (qA (qA (qA (qA qD qFn) qrU) qrG) qh3) qb7) qHE) qFl) qjY) qC Tryz.func23 9 (by kernel_rfl) (by kernel_rfl) (fun x=>by kernel_rfl)
noncomputable abbrev qpW:qI:=⟨[(.pair yT0 yT22)],[.im yT14],zF⟩
theorem qaS:FOK Tryz.prog 116 qpW:=mkC qD qC Tryz.func116 3 (by kernel_rfl) (by kernel_rfl) (fun x=>by kernel_rfl)
noncomputable abbrev qCO:qI:=⟨[yT1],[.im yT1],wW⟩
theorem qj0:FOK Tryz.prog 117 qCO:=mkC (qA qD qrU) qC Tryz.func117 3 (by kernel_rfl) (by kernel_rfl) (fun x=>by kernel_rfl)
noncomputable abbrev qt1:qI:=⟨[yT6],[.im yT6],qbY⟩
theorem qjZ:FOK Tryz.prog 118 qt1:=mkC qD qC Tryz.func118 3 (by kernel_rfl) (by kernel_rfl) (fun x=>by kernel_rfl)
noncomputable abbrev qz7:qI:=⟨[yT1],[.im yT1],yE⟩
theorem qb8:FOK Tryz.prog 26 qz7:=mkC (qA (qA (qA (qA qD qjZ) qj0) qaS) qb7) qC Tryz.func26 3 (by kernel_rfl) (by kernel_rfl) (fun x=>by kernel_rfl)
noncomputable abbrev qnD:qI:=⟨[yT3,yT4],[.im yT3, .im yT4],xE⟩
theorem qB7:FOK Tryz.prog 122 qnD:=mkC qD qC Tryz.func122 6 (by kernel_rfl) (by kernel_rfl) (fun x=>by kernel_rfl)
noncomputable def qqW:Inl:=inlF (eN [(122,qnD),(123,qq2),(124,quB)] []) Tryz.f121 9
theorem qqG:wP Tryz.prog 121 qqW:=mkI (qA (qA (qA qD qwP) qrV) qB7) qC Tryz.func121 9 (by kernel_rfl) (by kernel_rfl)
noncomputable abbrev qDG:qI:=⟨[yT1,yT4],[.im yT1],yS⟩
theorem qrX:FOK Tryz.prog 125 qDG:=mkC qD qC Tryz.func125 7 (by kernel_rfl) (by kernel_rfl) (fun x=>by kernel_rfl)
noncomputable abbrev qt2:qI:=⟨[yT1,yT3],[.im yT1],zX⟩
theorem vX:FOK Tryz.prog 31 qt2:=mkC (qA (qA (qA (qA (qA (qA (qA (qA (qA qD qzV) qrX) qjZ) qj0) qaS) qFn) qrG) qh3) qb7) (jV qC qqG) Tryz.func31 10 (by kernel_rfl) (by kernel_rfl) (fun x=>by kernel_rfl)
noncomputable abbrev qJL:qI:=⟨[yT12,yT12],[.im yT14],qCj⟩
theorem qKk:FOK Tryz.prog 325 qJL:=mkC (qA qD qpA) qC Tryz.func325 5 (by kernel_rfl) (by kernel_rfl) (fun x=>by kernel_rfl)
noncomputable abbrev qJI:qI:=⟨[yT12],[.im yT14],qtE⟩
theorem qKh:FOK Tryz.prog 237 qJI:=mkC (qA qD qKk) qC Tryz.func237 3 (by kernel_rfl) (by kernel_rfl) (fun x=>by kernel_rfl)
noncomputable abbrev qGL:qI:=⟨[yT12,yT4,yT4],[.im yT14],qpE⟩
theorem qH6:FOK Tryz.prog 129 qGL:=mkC (qA qD qKh) qC Tryz.func129 7 (by kernel_rfl) (by kernel_rfl) (fun x=>by kernel_rfl)
noncomputable abbrev qF3:qI:=⟨[yT6],[.im yT6, .im yT4],qiI⟩
theorem qHD:FOK Tryz.prog 130 qF3:=mkC (qA qD qwA) qC Tryz.func130 5 (by kernel_rfl) (by kernel_rfl) (fun x=>by kernel_rfl)
noncomputable abbrev qr3:qI:=⟨[yT1,yT3],[.im yT1],zP⟩
theorem jW:FOK Tryz.prog 33 qr3:=mkC (qA (qA (qA (qA (qA (qA (qA (qA qD qHD) qH6) qrX) qj0) qaS) qb7) qjY) qb8) qC Tryz.func33 5 (by kernel_rfl) (by kernel_rfl) (fun x=>by kernel_rfl)
noncomputable abbrev qAy:qI:=⟨[yT7,yT4],[.im yT7, .im yT4],qmM⟩
theorem qBW:FOK Tryz.prog 87 qAy:=mkC qD qC Tryz.func87 6 (by kernel_rfl) (by kernel_rfl) (fun x=>by kernel_rfl)
noncomputable abbrev qC9:qI:=⟨[yT2],[.im yT14],yP⟩
theorem qrN:FOK Tryz.prog 173 qC9:=mkC qD qC Tryz.func173 3 (by kernel_rfl) (by kernel_rfl) (fun x=>by kernel_rfl)
noncomputable abbrev qAs:qI:=⟨[yT6],[.im yT14],qaB⟩
theorem qhI:FOK Tryz.prog 67 qAs:=mkC (qA qD qrN) qC Tryz.func67 6 (by kernel_rfl) (by kernel_rfl) (fun x=>by kernel_rfl)
noncomputable abbrev qAr:qI:=⟨[yT6,yT4,yT5],[.im yT6, .im yT4],qaA⟩
theorem qo1:FOK Tryz.prog 114 qAr:=mkC (qA qD qhI) qC Tryz.func114 9 (by kernel_rfl) (by kernel_rfl) (fun x=>by kernel_rfl)
noncomputable abbrev qDa:qI:=⟨[yT6],[.im yT6, .im yT4],yQ⟩
theorem qj2:FOK Tryz.prog 132 qDa:=mkC qD qC Tryz.func132 4 (by kernel_rfl) (by kernel_rfl) (fun x=>by kernel_rfl)
noncomputable abbrev qGe:qI:=⟨[yT5],[.im yT6, .im yT4],qnY⟩
theorem qHK:FOK Tryz.prog 140 qGe:=mkC qD qC Tryz.func140 4 (by kernel_rfl) (by kernel_rfl) (fun x=>by kernel_rfl)
noncomputable abbrev qw3:qI:=⟨[yT4],[.im yT14],jP⟩
theorem qeQ:FOK Tryz.prog 133 qw3:=mkC qD qC Tryz.func133 3 (by kernel_rfl) (by kernel_rfl) (fun x=>by kernel_rfl)
noncomputable abbrev qAL:qI:=⟨[yT4,yT4],[.im yT4],x5⟩
theorem qhJ:FOK Tryz.prog 202 qAL:=mkC qD qC Tryz.func202 7 (by kernel_rfl) (by kernel_rfl) (fun x=>by kernel_rfl)
noncomputable abbrev qGx:qI:=⟨[yT4,yT4],[.ow yT11, .im yT4],wB⟩
theorem qmY:FOK Tryz.prog 246 qGx:=mkC (qA qD qhJ) qC Tryz.func246 8 (by kernel_rfl) (by kernel_rfl) (fun x=>by kernel_rfl)
noncomputable abbrev qGu:qI:=⟨[yT4],[.ow yT11],qn4⟩
theorem qHW:FOK Tryz.prog 374 qGu:=mkC qD qC Tryz.func374 6 (by kernel_rfl) (by kernel_rfl) (fun x=>by kernel_rfl)
noncomputable abbrev qDu:qI:=⟨[],[.ow yT19],qk3⟩
theorem qrT:FOK Tryz.prog 375 qDu:=mkC qD qC Tryz.func375 1 (by kernel_rfl) (by kernel_rfl) (fun x=>by kernel_rfl)
noncomputable abbrev qDs:qI:=⟨[yT19,yT19],[.im yT19],jU⟩
theorem qFg:FOK Tryz.prog 392 qDs:=mkC qD qC Tryz.func392 5 (by kernel_rfl) (by kernel_rfl) (fun x=>by kernel_rfl)
noncomputable abbrev qDt:qI:=⟨[(.ar 8 yT19),yT5,yT4,(.sl yT19)],[.im (.ar 8 yT19)],qfG⟩
theorem qrS:FOK Tryz.prog 376 qDt:=mkC (qA qD qFg) qC Tryz.func376 30 (by kernel_rfl) (by kernel_rfl) (fun x=>by kernel_rfl)
noncomputable abbrev qGs:qI:=⟨[yT17],[.ow yT11],qiZ⟩
theorem qHU:FOK Tryz.prog 327 qGs:=mkC (qA (qA (qA qD qrS) qrT) qHW) qC Tryz.func327 9 (by kernel_rfl) (by kernel_rfl) (fun x=>by kernel_rfl)
noncomputable abbrev qGt:qI:=⟨[yT17,yT5],[.im yT17],qi0⟩
theorem qHV:FOK Tryz.prog 328 qGt:=mkC (qA (qA qD qrS) qrT) qC Tryz.func328 8 (by kernel_rfl) (by kernel_rfl) (fun x=>by kernel_rfl)
noncomputable abbrev qGv:qI:=⟨[],[.im yT17],quY⟩
theorem qHX:FOK Tryz.prog 329 qGv:=mkC qD qC Tryz.func329 1 (by kernel_rfl) (by kernel_rfl) (fun x=>by kernel_rfl)
noncomputable abbrev qJC:qI:=⟨[yT5],[.ow yT11],qgR⟩
theorem qqP:FOK Tryz.prog 250 qJC:=mkC (qA (qA (qA qD qHX) qHV) qHU) qC Tryz.func250 3 (by kernel_rfl) (by kernel_rfl) (fun x=>by kernel_rfl)
noncomputable abbrev qAJ:qI:=⟨[yT5],[.ow yT11],qgQ⟩
theorem qB4:FOK Tryz.prog 249 qAJ:=mkC (qA qD qqP) qC Tryz.func249 4 (by kernel_rfl) (by kernel_rfl) (fun x=>by kernel_rfl)
noncomputable abbrev qGq:qI:=⟨[yT5,yT5],[.ow yT11],qfE⟩
theorem qmX:FOK Tryz.prog 150 qGq:=mkC (qA (qA qD qqP) qB4) qC Tryz.func150 9 (by kernel_rfl) (by kernel_rfl) (fun x=>by kernel_rfl)
noncomputable abbrev qDr:qI:=⟨[.str,(.sl yT5)],[.ow yT11],qk2⟩
theorem qFf:FOK Tryz.prog 326 qDr:=mkC qD qC Tryz.func326 7 (by kernel_rfl) (by kernel_rfl) (fun x=>by kernel_rfl)
noncomputable abbrev qxB:qI:=⟨[yT5, .str,(.sl yT5)],[.ow yT11, .im yT4],qa7⟩
theorem ql7:FOK Tryz.prog 247 qxB:=mkC (qA (qA qD qFf) qmX) qC Tryz.func247 9 (by kernel_rfl) (by kernel_rfl) (fun x=>by kernel_rfl)
noncomputable abbrev qF7:qI:=⟨[yT5,(.ar 2 yT4),yT4,yT5],[.ow yT11],qa5⟩
theorem qwD:FOK Tryz.prog 141 qF7:=mkC (qA (qA (qA qD ql7) qmY) qeQ) qC Tryz.func141 19 (by kernel_rfl) (by kernel_rfl) (fun x=>by kernel_rfl)
noncomputable abbrev qw9:qI:=⟨[yT4],[.ow yT11, .im yT4],qdR⟩
theorem qyI:FOK Tryz.prog 248 qw9:=mkC (qA (qA qD qqP) qmY) qC Tryz.func248 7 (by kernel_rfl) (by kernel_rfl) (fun x=>by kernel_rfl)
noncomputable abbrev qGb:qI:=⟨[],[.im yT10],qnW⟩
theorem qHH:FOK Tryz.prog 142 qGb:=mkC (qA qD qyI) qC Tryz.func142 3 (by kernel_rfl) (by kernel_rfl) (fun x=>by kernel_rfl)
noncomputable abbrev qGn:qI:=⟨[.bool],[.im yT9],qDY⟩
theorem qHR:FOK Tryz.prog 143 qGn:=mkC qD qC Tryz.func143 3 (by kernel_rfl) (by kernel_rfl) (fun x=>by kernel_rfl)
noncomputable abbrev qAP:qI:=⟨[yT11,yT4],[.im yT1, .im yT1],vT⟩
theorem qcA:FOK Tryz.prog 37 qAP:=mkC (qA (qA (qA (qA (qA (qA (qA qD qHR) qHH) qwD) qHK) qj2) qo1) qBW) qC Tryz.func37 16 (by kernel_rfl) (by kernel_rfl) (fun x=>by kernel_rfl)
noncomputable abbrev qGj:qI:=⟨[yT20,yT11],[.im yT20, .ow yT11],qfB⟩
theorem qHO:FOK Tryz.prog 292 qGj:=mkC qD qC Tryz.func292 7 (by kernel_rfl) (by kernel_rfl) (fun x=>by kernel_rfl)
noncomputable abbrev qDh:qI:=⟨[yT20,yT5],[.im yT20, .ow yT5],qp5⟩
theorem qE7:FOK Tryz.prog 196 qDh:=mkC (qA qD qHO) qC Tryz.func196 10 (by kernel_rfl) (by kernel_rfl) (fun x=>by kernel_rfl)
noncomputable abbrev qCP:qI:=⟨[yT5],[.im yT5],qkL⟩
theorem qER:FOK Tryz.prog 89 qCP:=mkC (qA qD qE7) qC Tryz.func89 5 (by kernel_rfl) (by kernel_rfl) (fun x=>by kernel_rfl)
noncomputable abbrev qt8:qI:=⟨[yT5,yT4,yT4],[.im yT4, .im yT4, .im yT4],qb4⟩
theorem qwK:FOK Tryz.prog 266 qt8:=mkC qD qC Tryz.func266 11 (by kernel_rfl) (by kernel_rfl) (fun x=>by kernel_rfl)
noncomputable abbrev qC6:qI:=⟨[yT5,yT4,yT4],[.im yT4],v4⟩
theorem qE1:FOK Tryz.prog 194 qC6:=mkC (qA qD qwK) qC Tryz.func194 10 (by kernel_rfl) (by kernel_rfl) (fun x=>by kernel_rfl)
noncomputable abbrev qxA:qI:=⟨[yT4],[.im yT14],yO⟩
theorem qyJ:FOK Tryz.prog 360 qxA:=mkC qD qC Tryz.func360 3 (by kernel_rfl) (by kernel_rfl) (fun x=>by kernel_rfl)
noncomputable abbrev qAm:qI:=⟨[yT8],[.im yT14],qcS⟩
theorem qoZ:FOK Tryz.prog 291 qAm:=mkC (qA qD qyJ) qC Tryz.func291 6 (by kernel_rfl) (by kernel_rfl) (fun x=>by kernel_rfl)
noncomputable abbrev qAo:qI:=⟨[yT8],[.im yT14],w8⟩
theorem qo0:FOK Tryz.prog 195 qAo:=mkC (qA qD qoZ) qC Tryz.func195 4 (by kernel_rfl) (by kernel_rfl) (fun x=>by kernel_rfl)
noncomputable abbrev qC7:qI:=⟨[yT5],[.im yT8, .im yT4],qkT⟩
theorem qE2:FOK Tryz.prog 88 qC7:=mkC (qA (qA qD qo0) qE1) qC Tryz.func88 7 (by kernel_rfl) (by kernel_rfl) (fun x=>by kernel_rfl)
noncomputable abbrev qAe:qI:=⟨[yT1,yT4],[.im yT1],xD⟩
theorem qoX:FOK Tryz.prog 212 qAe:=mkC qD qC Tryz.func212 7 (by kernel_rfl) (by kernel_rfl) (fun x=>by kernel_rfl)
noncomputable abbrev qw8:qI:=⟨[yT4],[.im yT14],xW⟩
theorem kM:FOK Tryz.prog 28 qw8:=mkC qD qC Tryz.func28 3 (by kernel_rfl) (by kernel_rfl) (fun x=>by kernel_rfl)
noncomputable abbrev qCX:qI:=⟨[yT0],[.im (.ar 2 yT4)],jE⟩
theorem qdY:FOK Tryz.prog 36 qCX:=mkC qD qC Tryz.func36 3 (by kernel_rfl) (by kernel_rfl) (fun x=>by kernel_rfl)
noncomputable abbrev qDc:qI:=⟨[yT6,yT4],[.im yT5, .im yT14],qe9⟩
theorem qrP:FOK Tryz.prog 215 qDc:=mkC qD qC Tryz.func215 6 (by kernel_rfl) (by kernel_rfl) (fun x=>by kernel_rfl)
noncomputable abbrev qAa:qI:=⟨[yT0,yT8],[.im yT14],qf7⟩
theorem qBJ:FOK Tryz.prog 213 qAa:=mkC (qA (qA (qA qD qrP) qdY) kM) qC Tryz.func213 9 (by kernel_rfl) (by kernel_rfl) (fun x=>by kernel_rfl)
noncomputable abbrev qCY:qI:=⟨[yT5],[.ow yT11],yN⟩
theorem qrK:FOK Tryz.prog 214 qCY:=mkC (qA qD ql7) qC Tryz.func214 5 (by kernel_rfl) (by kernel_rfl) (fun x=>by kernel_rfl)
noncomputable abbrev qGd:qI:=⟨[yT4,yT4],[.ow yT11],jS⟩
theorem qHJ:FOK Tryz.prog 300 qGd:=mkC (qA qD qmY) qC Tryz.func300 7 (by kernel_rfl) (by kernel_rfl) (fun x=>by kernel_rfl)
noncomputable abbrev qAp:qI:=⟨[yT8],[.ow yT11, .im yT4],yF⟩
theorem qhH:FOK Tryz.prog 216 qAp:=mkC (qA (qA qD qHJ) qoZ) qC Tryz.func216 6 (by kernel_rfl) (by kernel_rfl) (fun x=>by kernel_rfl)
noncomputable abbrev qDw:qI:=⟨[yT5,yT5],[.im yT14],zG⟩
theorem zO:FOK Tryz.prog 39 qDw:=mkC qD qC Tryz.func39 5 (by kernel_rfl) (by kernel_rfl) (fun x=>by kernel_rfl)
noncomputable abbrev qAH:qI:=⟨[yT5,yT5],[.ow yT11],qaF⟩
theorem qo5:FOK Tryz.prog 301 qAH:=mkC (qA qD qmX) qC Tryz.func301 5 (by kernel_rfl) (by kernel_rfl) (fun x=>by kernel_rfl)
noncomputable abbrev qGo:qI:=⟨[yT9,yT5,yT5],[.im yT14],qiW⟩
theorem qwJ:FOK Tryz.prog 302 qGo:=mkC (qA qD zO) qC Tryz.func302 8 (by kernel_rfl) (by kernel_rfl) (fun x=>by kernel_rfl)
noncomputable abbrev qAI:qI:=⟨[yT9,yT5,yT5,yT5],[.im yT9, .im yT14],qc0⟩
theorem qB3:FOK Tryz.prog 217 qAI:=mkC (qA (qA (qA qD qwJ) qo5) zO) qC Tryz.func217 11 (by kernel_rfl) (by kernel_rfl) (fun x=>by kernel_rfl)
noncomputable abbrev qAt:qI:=⟨[yT4],[.im (.int .u64)],qaC⟩
theorem qo2:FOK Tryz.prog 305 qAt:=mkC qD qC Tryz.func305 5 (by kernel_rfl) (by kernel_rfl) (fun x=>by kernel_rfl)
noncomputable abbrev qGg:qI:=⟨[yT16,yT4],[.im yT14],qa6⟩
theorem qmW:FOK Tryz.prog 240 qGg:=mkC (qA qD qo2) qC Tryz.func240 5 (by kernel_rfl) (by kernel_rfl) (fun x=>by kernel_rfl)
noncomputable abbrev qAw:qI:=⟨[yT16,yT4],[.im yT14],qgI⟩
theorem qBU:FOK Tryz.prog 303 qAw:=mkC (qA qD qmW) qC Tryz.func303 5 (by kernel_rfl) (by kernel_rfl) (fun x=>by kernel_rfl)
noncomputable abbrev qAu:qI:=⟨[yT16],[.ow yT4],qgG⟩
theorem qBS:FOK Tryz.prog 304 qAu:=mkC (qA qD qmW) qC Tryz.func304 6 (by kernel_rfl) (by kernel_rfl) (fun x=>by kernel_rfl)
noncomputable abbrev qDd:qI:=⟨[yT16,yT4],[.im yT16, .im yT4],qfA⟩
theorem qE4:FOK Tryz.prog 218 qDd:=mkC (qA (qA (qA qD qo2) qBS) qBU) qC Tryz.func218 12 (by kernel_rfl) (by kernel_rfl) (fun x=>by kernel_rfl)
noncomputable abbrev qCU:qI:=⟨[yT1,yT5],[.im yT1, .im yT8, .im yT4],qe3⟩
theorem qEV:FOK Tryz.prog 101 qCU:=mkC (qA (qA (qA (qA (qA (qA (qA (qA (qA qD qE4) qB3) qhH) qrP) qrK) qBJ) qoX) qj2) qE2) qC Tryz.func101 21 (by kernel_rfl) (by kernel_rfl) (fun x=>by kernel_rfl)
noncomputable abbrev quA:qI:=⟨[.str],[.im yT14],wA⟩
theorem qj5:FOK Tryz.prog 201 quA:=mkC qD qC Tryz.func201 4 (by kernel_rfl) (by kernel_rfl) (fun x=>by kernel_rfl)
noncomputable abbrev qAM:qI:=⟨[.str],[.im yT4, .im yT4],yH⟩
theorem qhK:FOK Tryz.prog 92 qAM:=mkC (qA (qA qD qhJ) qj5) qC Tryz.func92 6 (by kernel_rfl) (by kernel_rfl) (fun x=>by kernel_rfl)
noncomputable abbrev qDk:qI:=⟨[yT4],[.im yT14],qfC⟩
theorem qrR:FOK Tryz.prog 95 qDk:=mkC qD qC Tryz.func95 3 (by kernel_rfl) (by kernel_rfl) (fun x=>by kernel_rfl)
noncomputable abbrev qt9:qI:=⟨[yT5,yT4,yT4],[.im (.str), .im yT4, .im yT4],j3⟩
theorem qj4:FOK Tryz.prog 197 qt9:=mkC qD qC Tryz.func197 13 (by kernel_rfl) (by kernel_rfl) (fun x=>by kernel_rfl)
noncomputable abbrev qAE:qI:=⟨[yT4],[.im yT4, .im yT11],yG⟩
theorem qo3:FOK Tryz.prog 298 qAE:=mkC qD qC Tryz.func298 6 (by kernel_rfl) (by kernel_rfl) (fun x=>by kernel_rfl)
noncomputable abbrev qGl:qI:=⟨[yT5,yT4],[.im yT14],y9⟩
theorem qHP:FOK Tryz.prog 293 qGl:=mkC (qA qD qo3) qC Tryz.func293 7 (by kernel_rfl) (by kernel_rfl) (fun x=>by kernel_rfl)
noncomputable abbrev qDm:qI:=⟨[yT5,yT4],[.ow yT4, .im yT4, .im yT4],qkZ⟩
theorem qFb:FOK Tryz.prog 198 qDm:=mkC (qA qD qHP) qC Tryz.func198 12 (by kernel_rfl) (by kernel_rfl) (fun x=>by kernel_rfl)
noncomputable abbrev qJA:qI:=⟨[(.sl yT4),yT4],[.im yT14],qn1⟩
theorem qKb:FOK Tryz.prog 294 qJA:=mkC qD qC Tryz.func294 6 (by kernel_rfl) (by kernel_rfl) (fun x=>by kernel_rfl)
noncomputable abbrev qJB:qI:=⟨[yT4],[.im yT15, .im yT14],qgP⟩
theorem qlJ:FOK Tryz.prog 199 qJB:=mkC (qA qD qKb) qC Tryz.func199 7 (by kernel_rfl) (by kernel_rfl) (fun x=>by kernel_rfl)
noncomputable abbrev qAF:qI:=⟨[yT4],[.im yT4],qaE⟩
theorem qo4:FOK Tryz.prog 295 qAF:=mkC qD qC Tryz.func295 3 (by kernel_rfl) (by kernel_rfl) (fun x=>by kernel_rfl)
noncomputable abbrev qDn:qI:=⟨[yT15,yT5],[.im yT14],xM⟩
theorem qj3:FOK Tryz.prog 296 qDn:=mkC qD qC Tryz.func296 6 (by kernel_rfl) (by kernel_rfl) (fun x=>by kernel_rfl)
noncomputable abbrev qDo:qI:=⟨[yT4,yT5,yT4],[.ow yT11, .im yT4, .im yT4],qk0⟩
theorem qFc:FOK Tryz.prog 200 qDo:=mkC (qA (qA (qA (qA (qA qD qj3) qo4) qlJ) qj4) qhK) qC Tryz.func200 23 (by kernel_rfl) (by kernel_rfl) (fun x=>by kernel_rfl)
noncomputable abbrev qDl:qI:=⟨[yT5],[.im yT13, .im yT4],qkY⟩
theorem qFa:FOK Tryz.prog 90 qDl:=mkC (qA (qA (qA (qA (qA (qA qD qFc) qlJ) qFb) qj4) qrR) qhK) qC Tryz.func90 20 (by kernel_rfl) (by kernel_rfl) (fun x=>by kernel_rfl)
noncomputable abbrev qGk:qI:=⟨[yT13,yT4],[.im yT5, .im yT14],qcY⟩
theorem qwI:FOK Tryz.prog 91 qGk:=mkC qD qC Tryz.func91 7 (by kernel_rfl) (by kernel_rfl) (fun x=>by kernel_rfl)
noncomputable abbrev qAj:qI:=⟨[yT4],[.im yT14],qcR⟩
theorem qoY:FOK Tryz.prog 120 qAj:=mkC qD qC Tryz.func120 3 (by kernel_rfl) (by kernel_rfl) (fun x=>by kernel_rfl)
noncomputable abbrev qAg:qI:=⟨[yT3],[.im yT14],wY⟩
theorem qhG:FOK Tryz.prog 30 qAg:=mkC (qA qD qoY) qC Tryz.func30 4 (by kernel_rfl) (by kernel_rfl) (fun x=>by kernel_rfl)
noncomputable abbrev qDp:qI:=⟨[yT4,yT5],[.im yT14],qk1⟩
theorem qFd:FOK Tryz.prog 285 qDp:=mkC (qA (qA qD qj3) qlJ) qC Tryz.func285 8 (by kernel_rfl) (by kernel_rfl) (fun x=>by kernel_rfl)
noncomputable abbrev qAB:qI:=⟨[yT13],[.im yT14],qgM⟩
theorem qBZ:FOK Tryz.prog 203 qAB:=mkC (qA (qA qD qFd) qrR) qC Tryz.func203 5 (by kernel_rfl) (by kernel_rfl) (fun x=>by kernel_rfl)
noncomputable abbrev qxC:qI:=⟨[yT4,yT4],[.im (.str), .im yT4],xX⟩
theorem qeR:FOK Tryz.prog 96 qxC:=mkC (qA qD qhJ) qC Tryz.func96 8 (by kernel_rfl) (by kernel_rfl) (fun x=>by kernel_rfl)
noncomputable abbrev qGy:qI:=⟨[.str],[.ow yT11, .im yT4],kK⟩
theorem qwL:FOK Tryz.prog 206 qGy:=mkC (qA qD qj5) qC Tryz.func206 6 (by kernel_rfl) (by kernel_rfl) (fun x=>by kernel_rfl)
noncomputable abbrev qAG:qI:=⟨[yT4,yT5],[.ow yT11, .im yT4],qcZ⟩
theorem qB2:FOK Tryz.prog 204 qAG:=mkC (qA (qA (qA (qA (qA qD qj3) qo4) qwL) qlJ) qeR) qC Tryz.func204 16 (by kernel_rfl) (by kernel_rfl) (fun x=>by kernel_rfl)
noncomputable abbrev qAD:qI:=⟨[(.sl yT4)],[.im yT14],qgO⟩
theorem qB1:FOK Tryz.prog 297 qAD:=mkC qD qC Tryz.func297 4 (by kernel_rfl) (by kernel_rfl) (fun x=>by kernel_rfl)
noncomputable abbrev qAC:qI:=⟨[(.sl yT4)],[.ow yT11, .im yT4],qgN⟩
theorem qB0:FOK Tryz.prog 205 qAC:=mkC (qA (qA qD qo3) qB1) qC Tryz.func205 11 (by kernel_rfl) (by kernel_rfl) (fun x=>by kernel_rfl)
noncomputable abbrev qDj:qI:=⟨[yT4],[.im (.str)],qkX⟩
theorem qE9:FOK Tryz.prog 207 qDj:=mkC (qA qD qeR) qC Tryz.func207 5 (by kernel_rfl) (by kernel_rfl) (fun x=>by kernel_rfl)
noncomputable abbrev qAA:qI:=⟨[yT13],[.ow yT11, .im yT4],qgL⟩
theorem qBY:FOK Tryz.prog 97 qAA:=mkC (qA (qA (qA (qA (qA qD qE9) qwL) qB0) qB2) qBZ) qC Tryz.func97 14 (by kernel_rfl) (by kernel_rfl) (fun x=>by kernel_rfl)
noncomputable abbrev qt5:qI:=⟨[yT4,yT4],[.ow yT11],zB⟩
theorem qwE:FOK Tryz.prog 339 qt5:=mkC (qA qD qeR) qC Tryz.func339 7 (by kernel_rfl) (by kernel_rfl) (fun x=>by kernel_rfl)
noncomputable abbrev qDv:qI:=⟨[yT11],[.im yT11],qfH⟩
theorem qFh:FOK Tryz.prog 379 qDv:=mkC qD qC Tryz.func379 3 (by kernel_rfl) (by kernel_rfl) (fun x=>by kernel_rfl)
noncomputable abbrev qGw:qI:=⟨[yT5],[.im (.str)],qi2⟩
theorem qHY:FOK Tryz.prog 340 qGw:=mkC (qA qD qFh) qC Tryz.func340 5 (by kernel_rfl) (by kernel_rfl) (fun x=>by kernel_rfl)
noncomputable abbrev qt6:qI:=⟨[yT3],[.im yT13],qb1⟩
theorem qwF:FOK Tryz.prog 265 qt6:=mkC (qA (qA qD qHY) qwE) qC Tryz.func265 4 (by kernel_rfl) (by kernel_rfl) (fun x=>by kernel_rfl)
noncomputable abbrev qAf:qI:=⟨[yT3],[.ow yT11, .im yT4],wX⟩
theorem qhF:FOK Tryz.prog 171 qAf:=mkC (qA (qA (qA qD qwF) qBY) qhG) qC Tryz.func171 7 (by kernel_rfl) (by kernel_rfl) (fun x=>by kernel_rfl)
noncomputable abbrev qAK:qI:=⟨[yT11],[.im yT4],qgS⟩
theorem qB5:FOK Tryz.prog 306 qAK:=mkC qD qC Tryz.func306 3 (by kernel_rfl) (by kernel_rfl) (fun x=>by kernel_rfl)
noncomputable abbrev qAN:qI:=⟨[.str],[.ow yT11, .im yT4],qc1⟩
theorem qB6:FOK Tryz.prog 219 qAN:=mkC (qA qD qB5) qC Tryz.func219 8 (by kernel_rfl) (by kernel_rfl) (fun x=>by kernel_rfl)
noncomputable abbrev qw6:qI:=⟨[yT13,yT4],[.im yT4],xV⟩
theorem qyG:FOK Tryz.prog 220 qw6:=mkC (qA (qA qD qhK) qwI) qC Tryz.func220 9 (by kernel_rfl) (by kernel_rfl) (fun x=>by kernel_rfl)
noncomputable abbrev qCZ:qI:=⟨[yT5],[.im yT3, .im yT4],qkO⟩
theorem qEW:FOK Tryz.prog 102 qCZ:=mkC (qA (qA (qA (qA (qA (qA qD qyG) qB6) qhF) qwI) qFa) zO) qC Tryz.func102 15 (by kernel_rfl) (by kernel_rfl) (fun x=>by kernel_rfl)
noncomputable abbrev qAR:qI:=⟨[yT1,yT1],[.im yT1, .im yT3, .im yT14],qW⟩
theorem qhL:FOK Tryz.prog 38 qAR:=mkC (qA (qA (qA qD qEW) qEV) qER) qC Tryz.func38 12 (by kernel_rfl) (by kernel_rfl) (fun x=>by kernel_rfl)
noncomputable abbrev qAQ:qI:=⟨[],[.im yT14],vU⟩
theorem wL:FOK Tryz.prog 21 qAQ:=mkC (qA (qA (qA (qA (qA (qA (qA qD zO) qhL) qcA) jW) vX) qb8) qdF) qC Tryz.func21 13 (by kernel_rfl) (by kernel_rfl) (fun x=>by kernel_rfl)
noncomputable abbrev qAl:qI:=⟨[yT10],[.im yT14],qgD⟩
theorem qBP:FOK Tryz.prog 65 qAl:=mkC qD qC Tryz.func65 3 (by kernel_rfl) (by kernel_rfl) (fun x=>by kernel_rfl)
noncomputable abbrev qAv:qI:=⟨[yT16],[.im yT14],qgH⟩
theorem qBT:FOK Tryz.prog 134 qAv:=mkC (qA qD qmW) qC Tryz.func134 5 (by kernel_rfl) (by kernel_rfl) (fun x=>by kernel_rfl)
noncomputable abbrev qC8:qI:=⟨[yT2],[.im yT14],qcD⟩
theorem qE3:FOK Tryz.prog 241 qC8:=mkC qD qC Tryz.func241 3 (by kernel_rfl) (by kernel_rfl) (fun x=>by kernel_rfl)
noncomputable abbrev qAq:qI:=⟨[yT6],[.im yT14],qgF⟩
theorem qBR:FOK Tryz.prog 135 qAq:=mkC (qA (qA (qA qD qE3) qrN) qhI) qC Tryz.func135 9 (by kernel_rfl) (by kernel_rfl) (fun x=>by kernel_rfl)
noncomputable abbrev qC0:qI:=⟨[yT4,yT4,yT5],[.im yT14],qe7⟩
theorem qrL:FOK Tryz.prog 208 qC0:=mkC (qA qD qoY) qC Tryz.func208 8 (by kernel_rfl) (by kernel_rfl) (fun x=>by kernel_rfl)
noncomputable abbrev qC3:qI:=⟨[yT12],[.im yT14],qe8⟩
theorem qrM:FOK Tryz.prog 239 qC3:=mkC qD qC Tryz.func239 3 (by kernel_rfl) (by kernel_rfl) (fun x=>by kernel_rfl)
noncomputable abbrev qAh:qI:=⟨[yT12],[.im yT14],qgA⟩
theorem qBM:FOK Tryz.prog 136 qAh:=mkC (qA (qA qD qrM) qrL) qC Tryz.func136 5 (by kernel_rfl) (by kernel_rfl) (fun x=>by kernel_rfl)
noncomputable abbrev qAz:qI:=⟨[yT20],[.im yT14],qgK⟩
theorem qBX:FOK Tryz.prog 242 qAz:=mkC qD qC Tryz.func242 4 (by kernel_rfl) (by kernel_rfl) (fun x=>by kernel_rfl)
noncomputable abbrev qDg:qI:=⟨[yT20,yT20],[.im yT14],qaD⟩
theorem qrQ:FOK Tryz.prog 243 qDg:=mkC (qA qD zO) qC Tryz.func243 5 (by kernel_rfl) (by kernel_rfl) (fun x=>by kernel_rfl)
noncomputable abbrev qAx:qI:=⟨[yT7],[.im yT14],qgJ⟩
theorem qBV:FOK Tryz.prog 137 qAx:=mkC (qA (qA qD qrQ) qBX) qC Tryz.func137 6 (by kernel_rfl) (by kernel_rfl) (fun x=>by kernel_rfl)
noncomputable abbrev qC4:qI:=⟨[yT4],[.im yT14],qkR⟩
theorem qEZ:FOK Tryz.prog 112 qC4:=mkC qD qC Tryz.func112 3 (by kernel_rfl) (by kernel_rfl) (fun x=>by kernel_rfl)
noncomputable abbrev qAb:qI:=⟨[yT0],[.im yT14],qf8⟩
theorem qBK:FOK Tryz.prog 138 qAb:=mkC (qA qD qEZ) qC Tryz.func138 4 (by kernel_rfl) (by kernel_rfl) (fun x=>by kernel_rfl)
noncomputable abbrev qCT:qI:=⟨[yT4],[.im yT4],qp1⟩
theorem qEU:FOK Tryz.prog 244 qCT:=mkC qD qC Tryz.func244 4 (by kernel_rfl) (by kernel_rfl) (fun x=>by kernel_rfl)
noncomputable abbrev qCS:qI:=⟨[yT0],[.im yT14],qkN⟩
theorem qET:FOK Tryz.prog 245 qCS:=mkC (qA qD qhI) qC Tryz.func245 4 (by kernel_rfl) (by kernel_rfl) (fun x=>by kernel_rfl)
noncomputable abbrev qw4:qI:=⟨[yT0],[.im yT14],qdP⟩
theorem qyE:FOK Tryz.prog 139 qw4:=mkC (qA (qA (qA qD qET) qEU) kM) qC Tryz.func139 5 (by kernel_rfl) (by kernel_rfl) (fun x=>by kernel_rfl)
noncomputable abbrev qAd:qI:=⟨[yT0],[.im yT14],x4⟩
theorem qoW:FOK Tryz.prog 35 qAd:=mkC (qA (qA (qA (qA (qA (qA (qA (qA qD qyE) qBK) qBV) qBM) qBR) qBT) qeQ) qBP) qC Tryz.func35 13 (by kernel_rfl) (by kernel_rfl) (fun x=>by kernel_rfl)
noncomputable abbrev qGc:qI:=⟨[yT10],[.im yT14],qnX⟩
theorem qHI:FOK Tryz.prog 221 qGc:=mkC qD qC Tryz.func221 3 (by kernel_rfl) (by kernel_rfl) (fun x=>by kernel_rfl)
noncomputable abbrev qGf:qI:=⟨[yT6],[.im yT14],qnZ⟩
theorem qHL:FOK Tryz.prog 222 qGf:=mkC qD qC Tryz.func222 3 (by kernel_rfl) (by kernel_rfl) (fun x=>by kernel_rfl)
noncomputable abbrev qGh:qI:=⟨[yT7],[.im yT14],qn0⟩
theorem qHM:FOK Tryz.prog 223 qGh:=mkC qD qC Tryz.func223 3 (by kernel_rfl) (by kernel_rfl) (fun x=>by kernel_rfl)
noncomputable abbrev qDy:qI:=⟨[(.sl yT5),yT4],[.im yT4],qk5⟩
theorem qFj:FOK Tryz.prog 224 qDy:=mkC qD qC Tryz.func224 7 (by kernel_rfl) (by kernel_rfl) (fun x=>by kernel_rfl)
noncomputable abbrev qF8:qI:=⟨[yT0],[.im yT14],qiP⟩
theorem qHF:FOK Tryz.prog 103 qF8:=mkC (qA (qA (qA (qA qD qFj) qHM) qHL) qHI) qC Tryz.func103 8 (by kernel_rfl) (by kernel_rfl) (fun x=>by kernel_rfl)
noncomputable abbrev qGp:qI:=⟨[yT9,yT4],[.im yT14],qiX⟩
theorem qHS:FOK Tryz.prog 104 qGp:=mkC qD qC Tryz.func104 6 (by kernel_rfl) (by kernel_rfl) (fun x=>by kernel_rfl)
noncomputable abbrev qF6:qI:=⟨[yT1],[.im yT14],qiO⟩
theorem qwC:FOK Tryz.prog 22 qF6:=mkC (qA (qA (qA qD qHS) qHF) qoW) qC Tryz.func22 5 (by kernel_rfl) (by kernel_rfl) (fun x=>by kernel_rfl)
noncomputable abbrev qt4:qI:=⟨[yT0,yT4,yT5],[.ow yT11],x3⟩
theorem qj1:FOK Tryz.prog 41 qt4:=mkC (qA (qA qD qwD) qdY) qC Tryz.func41 7 (by kernel_rfl) (by kernel_rfl) (fun x=>by kernel_rfl)
noncomputable abbrev qGr:qI:=⟨[yT5],[.ow yT11],qn3⟩
theorem qHT:FOK Tryz.prog 44 qGr:=mkC (qA qD qmX) qC Tryz.func44 3 (by kernel_rfl) (by kernel_rfl) (fun x=>by kernel_rfl)
noncomputable abbrev qAk:qI:=⟨[yT4,yT4,yT5],[.im yT12, .im yT4],qgC⟩
theorem qBO:FOK Tryz.prog 98 qAk:=mkC (qA qD qrL) qC Tryz.func98 9 (by kernel_rfl) (by kernel_rfl) (fun x=>by kernel_rfl)
noncomputable abbrev qGi:qI:=⟨[yT7],[.im yT14],quP⟩
theorem qHN:FOK Tryz.prog 378 qGi:=mkC qD qC Tryz.func378 3 (by kernel_rfl) (by kernel_rfl) (fun x=>by kernel_rfl)
noncomputable abbrev qDf:qI:=⟨[yT7],[.im yT7, .im yT4, .im yT4],qkV⟩
theorem qE6:FOK Tryz.prog 334 qDf:=mkC (qA qD qHN) qC Tryz.func334 7 (by kernel_rfl) (by kernel_rfl) (fun x=>by kernel_rfl)
noncomputable abbrev qGm:qI:=⟨[yT9,yT5,yT5],[.im yT9, .ow yT11],qn2⟩
theorem qHQ:FOK Tryz.prog 335 qGm:=mkC (qA (qA qD qwJ) qo5) qC Tryz.func335 9 (by kernel_rfl) (by kernel_rfl) (fun x=>by kernel_rfl)
noncomputable abbrev qAn:qI:=⟨[yT8],[.ow yT11, .im yT4],qgE⟩
theorem qBQ:FOK Tryz.prog 336 qAn:=mkC (qA (qA qD qhH) qo0) qC Tryz.func336 7 (by kernel_rfl) (by kernel_rfl) (fun x=>by kernel_rfl)
noncomputable abbrev qDi:qI:=⟨[yT5],[.ow yT11, .im yT4],qkW⟩
theorem qE8:FOK Tryz.prog 337 qDi:=mkC qD qC Tryz.func337 4 (by kernel_rfl) (by kernel_rfl) (fun x=>by kernel_rfl)
noncomputable abbrev qCR:qI:=⟨[yT1,yT8,yT5],[.im yT1, .im yT4],qcC⟩
theorem qrH:FOK Tryz.prog 260 qCR:=mkC (qA (qA (qA (qA (qA qD qE8) qBQ) qHQ) qE6) qhH) qC Tryz.func260 19 (by kernel_rfl) (by kernel_rfl) (fun x=>by kernel_rfl)
noncomputable abbrev qCV:qI:=⟨[yT1,yT5],[.im yT1, .im yT4],qe4⟩
theorem qrI:FOK Tryz.prog 165 qCV:=mkC (qA (qA (qA qD qrH) qdY) kM) qC Tryz.func165 9 (by kernel_rfl) (by kernel_rfl) (fun x=>by kernel_rfl)
noncomputable abbrev qC1:qI:=⟨[yT4],[.im yT4],qkP⟩
theorem qEX:FOK Tryz.prog 170 qC1:=mkC qD qC Tryz.func170 3 (by kernel_rfl) (by kernel_rfl) (fun x=>by kernel_rfl)
noncomputable abbrev qAc:qI:=⟨[yT1,yT4,yT5],[.im yT1, .im yT4],qf9⟩
theorem qBL:FOK Tryz.prog 172 qAc:=mkC (qA (qA (qA qD qrH) qrK) qeQ) qC Tryz.func172 10 (by kernel_rfl) (by kernel_rfl) (fun x=>by kernel_rfl)
noncomputable abbrev qr5:qI:=⟨[yT1,yT3],[.im yT1],qaV⟩
theorem qsX:FOK Tryz.prog 64 qr5:=mkC (qA (qA (qA (qA (qA qD qBL) qhF) qEX) qrI) qBO) qC Tryz.func64 13 (by kernel_rfl) (by kernel_rfl) (fun x=>by kernel_rfl)
noncomputable abbrev qt7:qI:=⟨[yT2,yT2],[.im yT14],y8⟩
theorem qwH:FOK Tryz.prog 144 qt7:=mkC (qA qD zO) qC Tryz.func144 5 (by kernel_rfl) (by kernel_rfl) (fun x=>by kernel_rfl)
noncomputable abbrev qDb:qI:=⟨[yT6,yT6],[.im yT14],w9⟩
theorem qrO:FOK Tryz.prog 40 qDb:=mkC (qA qD qwH) qC Tryz.func40 8 (by kernel_rfl) (by kernel_rfl) (fun x=>by kernel_rfl)
noncomputable abbrev qDx:qI:=⟨[(.sl yT5),(.sl yT5)],[.im yT14],qk4⟩
theorem qFi:FOK Tryz.prog 86 qDx:=mkC qD qC Tryz.func86 6 (by kernel_rfl) (by kernel_rfl) (fun x=>by kernel_rfl)
noncomputable abbrev qC5:qI:=⟨[yT10,yT10],[.im yT14],qkS⟩
theorem qE0:FOK Tryz.prog 145 qC5:=mkC (qA qD zO) qC Tryz.func145 5 (by kernel_rfl) (by kernel_rfl) (fun x=>by kernel_rfl)
noncomputable abbrev qC2:qI:=⟨[yT12,yT12],[.im yT14],qkQ⟩
theorem qEY:FOK Tryz.prog 146 qC2:=mkC (qA qD zO) qC Tryz.func146 5 (by kernel_rfl) (by kernel_rfl) (fun x=>by kernel_rfl)
noncomputable abbrev qDe:qI:=⟨[yT7,yT7],[.im yT14],qkU⟩
theorem qE5:FOK Tryz.prog 147 qDe:=mkC (qA qD qrQ) qC Tryz.func147 7 (by kernel_rfl) (by kernel_rfl) (fun x=>by kernel_rfl)
noncomputable abbrev qCQ:qI:=⟨[(.sl yT2),(.sl yT2)],[.im yT14],qkM⟩
theorem qES:FOK Tryz.prog 148 qCQ:=mkC (qA qD zO) qC Tryz.func148 6 (by kernel_rfl) (by kernel_rfl) (fun x=>by kernel_rfl)
noncomputable abbrev qw5:qI:=⟨[(.sl yT18),(.sl yT18)],[.im yT14],qdQ⟩
theorem qyF:FOK Tryz.prog 149 qw5:=mkC (qA qD zO) qC Tryz.func149 6 (by kernel_rfl) (by kernel_rfl) (fun x=>by kernel_rfl)
noncomputable abbrev qCW:qI:=⟨[yT0,yT0],[.im yT14],yM⟩
theorem qrJ:FOK Tryz.prog 42 qCW:=mkC (qA (qA (qA (qA (qA (qA (qA (qA qD qyF) qES) qE5) qEY) qE0) qFi) qrO) zO) qC Tryz.func42 12 (by kernel_rfl) (by kernel_rfl) (fun x=>by kernel_rfl)
noncomputable abbrev qDq:qI:=⟨[yT9,yT9],[.im yT14],qfD⟩
theorem qFe:FOK Tryz.prog 115 qDq:=mkC (qA qD zO) qC Tryz.func115 6 (by kernel_rfl) (by kernel_rfl) (fun x=>by kernel_rfl)
noncomputable abbrev qr6:qI:=⟨[yT1,yT1],[.im yT14],zV⟩
theorem qh4:FOK Tryz.prog 25 qr6:=mkC (qA (qA qD qFe) qrJ) qC Tryz.func25 7 (by kernel_rfl) (by kernel_rfl) (fun x=>by kernel_rfl)
noncomputable abbrev qr7:qI:=⟨[yT6],[.im yT6],qaW⟩
theorem qh5:FOK Tryz.prog 119 qr7:=mkC qD qC Tryz.func119 3 (by kernel_rfl) (by kernel_rfl) (fun x=>by kernel_rfl)
noncomputable abbrev qGa:qI:=⟨[yT3],[.im yT14],qe6⟩
theorem qwG:FOK Tryz.prog 29 qGa:=mkC qD qC Tryz.func29 3 (by kernel_rfl) (by kernel_rfl) (fun x=>by kernel_rfl)
noncomputable abbrev qz8:qI:=⟨[yT1],[.im yT1],vQ⟩
theorem qoV:FOK Tryz.prog 127 qz8:=mkC (qA qD qoX) qC Tryz.func127 3 (by kernel_rfl) (by kernel_rfl) (fun x=>by kernel_rfl)
noncomputable abbrev qw7:qI:=⟨[yT3,yT4],[.im yT3, .im yT4],qiQ⟩
theorem qyH:FOK Tryz.prog 261 qw7:=mkC qD qC Tryz.func261 6 (by kernel_rfl) (by kernel_rfl) (fun x=>by kernel_rfl)
noncomputable abbrev qz9:qI:=⟨[yT3,yT4],[.ow yT11],qf6⟩
theorem qBI:FOK Tryz.prog 166 qz9:=mkC (qA (qA qD qyH) qhF) qC Tryz.func166 9 (by kernel_rfl) (by kernel_rfl) (fun x=>by kernel_rfl)
noncomputable abbrev qw2:qI:=⟨[yT1,yT3,yT4],[.im yT1],vP⟩
theorem qyD:FOK Tryz.prog 128 qw2:=mkC (qA (qA qD qBI) qrI) qC Tryz.func128 9 (by kernel_rfl) (by kernel_rfl) (fun x=>by kernel_rfl)
noncomputable abbrev qt3:qI:=⟨[yT1,yT3],[.im yT1],qb0⟩
theorem qwB:FOK Tryz.prog 32 qt3:=mkC (qA (qA (qA (qA (qA (qA (qA qD qyD) qoV) qh5) qo1) qHT) qj1) zO) qC Tryz.func32 9 (by kernel_rfl) (by kernel_rfl) (fun x=>by kernel_rfl)
noncomputable abbrev qAi:qI:=⟨[yT12,yT4,yT4],[.im yT14],qgB⟩
theorem qBN:FOK Tryz.prog 131 qAi:=mkC (qA qD qrM) qC Tryz.func131 8 (by kernel_rfl) (by kernel_rfl) (fun x=>by kernel_rfl)
noncomputable abbrev qr4:qI:=⟨[yT1,yT3],[.im yT1],qaU⟩
theorem qsW:FOK Tryz.prog 34 qr4:=mkC (qA (qA (qA (qA (qA qD qj2) qBN) qoV) qh5) qsX) qC Tryz.func34 8 (by kernel_rfl) (by kernel_rfl) (fun x=>by kernel_rfl)
noncomputable abbrev qnG:qI:=⟨[yT1,yT3],[.im yT14],kY⟩
theorem qo8:FOK Tryz.prog 4 qnG:=mkC (qA (qA (qA (qA (qA (qA (qA (qA (qA (qA qD qsW) jW) qwB) vX) qhG) qwG) kM) qh4) qwC) wL) qC Tryz.func4 6 (by kernel_rfl) (by kernel_rfl) (fun x=>by kernel_rfl)
noncomputable abbrev qnE:qI:=⟨[yT1,yT3,yT5],[.im yT14],kW⟩
theorem qo6:FOK Tryz.prog 5 qnE:=mkC (qA (qA (qA (qA (qA (qA (qA (qA (qA (qA (qA (qA qD qdY) qoW) jW) vX) qhG) qwG) kM) qb8) qh4) qdF) qwC) wL) qC Tryz.func5 14 (by kernel_rfl) (by kernel_rfl) (fun x=>by kernel_rfl)
noncomputable abbrev qnF:qI:=⟨[(.pair yT11 (.pair yT11 (.pair (.ar 8 yT11) (.pair yT14 yT22))))],[.im yT14],kX⟩
theorem qo7:FOK Tryz.prog 6 qnF:=mkC (qA (qA (qA (qA (qA (qA (qA (qA qD qrO) zO) qhL) qcA) jW) vX) qdF) wL) qC Tryz.func6 20 (by kernel_rfl) (by kernel_rfl) (fun x=>by kernel_rfl)
noncomputable abbrev qpZ:qI:=⟨[(.pair yT11 (.pair yT11 (.pair (.ar 8 yT11) (.pair (.ar 8 yT11) yT22))))],[.im yT14],wH⟩
theorem qqQ:FOK Tryz.prog 7 qpZ:=mkC (qA (qA (qA (qA (qA (qA (qA (qA qD qj1) zO) qhL) qcA) jW) vX) qdF) wL) qC Tryz.func7 22 (by kernel_rfl) (by kernel_rfl) (fun x=>by kernel_rfl)
noncomputable abbrev qF9:qI:=⟨[yT0],[.im yT0],qe5⟩
theorem qHG:FOK Tryz.prog 43 qF9:=mkC qD qC Tryz.func43 3 (by kernel_rfl) (by kernel_rfl) (fun x=>by kernel_rfl)
noncomputable abbrev qnH:qI:=⟨[(.pair yT11 (.pair yT11 (.pair (.ar 8 yT11) (.pair yT11 yT22))))],[.im yT14],kZ⟩
theorem qo9:FOK Tryz.prog 8 qnH:=mkC (qA (qA (qA (qA (qA (qA (qA qD qHG) qrJ) qcA) jW) qb8) qdF) wL) qC Tryz.func8 18 (by kernel_rfl) (by kernel_rfl) (fun x=>by kernel_rfl)
end Yp
namespace Yp
open Go
set_option maxRecDepth 100000
set_option maxHeartbeats 2000000
def tn (x n:UInt32):UInt32:=u32 (orI .u32 (n32 (u32 (shrI .u32 (n32 x) (n32 n)))) (n32 (u32 (shlI .u32 (n32 x) (n32 (u32 (isub (n32 (u32 32)) (n32 n))))))))
theorem qd2 (x n:UInt32):jU (x,n,())=some (tn x n,()):=rfl
theorem qLq (a b:UInt32):u32 (orI .u32 (n32 a) (n32 b))=u32 (orI .u32 (n32 b) (n32 a)):=by rw [or32,or32,UInt32.or_comm]
theorem qlS {x:UInt32} {k:Int} {n:UInt32} (h1:n64 (u64 (andI .u64 (n64 (u64 k)) (n64 (u64 31))))=n32 (u32 (isub (n32 (u32 32)) (n32 n)))) (h2:n64 (u64 (isub (n64 (u64 32)) (n64 (u64 (andI .u64 (n64 (u64 k)) (n64 (u64 31)))))))=n32 n) :
  qJ (x,k,())=some (tn x n,()):=by
 unfold qJ tn
 dsimp only
 rw [qLq,h2,h1]
theorem r2 (x:UInt32):qJ (x, -2,())=some (tn x (u32 2),()):=qlS (by decide +kernel) (by decide +kernel)
theorem r3 (x:UInt32):qJ (x, -13,())=some (tn x (u32 13),()):=qlS (by decide +kernel) (by decide +kernel)
theorem r4 (x:UInt32):qJ (x, -22,())=some (tn x (u32 22),()):=qlS (by decide +kernel) (by decide +kernel)
theorem r6 (x:UInt32):qJ (x, -6,())=some (tn x (u32 6),()):=qlS (by decide +kernel) (by decide +kernel)
theorem r11 (x:UInt32):qJ (x, -11,())=some (tn x (u32 11),()):=qlS (by decide +kernel) (by decide +kernel)
theorem r25 (x:UInt32):qJ (x, -25,())=some (tn x (u32 25),()):=qlS (by decide +kernel) (by decide +kernel)
theorem r7 (x:UInt32):qJ (x, -7,())=some (tn x (u32 7),()):=qlS (by decide +kernel) (by decide +kernel)
theorem r18 (x:UInt32):qJ (x, -18,())=some (tn x (u32 18),()):=qlS (by decide +kernel) (by decide +kernel)
theorem r17 (x:UInt32):qJ (x, -17,())=some (tn x (u32 17),()):=qlS (by decide +kernel) (by decide +kernel)
theorem r19 (x:UInt32):qJ (x, -19,())=some (tn x (u32 19),()):=qlS (by decide +kernel) (by decide +kernel)
def qOq (a b c d:UInt8):UInt32 :=
 u32 (iadd (n32 (u32 (iadd (n32 (u32 (iadd (n32 (u32 (imul (n32 (u32 (n8 a))) (n32 (u32 16777216))))) (n32 (u32 (imul (n32 (u32 (n8 b))) (n32 (u32 65536)))))))) (n32 (u32 (imul (n32 (u32 (n8 c))) (n32 (u32 256)))))))) (n32 (u32 (n8 d))))
def qP0 (a b c d:UInt8):UInt32 :=
 u32 (orI .u32 (n32 (u32 (orI .u32 (n32 (u32 (orI .u32 (n32 (u32 (shlI .u32 (n32 (u32 (n8 a))) (n64 (u64 24))))) (n32 (u32 (shlI .u32 (n32 (u32 (n8 b))) (n64 (u64 16)))))))) (n32 (u32 (shlI .u32 (n32 (u32 (n8 c))) (n64 (u64 8)))))))) (n32 (u32 (n8 d))))
theorem wF {a:Int} (h:0≤a∧a < 4294967296):n32 (u32 a)=a:=by
 show (((BitVec.ofNat 32 ((a % 2 ^ 32).toNat)).toNat:Nat):Int)=a
 rw [BitVec.toNat_ofNat];omega
theorem qiA {a:Nat} (h:a < 4294967296):(u32 (a:Int)).toNat=a:=by
 have:=wF (a:=(a:Int)) (by omega)
 unfold n32 at this;omega
theorem qOp (a b c d:UInt8):qP0 a b c d=qOq a b c d:=by
 have ha:=a.toNat_lt;have hb:=b.toNat_lt;have hc:=c.toNat_lt;have hd:=d.toNat_lt
 unfold qP0 qOq
 have e1:∀ x:UInt8,n32 (u32 (n8 x))=(x.toNat:Int):=fun x=>by
  have:=x.toNat_lt
  exact wF (a:=(x.toNat:Int)) (by omega)
 have s1:∀ (x:UInt8),shlI .u32 (n32 (u32 (n8 x))) (n64 (u64 24))=((x.toNat*16777216:Nat):Int):=fun x=>by rw [e1];show (x.toNat:Int)*2 ^ 24=_;omega
 have s2:∀ (x:UInt8),shlI .u32 (n32 (u32 (n8 x))) (n64 (u64 16))=((x.toNat*65536:Nat):Int):=fun x=>by rw [e1];show (x.toNat:Int)*2 ^ 16=_;omega
 have s3:∀ (x:UInt8),shlI .u32 (n32 (u32 (n8 x))) (n64 (u64 8))=((x.toNat*256:Nat):Int):=fun x=>by rw [e1];show (x.toNat:Int)*2 ^ 8=_;omega
 have m1:∀ (x:UInt8),imul (n32 (u32 (n8 x))) (n32 (u32 16777216))=((x.toNat*16777216:Nat):Int):=fun x=>by rw [e1,wF (by decide)];show (x.toNat:Int)*16777216=_;omega
 have m2:∀ (x:UInt8),imul (n32 (u32 (n8 x))) (n32 (u32 65536))=((x.toNat*65536:Nat):Int):=fun x=>by rw [e1,wF (by decide)];show (x.toNat:Int)*65536=_;omega
 have m3:∀ (x:UInt8),imul (n32 (u32 (n8 x))) (n32 (u32 256))=((x.toNat*256:Nat):Int):=fun x=>by rw [e1,wF (by decide)];show (x.toNat:Int)*256=_;omega
 rw [s1,s2,s3,m1,m2,m3,or32,or32,or32]
 have d1:(u32 (n8 d)).toNat=d.toNat:=qiA (by omega)
 apply UInt32.toNat_inj.1
 rw [UInt32.toNat_or,UInt32.toNat_or,UInt32.toNat_or,qiA (by omega),qiA (by omega),qiA (by omega),d1]
 have o3:(c.toNat*256) ||| d.toNat=c.toNat*256+d.toNat:=by
  have:=Nat.two_pow_add_eq_or_of_lt (i:=8) (b:=d.toNat) (by omega) c.toNat
  rw [Nat.mul_comm];exact this.symm
 have o2:(b.toNat*65536) ||| (c.toNat*256+d.toNat)=b.toNat*65536+(c.toNat*256+d.toNat):=by
  have:=Nat.two_pow_add_eq_or_of_lt (i:=16) (b:=c.toNat*256+d.toNat) (by omega) b.toNat
  rw [Nat.mul_comm b.toNat];exact this.symm
 have o1:(a.toNat*16777216) ||| (b.toNat*65536+(c.toNat*256+d.toNat))=a.toNat*16777216+(b.toNat*65536+(c.toNat*256+d.toNat)):=by
  have:=Nat.two_pow_add_eq_or_of_lt (i:=24) (b:=b.toNat*65536+(c.toNat*256+d.toNat)) (by omega) a.toNat
  rw [Nat.mul_comm a.toNat];exact this.symm
 rw [Nat.or_assoc,Nat.or_assoc,o3,o2,o1]
 have q1:iadd (n32 (u32 ((a.toNat*16777216:Nat):Int))) (n32 (u32 ((b.toNat*65536:Nat):Int)))=((a.toNat*16777216+b.toNat*65536:Nat):Int):=by
  rw [wF (by omega),wF (by omega)];show (_:Int)+_=_;omega
 rw [q1]
 have q2:iadd (n32 (u32 ((a.toNat*16777216+b.toNat*65536:Nat):Int))) (n32 (u32 ((c.toNat*256:Nat):Int)))=((a.toNat*16777216+b.toNat*65536+c.toNat*256:Nat):Int):=by
  rw [wF (by omega),wF (by omega)];show (_:Int)+_=_;omega
 rw [q2]
 have q3:iadd (n32 (u32 ((a.toNat*16777216+b.toNat*65536+c.toNat*256:Nat):Int))) (n32 (u32 (n8 d)))=((a.toNat*16777216+b.toNat*65536+c.toNat*256+d.toNat:Nat):Int):=by
  rw [wF (by omega),e1];show (_:Int)+_=_;omega
 rw [q3,qiA (by omega)];omega
def mixW (m2 m7 m15 m16:UInt32):UInt32 :=
 u32 (iadd (n32 (u32 (iadd (n32 (u32 (iadd (n32 (u32 (xorI .u32 (n32 (u32 (xorI .u32 (n32 (tn m2 (u32 17))) (n32 (tn m2 (u32 19)))))) (n32 (u32 (shrI .u32 (n32 m2) (n64 (u64 10)))))))) (n32 m7)))) (n32 (u32 (xorI .u32 (n32 (u32 (xorI .u32 (n32 (tn m15 (u32 7))) (n32 (tn m15 (u32 18)))))) (n32 (u32 (shrI .u32 (n32 m15) (n64 (u64 3))))))))))) (n32 m16))
def q8 (b:BB) (i:Nat):UInt8:=b.getD i 0
def q32 (m:List UInt32) (i:Nat):UInt32:=m.getD i 0
def sch (b:BB) (at':Nat):Nat→List UInt32
 | 0=>List.replicate 64 0
 | t+1=>(sch b at' t).set t (if t < 16 then qOq (q8 b (at'+4*t)) (q8 b (at'+4*t+1)) (q8 b (at'+4*t+2)) (q8 b (at'+4*t+3))
   else mixW (q32 (sch b at' t) (t - 2)) (q32 (sch b at' t) (t - 7)) (q32 (sch b at' t) (t - 15)) (q32 (sch b at' t) (t - 16)))
theorem qeY (b:BB) (at':Nat):∀ t,(sch b at' t).length=64
 | 0=>by simp [sch]
 | t+1=>by rw [sch,List.length_set];exact qeY b at' t
theorem qCJ {b c:BB} {x y:Nat} (h:∀ i,i < 64→q8 b (x+i)=q8 c (y+i)):∀ t,sch b x t=sch c y t
 | 0=>rfl
 | t+1=>by
  rw [sch,sch,qCJ h t]
  by_cases ht:t < 16
  ·rw [if_pos ht,if_pos ht,h (4*t) (by omega),Nat.add_assoc x,Nat.add_assoc x,Nat.add_assoc x,h (4*t+1) (by omega),h (4*t+2) (by omega),h (4*t+3) (by omega)];rfl
  ·rw [if_neg ht,if_neg ht]
theorem i64n {n:Nat} {a:Int} (h:a=(n:Int)) (hn:n≤9223372036854775807):i64 a=(n:Int):=by rw [h];exact zS (by omega) (by omega)
theorem qtV (b:BB) (hb:b.length=64):qkF (b,())=some (sch b 0 64,()):=by
 unfold qkF
 generalize hf:(fun (x_1:Int×List UInt32×Unit)=>_)=f
 have step:∀ t:Nat,t < 64→f ((t:Int),sch b 0 t,())=some (.nx (((t+1:Nat):Int),sch b 0 (t+1),())):=by
  intro t ht
  subst hf
  have hi:i64 (iadd (t:Int) 1)=((t+1:Nat):Int):=i64n (by show (t:Int)+1=_;omega) (by omega)
  refine (qE (by simp only [go_sem,Int.reduceToNat];omega)).trans ?_
  by_cases h16:t < 16
  ·have e0:i64 (imul 4 (t:Int))=((4*t:Nat):Int):=i64n (by show 4*(t:Int)=_;omega) (by omega)
   have e1:i64 (iadd (i64 (imul 4 (t:Int))) 1)=((4*t+1:Nat):Int):=by rw [e0];exact i64n (by show ((4*t:Nat):Int)+1=_;omega) (by omega)
   have e2:i64 (iadd (i64 (imul 4 (t:Int))) 2)=((4*t+2:Nat):Int):=by rw [e0];exact i64n (by show ((4*t:Nat):Int)+2=_;omega) (by omega)
   have e3:i64 (iadd (i64 (imul 4 (t:Int))) 3)=((4*t+3:Nat):Int):=by rw [e0];exact i64n (by show ((4*t:Nat):Int)+3=_;omega) (by omega)
   refine (qE (by simp only [go_sem,Int.reduceToNat];omega)).trans ?_
   dsimp only
   rw [e1,e2,e3,e0,hi]
   refine (qH (by simp only [go_sem,Int.reduceToNat];omega)).trans ((qH (by simp only [go_sem,Int.reduceToNat];omega)).trans ((qH (by simp only [go_sem,Int.reduceToNat];omega)).trans ((qH (by simp only [go_sem,Int.reduceToNat];omega)).trans ((qH (by simp only [go_sem,Int.reduceToNat];omega)).trans ?_))))
   have hw:=qOp (q8 b (4*t)) (q8 b (4*t+1)) (q8 b (4*t+2)) (q8 b (4*t+3))
   rw [sch,if_pos h16,Nat.zero_add,← hw]
   rfl
  ·have e15:i64 (isub (t:Int) 15)=((t - 15:Nat):Int):=i64n (by show (t:Int) - 15=_;omega) (by omega)
   have e2:i64 (isub (t:Int) 2)=((t - 2:Nat):Int):=i64n (by show (t:Int) - 2=_;omega) (by omega)
   have e7:i64 (isub (t:Int) 7)=((t - 7:Nat):Int):=i64n (by show (t:Int) - 7=_;omega) (by omega)
   have e16:i64 (isub (t:Int) 16)=((t - 16:Nat):Int):=i64n (by show (t:Int) - 16=_;omega) (by omega)
   refine (qB (by simp only [go_sem,Int.reduceToNat];omega)).trans ?_
   dsimp only
   rw [e15,e2,e7,e16,hi]
   refine (qH (by simp only [go_sem,Int.reduceToNat];omega)).trans ?_
   refine (qH (by simp only [go_sem,Int.reduceToNat];omega)).trans ?_
   rw [r7]
   refine (qF rfl).trans ?_
   rw [r18]
   refine (qF rfl).trans ?_
   rw [r17]
   refine (qF rfl).trans ?_
   rw [r19]
   refine (qF rfl).trans ?_
   refine (qH (by simp only [go_sem,Int.reduceToNat];omega)).trans ?_
   refine (qH (by simp only [go_sem,Int.reduceToNat];omega)).trans ?_
   refine (qH (by simp only [go_sem,Int.reduceToNat];omega)).trans ?_
   rw [sch,if_neg h16]
   rfl
 have hend:∀ m,f (((64:Nat):Int),m,())=some (.ex 0 (((64:Nat):Int),m,())):=by subst hf;intro m;exact qB rfl
 have hloop:loop f (((0:Nat):Int),sch b 0 0,())=some (.ex 0 (((64:Nat):Int),sch b 0 64,())) :=
  (qN (f:=f) (fun t=>((t:Int),sch b 0 t,())) 64 step 0 (Nat.zero_le _)).trans (qV (hend _))
 generalize hs:sch b 0 64=m at hloop
 refine (zA (show loop f _=_ from hloop)).trans ?_
 rfl
end Yp
namespace Yp
open Go
set_option maxRecDepth 100000
set_option maxHeartbeats 2000000
abbrev R8:=UInt32×UInt32×UInt32×UInt32×UInt32×UInt32×UInt32×UInt32
def t1D (k m h g f e:UInt32):UInt32 :=
 u32 (iadd (n32 (u32 (iadd (n32 (u32 (iadd (n32 (u32 (iadd (n32 h) (n32 (u32 (xorI .u32 (n32 (u32 (xorI .u32 (n32 (tn e (u32 6))) (n32 (tn e (u32 11)))))) (n32 (tn e (u32 25))))))))) (n32 (u32 (xorI .u32 (n32 (u32 (andI .u32 (n32 e) (n32 f)))) (n32 (u32 (andI .u32 (n32 (u32 (xorI .u32 4294967295 (n32 e)))) (n32 g)))))))))) (n32 k)))) (n32 m))
def t2D (c b a:UInt32):UInt32 :=
 u32 (iadd (n32 (u32 (xorI .u32 (n32 (u32 (xorI .u32 (n32 (tn a (u32 2))) (n32 (tn a (u32 13)))))) (n32 (tn a (u32 22)))))) (n32 (u32 (xorI .u32 (n32 (u32 (xorI .u32 (n32 (u32 (andI .u32 (n32 a) (n32 b)))) (n32 (u32 (andI .u32 (n32 a) (n32 c))))))) (n32 (u32 (andI .u32 (n32 b) (n32 c))))))))
def nxt (k m:UInt32) (s:R8):R8 :=
 (s.2.1,s.2.2.1,s.2.2.2.1,u32 (iadd (n32 s.2.2.2.2.1) (n32 (t1D k m s.1 s.2.1 s.2.2.1 s.2.2.2.1))),s.2.2.2.2.2.1,s.2.2.2.2.2.2.1,s.2.2.2.2.2.2.2,
  u32 (iadd (n32 (t1D k m s.1 s.2.1 s.2.2.1 s.2.2.2.1)) (n32 (t2D s.2.2.2.2.2.1 s.2.2.2.2.2.2.1 s.2.2.2.2.2.2.2))))
def rounds (ms:List UInt32) (s:R8):Nat→R8
 | 0=>s
 | t+1=>nxt (q32 qh9 t) (q32 ms t) (rounds ms s t)
def r8L (s:R8):List UInt32:=[s.2.2.2.2.2.2.2,s.2.2.2.2.2.2.1,s.2.2.2.2.2.1,s.2.2.2.2.1,s.2.2.2.1,s.2.2.1,s.2.1,s.1]
def addL (w:List UInt32) (s:R8):List UInt32 :=
  [u32 (iadd (n32 (q32 w 0)) (n32 s.2.2.2.2.2.2.2)),u32 (iadd (n32 (q32 w 1)) (n32 s.2.2.2.2.2.2.1)),u32 (iadd (n32 (q32 w 2)) (n32 s.2.2.2.2.2.1)),u32 (iadd (n32 (q32 w 3)) (n32 s.2.2.2.2.1)),
   u32 (iadd (n32 (q32 w 4)) (n32 s.2.2.2.1)),u32 (iadd (n32 (q32 w 5)) (n32 s.2.2.1)),u32 (iadd (n32 (q32 w 6)) (n32 s.2.1)),u32 (iadd (n32 (q32 w 7)) (n32 s.1))]
def ofL (w:List UInt32):R8:=(q32 w 7,q32 w 6,q32 w 5,q32 w 4,q32 w 3,q32 w 2,q32 w 1,q32 w 0)
def qw0 (w:List UInt32) (b:BB) (at':Nat):List UInt32:=addL w (rounds (sch b at' 64) (ofL w) 64)
theorem eight {α:Type} {w:List α} (h:w.length=8):∃ a b c d e f g i,w=[a,b,c,d,e,f,g,i]:=by
 match w,h with
 | [a,b,c,d,e,f,g,i],_=>exact ⟨a,b,c,d,e,f,g,i,rfl⟩
theorem qmC {b c:BB} {x y:Nat} (h:∀ i,i < 64→q8 b (x+i)=q8 c (y+i)) (w:List UInt32):qw0 w b x=qw0 w c y:=by unfold qw0;rw [qCJ h]
theorem qlN (w:List UInt32) (hw:w.length=8) (b:BB) (hb:b.length=64):qiD (w,b,())=some (qw0 w b 0,0,()):=by
 unfold qiD
 refine (qB (by simp only [go_sem,Int.reduceToNat];omega)).trans ?_
 dsimp only
 rw [qtV b hb]
 have hm:=qeY b 0 64
 unfold qw0
 generalize sch b 0 64=m at hm
 refine (qF rfl).trans ?_
 obtain ⟨w0,w1,w2,w3,w4,w5,w6,w7,rfl⟩:=eight hw
 generalize hf:(fun (x:Int×List UInt32×Unit)=>(_:Option (LS (Int×List UInt32×Unit) (List UInt32×Int×Unit))))=f
 obtain ⟨s,hs⟩:∃ s,s=ofL [w0,w1,w2,w3,w4,w5,w6,w7]:=⟨_,rfl⟩
 have step:∀ t:Nat,t < 64→f ((t:Int),r8L (rounds m s t),())=some (.nx (((t+1:Nat):Int),r8L (rounds m s (t+1)),())):=by
  intro t ht
  subst hf
  have hi:i64 (iadd (t:Int) 1)=((t+1:Nat):Int):=i64n (by show (t:Int)+1=_;omega) (by omega)
  rw [show rounds m s (t+1)=nxt (q32 qh9 t) (q32 m t) (rounds m s t) from rfl]
  generalize rounds m s t=r
  obtain ⟨h,g,f,e,d,c,b,a⟩:=r
  refine (qE (by simp only [go_sem,Int.reduceToNat];omega)).trans ?_
  dsimp only [r8L]
  rw [hi]
  refine (qH (by simp only [go_sem,Int.reduceToNat];omega)).trans ?_
  refine (qH rfl).trans ?_
  refine (qH rfl).trans ?_
  rw [show nth [a,b,c,d,e,f,g,h] (nat 4) (u32 0)=e from rfl,r6]
  refine (qF rfl).trans ?_
  rw [r11]
  refine (qF rfl).trans ?_
  rw [r25]
  refine (qF rfl).trans ?_
  rw [show nth [a,b,c,d,e,f,g,h] (nat 0) (u32 0)=a from rfl,r2]
  refine (qF rfl).trans ?_
  rw [r3]
  refine (qF rfl).trans ?_
  rw [r4]
  refine (qF rfl).trans ?_
  refine (qH rfl).trans ?_
  refine (qH rfl).trans ?_
  refine (qH rfl).trans ?_
  refine (qH (by simp only [go_sem,Int.reduceToNat];omega)).trans ?_
  refine (qH rfl).trans ?_
  refine (qH rfl).trans ?_
  refine (qH rfl).trans ?_
  refine (qH rfl).trans ?_
  refine (qH rfl).trans ?_
  refine (qH rfl).trans ?_
  refine (qH rfl).trans ?_
  refine (qH rfl).trans ?_
  refine (qH rfl).trans ?_
  rfl
 have hend:∀ v,f (((64:Nat):Int),v,())=some (.ex 0 (((64:Nat):Int),v,())):=by subst hf;intro v;exact qB rfl
 have hloop:loop f (((0:Nat):Int),r8L (rounds m s 0),())=some (.ex 0 (((64:Nat):Int),r8L (rounds m s 64),())) :=
  (qN (f:=f) (fun t=>((t:Int),r8L (rounds m s t),())) 64 step 0 (Nat.zero_le _)).trans (qV (hend _))
 have h0:r8L (rounds m s 0)=[w0,w1,w2,w3,w4,w5,w6,w7]:=by rw [hs];rfl
 rw [h0] at hloop
 rw [← hs]
 generalize rounds m s 64=r at hloop
 obtain ⟨h,g,f',e,d,c,b',a⟩:=r
 refine (zA (show loop f (0,[w0,w1,w2,w3,w4,w5,w6,w7],())=_ from hloop)).trans ?_
 refine (qH g62).trans ?_
 refine (zA (qgY (r := .ex 2 (((8:Nat):Int),addL [w0,w1,w2,w3,w4,w5,w6,w7] (h,g,f',e,d,c,b',a),())) 9 rfl)).trans ?_
 rfl
theorem qiY (w:List UInt32) (hw:w.length=8) (b:BB) (n:Nat) (hb:n+64≤b.length) (hl:b.length≤4611686018427387904):qfG (w,b,(n:Int),qh9,())=some (qw0 w b n,()):=by
 unfold qfG
 refine (qH (by decide)).trans ?_
 generalize hf:(fun (x_1:Int×List UInt32×Unit)=>(_:Option (LS (Int×List UInt32×Unit) (List UInt32×Unit))))=f
 have step:∀ t:Nat,t < 16→f ((t:Int),sch b n t,())=some (.nx (((t+1:Nat):Int),sch b n (t+1),())):=by
  intro t ht
  subst hf
  have hi:i64 (iadd (t:Int) 1)=((t+1:Nat):Int):=i64n (by show (t:Int)+1=_;omega) (by omega)
  have hm:=qeY b n t
  have e4:i64 (imul 4 (t:Int))=((4*t:Nat):Int):=i64n (by show 4*(t:Int)=_;omega) (by omega)
  have e0:i64 (iadd (n:Int) (i64 (imul 4 (t:Int))))=((n+4*t:Nat):Int):=by rw [e4];exact i64n (by show (n:Int)+((4*t:Nat):Int)=_;omega) (by omega)
  have e1:i64 (iadd (i64 (iadd (n:Int) (i64 (imul 4 (t:Int))))) 1)=((n+4*t+1:Nat):Int):=by rw [e0];exact i64n (by show ((n+4*t:Nat):Int)+1=_;omega) (by omega)
  have e2:i64 (iadd (i64 (iadd (n:Int) (i64 (imul 4 (t:Int))))) 2)=((n+4*t+2:Nat):Int):=by rw [e0];exact i64n (by show ((n+4*t:Nat):Int)+2=_;omega) (by omega)
  have e3:i64 (iadd (i64 (iadd (n:Int) (i64 (imul 4 (t:Int))))) 3)=((n+4*t+3:Nat):Int):=by rw [e0];exact i64n (by show ((n+4*t:Nat):Int)+3=_;omega) (by omega)
  refine (qE (by simp only [go_sem,Int.reduceToNat];omega)).trans ?_
  dsimp only
  rw [e1,e2,e3,e0,hi]
  refine (qH (by simp only [go_sem,Int.reduceToNat];omega)).trans ?_
  refine (qH (by simp only [go_sem,Int.reduceToNat];omega)).trans ?_
  refine (qH (by simp only [go_sem,Int.reduceToNat];omega)).trans ?_
  refine (qH (by simp only [go_sem,Int.reduceToNat];omega)).trans ?_
  refine (qH (by simp only [go_sem,Int.reduceToNat];omega)).trans ?_
  rw [sch,if_pos ht]
  rfl
 have hend:∀ v,f (((16:Nat):Int),v,())=some (.ex 0 (((16:Nat):Int),v,())):=by subst hf;intro v;exact qB rfl
 have hloop:loop f (((0:Nat):Int),sch b n 0,())=some (.ex 0 (((16:Nat):Int),sch b n 16,())) :=
  (qN (f:=f) (fun t=>((t:Int),sch b n t,())) 16 step 0 (Nat.zero_le _)).trans (qV (hend _))
 refine (zA (show loop f (0,rep (nat 64) (u32 0),())=_ from hloop)).trans ?_
 clear hloop hend step
 refine (qH g62).trans ?_
 dsimp only
 clear hf f
 generalize hf:(fun (x:Int×List UInt32×Unit)=>(_:Option (LS (Int×List UInt32×Unit) (List UInt32×Unit))))=f
 have step:∀ t:Nat,16≤t→t < 64→f ((t:Int),sch b n t,())=some (.nx (((t+1:Nat):Int),sch b n (t+1),())):=by
  intro t h16 ht
  subst hf
  have hi:i64 (iadd (t:Int) 1)=((t+1:Nat):Int):=i64n (by show (t:Int)+1=_;omega) (by omega)
  have hm:=qeY b n t
  have e15:i64 (isub (t:Int) 15)=((t - 15:Nat):Int):=i64n (by show (t:Int) - 15=_;omega) (by omega)
  have e2:i64 (isub (t:Int) 2)=((t - 2:Nat):Int):=i64n (by show (t:Int) - 2=_;omega) (by omega)
  have e7:i64 (isub (t:Int) 7)=((t - 7:Nat):Int):=i64n (by show (t:Int) - 7=_;omega) (by omega)
  have e16:i64 (isub (t:Int) 16)=((t - 16:Nat):Int):=i64n (by show (t:Int) - 16=_;omega) (by omega)
  refine (qE (by simp only [go_sem,Int.reduceToNat];omega)).trans ?_
  dsimp only
  rw [e15,e2,e7,e16,hi]
  refine (qH (by simp only [go_sem,Int.reduceToNat];omega)).trans ?_
  refine (qH (by simp only [go_sem,Int.reduceToNat];omega)).trans ?_
  rw [qd2]
  refine (qF rfl).trans ?_
  rw [qd2]
  refine (qF rfl).trans ?_
  rw [qd2]
  refine (qF rfl).trans ?_
  rw [qd2]
  refine (qF rfl).trans ?_
  refine (qH (by simp only [go_sem,Int.reduceToNat];omega)).trans ?_
  refine (qH (by simp only [go_sem,Int.reduceToNat];omega)).trans ?_
  refine (qH (by simp only [go_sem,Int.reduceToNat];omega)).trans ?_
  rw [sch,if_neg (by omega)]
  rfl
 have hend:∀ v,f (((64:Nat):Int),v,())=some (.ex 2 (((64:Nat):Int),v,())):=by subst hf;intro v;exact qB rfl
 have hloop:loop f (((16:Nat):Int),sch b n 16,())=some (.ex 2 (((64:Nat):Int),sch b n 64,())) :=
  (qN (f:=f) (fun t=>(((16+t:Nat):Int),sch b n (16+t),())) 48 (fun t ht=>step (16+t) (by omega) (by omega)) 0 (Nat.zero_le _)).trans (qV (hend _))
 refine (zA (show loop f (16,sch b n 16,())=_ from hloop)).trans ?_
 clear hloop hend step hf f
 refine (qH g62).trans ?_
 have hm:=qeY b n 64
 unfold qw0
 generalize sch b n 64=m at hm
 obtain ⟨w0,w1,w2,w3,w4,w5,w6,w7,rfl⟩:=eight hw
 refine (qH rfl).trans ((qH rfl).trans ((qH rfl).trans ((qH rfl).trans ((qH rfl).trans ((qH rfl).trans ((qH rfl).trans ((qH rfl).trans ?_)))))))
 dsimp only
 generalize hf:(fun (x_1:UInt32×UInt32×UInt32×UInt32×UInt32×UInt32×UInt32×UInt32×Int×Unit)=>(_:Option (LS (UInt32×UInt32×UInt32×UInt32×UInt32×UInt32×UInt32×UInt32×Int×Unit) (List UInt32×Unit))))=f
 obtain ⟨s,hs⟩:∃ s,s=ofL [w0,w1,w2,w3,w4,w5,w6,w7]:=⟨_,rfl⟩
 let st:R8→Nat→UInt32×UInt32×UInt32×UInt32×UInt32×UInt32×UInt32×UInt32×Int×Unit:=fun r t=>(r.1,r.2.1,r.2.2.1,r.2.2.2.1,r.2.2.2.2.1,r.2.2.2.2.2.1,r.2.2.2.2.2.2.1,r.2.2.2.2.2.2.2,(t:Int),())
 have step:∀ t:Nat,t < 64→f (st (rounds m s t) t)=some (.nx (st (rounds m s (t+1)) (t+1))):=by
  intro t ht
  subst hf
  have hi:i64 (iadd (t:Int) 1)=((t+1:Nat):Int):=i64n (by show (t:Int)+1=_;omega) (by omega)
  have hk:(qh9:List UInt32).length=64:=rfl
  rw [show rounds m s (t+1)=nxt (q32 qh9 t) (q32 m t) (rounds m s t) from rfl]
  generalize rounds m s t=r
  obtain ⟨h,g,f,e,d,c,b,a⟩:=r
  dsimp only [st]
  refine (qE (by simp only [go_sem,Int.reduceToNat];omega)).trans ?_
  rw [hi,qd2]
  refine (qF rfl).trans ?_
  rw [qd2]
  refine (qF rfl).trans ?_
  rw [qd2]
  refine (qF rfl).trans ?_
  refine (qH (by simp only [go_sem,Int.reduceToNat];omega)).trans ?_
  refine (qH (by simp only [go_sem,Int.reduceToNat];omega)).trans ?_
  rw [qd2]
  refine (qF rfl).trans ?_
  rw [qd2]
  refine (qF rfl).trans ?_
  rw [qd2]
  refine (qF rfl).trans ?_
  rfl
 have hend:∀ r,f (st r 64)=some (.ex 4 (st r 64)):=by subst hf;intro v;exact qB rfl
 have hloop:loop f (st (rounds m s 0) 0)=some (.ex 4 (st (rounds m s 64) 64)) :=
  (qN (f:=f) (fun t=>st (rounds m s t) t) 64 step 0 (Nat.zero_le _)).trans (qV (hend _))
 rw [show rounds m s 0=s from rfl] at hloop
 rw [← hs]
 generalize rounds m s 64=r at hloop
 obtain ⟨h,g,f',e,d,c,b',a⟩:=r
 rw [hs] at hloop
 refine (zA (show loop f (w7,w6,w5,w4,w3,w2,w1,w0,0,())=_ from hloop)).trans ?_
 refine (qH g62).trans ?_
 refine (qH rfl).trans ((qH rfl).trans ((qH rfl).trans ((qH rfl).trans ((qH rfl).trans ((qH rfl).trans ((qH rfl).trans ((qH rfl).trans ?_)))))))
 rfl
end Yp
namespace Yp
open Go
set_option maxRecDepth 100000
set_option maxHeartbeats 2000000
def eat (w:List UInt32) (l:BB):Nat→List UInt32
 | 0=>w
 | i+1=>qw0 (eat w l i) l (64*i)
theorem qaM {w:List UInt32} (hw:w.length=8) (l:BB):∀ i,(eat w l i).length=8
 | 0=>hw
 | _+1=>rfl
theorem qLe (l:BB) (k i:Nat):q8 (l.drop k) i=q8 l (k+i):=by
 unfold q8;rw [List.getD_eq_getElem?_getD,List.getElem?_drop,← List.getD_eq_getElem?_getD]
theorem qON (l:BB) {k i:Nat} (h:i < k):q8 (l.take k) i=q8 l i:=by
 unfold q8;rw [List.getD_eq_getElem?_getD,List.getElem?_take_of_lt h,← List.getD_eq_getElem?_getD]
theorem qCy (w:List UInt32) (l:BB) (k:Nat):qw0 w ((l.drop k).take 64) 0=qw0 w l k :=
 qmC (fun i hi=>by rw [Nat.zero_add,qON _ hi,qLe]) w
theorem qEJ {l m:BB} (w:List UInt32):∀ {i},(∀ j,j < 64*i→q8 l j=q8 m j)→eat w l i=eat w m i
 | 0,_=>rfl
 | i+1,h=>by
  rw [eat,eat,qEJ w fun j hj=>h j (by omega)]
  exact qmC (fun j hj=>h _ (by omega)) _
theorem qMj (w:List UInt32) (l:BB) (i:Nat):∀ j,eat w l (i+j)=eat (eat w l i) (l.drop (64*i)) j
 | 0=>rfl
 | j+1=>by
  rw [← Nat.add_assoc,eat,eat,qMj w l i j]
  exact qmC (fun k _=>by rw [qLe];congr 1;omega) _
abbrev HT:=List UInt32×Int×BB×Unit
def putD (h:HT) (b:BB):HT :=
 (eat h.1 (h.2.2.1++b) ((h.2.2.1++b).length / 64),h.2.1+(b.length:Int),(h.2.2.1++b).drop (64*((h.2.2.1++b).length / 64)),())
theorem cpy2 (r b:BB):cpy (cpy (rep (r.length+b.length) (u8 0)) 0 (ln (rep (r.length+b.length) (u8 0))) r) r.length (r.length+b.length - r.length) b=r++b:=by
 unfold cpy rep ln
 rw [List.length_replicate,List.take_zero,List.nil_append,List.take_of_length_le (show r.length≤r.length+b.length by omega),Nat.zero_add,Nat.min_eq_right (show r.length≤r.length+b.length by omega),List.drop_replicate,
  List.take_left,Nat.add_sub_cancel_left,List.take_of_length_le (Nat.le_refl _),Nat.min_self,List.drop_of_length_le (by simp),List.append_nil]
theorem qLO:qk3 ()=some (qh9,()):=rfl
theorem qCE (H:List UInt32) (hH:H.length=8) (N:Int) (r b:BB) (hN:0≤N) (hb:N+(b.length:Int)≤1125899906842624) (hr:r.length≤64) (hm:b.length≤1000000000):qf1 ((H,N,r,()),b,())=some (putD (H,N,r,()) b,()):=by
 unfold qf1
 have e0:i64 (isub 1125899906842624 N)=1125899906842624 - N:=zS (by show -9223372036854775808≤(1125899906842624:Int) - N;omega) (by show (1125899906842624:Int) - N≤9223372036854775807;omega)
 dsimp only
 rw [e0]
 refine (qB (by simp only [go_sem,Int.reduceToNat];omega)).trans ?_
 have e1:i64 (iadd (len r) (len b))=((r.length+b.length:Nat):Int):=i64n (by show (r.length:Int)+(b.length:Int)=_;omega) (by omega)
 have e2:i64 (iadd N (len b))=N+(b.length:Int):=zS (by show -9223372036854775808≤N+(b.length:Int);omega) (by show N+(b.length:Int)≤9223372036854775807;omega)
 rw [e1,e2]
 refine (qH (by simp only [go_sem,Int.reduceToNat];omega)).trans ?_
 have hlen:len (cpy (rep (nat ((r.length+b.length:Nat):Int)) (u8 0)) 0 (ln (rep (nat ((r.length+b.length:Nat):Int)) (u8 0))) r)=((r.length+b.length:Nat):Int):=by
  unfold len cpy rep ln nat
  simp only [Int.toNat_natCast,List.length_replicate,List.take_zero,List.nil_append,List.length_append,List.length_take,List.length_drop]
  omega
 rw [hlen]
 refine (qH (by simp only [go_sem,Int.reduceToNat];omega)).trans ?_
 rw [show nat (len r)=r.length from qU,show nat ((r.length+b.length:Nat):Int)=r.length+b.length from qU,show nsub (r.length+b.length) r.length=r.length+b.length - r.length from rfl,cpy2]
 generalize hf:(fun (x:BB×(List UInt32×Int×BB×Unit)×Unit)=>(_:Option (LS (BB×(List UInt32×Int×BB×Unit)×Unit) ((List UInt32×Int×BB×Unit)×Unit))))=f
 generalize hl:r++b=l
 have hll:l.length=r.length+b.length:=by rw [← hl,List.length_append]
 have step:∀ i,i < l.length / 64→f (l.drop (64*i),(eat H l i,N+(b.length:Int),r,()),())=some (.nx (l.drop (64*(i+1)),(eat H l (i+1),N+(b.length:Int),r,()),())):=by
  intro i hi
  subst hf
  have hd:(l.drop (64*i)).length=l.length - 64*i:=List.length_drop
  have hlen:len (l.drop (64*i))=((l.length - 64*i:Nat):Int):=by unfold len;rw [hd]
  dsimp only
  rw [hlen]
  refine (qE (by simp only [go_sem,Int.reduceToNat];omega)).trans ?_
  refine (qH (by simp only [go_sem,Int.reduceToNat];omega)).trans ?_
  rw [show cut (l.drop (64*i)) (nat 0) (nsub (nat 64) (nat 0))=(l.drop (64*i)).take 64 from rfl,qlN _ (qaM hH l i) _ (by rw [List.length_take,hd];omega)]
  refine (qF rfl).trans ?_
  refine (qH (by simp only [go_sem,Int.reduceToNat];omega)).trans ?_
  rw [qCy]
  have hc:cut (l.drop (64*i)) (nat 64) (nsub (nat ((l.length - 64*i:Nat):Int)) (nat 64))=l.drop (64*(i+1)):=by
   unfold cut
   rw [show nat 64=64 from rfl,qU,List.drop_drop,List.take_of_length_le (by rw [List.length_drop];show _≤l.length - 64*i - 64;omega)]
   congr 1
  rw [hc];rfl
 have hend:f (l.drop (64*(l.length / 64)),(eat H l (l.length / 64),N+(b.length:Int),r,()),())=some (.ex 0 (l.drop (64*(l.length / 64)),(eat H l (l.length / 64),N+(b.length:Int),r,()),())):=by
  subst hf
  have hlen:len (l.drop (64*(l.length / 64)))=((l.length - 64*(l.length / 64):Nat):Int):=by unfold len;rw [List.length_drop]
  dsimp only
  rw [hlen]
  exact qB (by simp only [go_sem,Int.reduceToNat];omega)
 have hloop:=(qN (f:=f) (fun i=>(l.drop (64*i),(eat H l i,N+(b.length:Int),r,()),())) (l.length / 64) step 0 (Nat.zero_le _)).trans (qV hend)
 refine (zA (show loop f (l,(H,N+(b.length:Int),r,()),())=_ from hloop)).trans ?_
 refine (qH g62).trans ?_
 subst hl;rfl
theorem qxZ (H:List UInt32) (hH:H.length=8) (N:Int) (r b:BB) (hN:0≤N) (hb:N+(b.length:Int)≤1125899906842624) (hr:r.length≤64) (hm:b.length≤1000000000):qi0 ((H,N,r,()),b,())=some (putD (H,N,r,()) b,()):=by
 unfold qi0
 have e0:i64 (isub 1125899906842624 N)=1125899906842624 - N:=zS (by show -9223372036854775808≤(1125899906842624:Int) - N;omega) (by show (1125899906842624:Int) - N≤9223372036854775807;omega)
 dsimp only
 rw [e0]
 refine (qB (by simp only [go_sem,Int.reduceToNat];omega)).trans ?_
 refine (qH (by simp only [go_sem,Int.reduceToNat];omega)).trans ?_
 rw [show app (none' UInt8) r=r from rfl]
 refine (qH (by simp only [go_sem,Int.reduceToNat];omega)).trans ?_
 rw [qLO]
 refine (qF rfl).trans ?_
 generalize hf:(fun (x_1:Int×(List UInt32×Int×BB×Unit)×Unit)=>(_:Option (LS (Int×(List UInt32×Int×BB×Unit)×Unit) ((List UInt32×Int×BB×Unit)×Unit))))=f
 rw [show app r b=r++b from rfl] at hf ⊢
 generalize hl:r++b=l at hf ⊢
 have hll:l.length=r.length+b.length:=by rw [← hl,List.length_append]
 have step:∀ i:Nat,i < l.length / 64→f (((64*i:Nat):Int),(eat H l i,N,r,()),())=some (.nx (((64*(i+1):Nat):Int),(eat H l (i+1),N,r,()),())):=by
  intro i hi
  subst hf
  have e:i64 (isub (len l) ((64*i:Nat):Int))=((l.length - 64*i:Nat):Int):=i64n (by show (l.length:Int) - _=_;omega) (by omega)
  have e':i64 (iadd ((64*i:Nat):Int) 64)=((64*(i+1):Nat):Int):=i64n (by show ((64*i:Nat):Int)+64=_;omega) (by omega)
  dsimp only
  rw [e,e']
  refine (qE (by simp only [go_sem,Int.reduceToNat];omega)).trans ?_
  rw [qiY _ (qaM hH l i) l (64*i) (by omega) (by omega)]
  rfl
 have hend:f (((64*(l.length / 64):Nat):Int),(eat H l (l.length / 64),N,r,()),())=some (.ex 0 (((64*(l.length / 64):Nat):Int),(eat H l (l.length / 64),N,r,()),())):=by
  subst hf
  have e:i64 (isub (len l) ((64*(l.length / 64):Nat):Int))=((l.length - 64*(l.length / 64):Nat):Int):=i64n (by show (l.length:Int) - _=_;omega) (by omega)
  dsimp only
  rw [e]
  exact qB (by simp only [go_sem,Int.reduceToNat];omega)
 have hloop:=(qN (f:=f) (fun i=>(((64*i:Nat):Int),(eat H l i,N,r,()),())) (l.length / 64) step 0 (Nat.zero_le _)).trans (qV hend)
 refine (zA (show loop f (0,(H,N,r,()),())=_ from hloop)).trans ?_
 refine (qH g62).trans ?_
 refine (qH (by simp only [go_sem,Int.reduceToNat];omega)).trans ?_
 have e2:i64 (iadd N (len b))=N+(b.length:Int):=zS (by show -9223372036854775808≤N+(b.length:Int);omega) (by show N+(b.length:Int)≤9223372036854775807;omega)
 have hc:cut l (nat ((64*(l.length / 64):Nat):Int)) (nsub (nat (len l)) (nat ((64*(l.length / 64):Nat):Int)))=l.drop (64*(l.length / 64)):=by
  unfold cut
  rw [qU,show nat (len l)=l.length from qU,List.take_of_length_le (by rw [List.length_drop];exact Nat.le_refl _)]
 dsimp only
 rw [e2,hc]
 subst hl;rfl
end Yp
namespace Yp
open Go
set_option maxRecDepth 100000
set_option maxHeartbeats 2000000
def zs (r:Nat):Nat:=(119 - r) % 64
def lenB (n:Int) (i:Nat):BB:=(List.range i).map fun j=>u8 (shrI .i64 (i64 (imul 8 n)) ((56 - 8*j:Nat):Int))
def padD (n:Int):BB:=[u8 128]++List.replicate (zs (n.toNat % 64)) (u8 0)++lenB n 8
def wb (x:UInt32):BB:=[u8 (n32 (u32 (shrI .u32 (n32 x) (n64 (u64 24))))),u8 (n32 (u32 (shrI .u32 (n32 x) (n64 (u64 16))))),u8 (n32 (u32 (shrI .u32 (n32 x) (n64 (u64 8))))),u8 (n32 x)]
theorem qCu {a b:Int} (h:a % 256=b % 256):u8 a=u8 b:=by
 show UInt8.ofNat (a % 2 ^ 8).toNat=UInt8.ofNat (b % 2 ^ 8).toNat
 rw [show a % 2 ^ 8=b % 2 ^ 8 from h]
theorem qP1 (x:UInt32):wb x=[u8 (n32 (u32 (idiv (n32 x) (n32 (u32 16777216))))),u8 (n32 (u32 (imod (n32 (u32 (idiv (n32 x) (n32 (u32 65536))))) (n32 (u32 256))))),u8 (n32 (u32 (imod (n32 (u32 (idiv (n32 x) (n32 (u32 256))))) (n32 (u32 256))))),u8 (n32 (u32 (imod (n32 x) (n32 (u32 256)))))]:=by
 have hx:=x.toNat_lt
 obtain ⟨v,hv⟩:∃ v,v=x.toNat:=⟨_,rfl⟩
 rw [← hv] at hx
 have e:n32 x=(v:Int):=by rw [hv];rfl
 have k1:n32 (u32 16777216)=16777216:=wF (by decide)
 have k2:n32 (u32 65536)=65536:=wF (by decide)
 have k3:n32 (u32 256)=256:=wF (by decide)
 have a1:shrI .u32 (v:Int) (n64 (u64 24))=((v / 16777216:Nat):Int):=by show Int.fdiv (v:Int) (2 ^ 24)=_;rw [Int.fdiv_eq_ediv_of_nonneg _ (by decide)];omega
 have a2:shrI .u32 (v:Int) (n64 (u64 16))=((v / 65536:Nat):Int):=by show Int.fdiv (v:Int) (2 ^ 16)=_;rw [Int.fdiv_eq_ediv_of_nonneg _ (by decide)];omega
 have a3:shrI .u32 (v:Int) (n64 (u64 8))=((v / 256:Nat):Int):=by show Int.fdiv (v:Int) (2 ^ 8)=_;rw [Int.fdiv_eq_ediv_of_nonneg _ (by decide)];omega
 have b1:idiv (v:Int) 16777216=((v / 16777216:Nat):Int):=by rw [g31 (by omega)];omega
 have b2:idiv (v:Int) 65536=((v / 65536:Nat):Int):=by rw [g31 (by omega)];omega
 have b3:idiv (v:Int) 256=((v / 256:Nat):Int):=by rw [g31 (by omega)];omega
 have c:∀ m:Nat,m < 4294967296→n32 (u32 (m:Int))=(m:Int):=fun m hm=>wF (by omega)
 have d:∀ m:Nat,imod (m:Int) 256=((m % 256:Nat):Int):=fun m=>by rw [g32 (by omega)];omega
 unfold wb
 rw [e,k1,k2,k3,a1,a2,a3,b1,b2,b3,c _ (by omega),c _ (by omega),c _ (by omega),d,d,d,c _ (by omega),c _ (by omega),c _ (by omega)]
 congr 1
 congr 1
 ·exact qCu (by omega)
 ·congr 1
  ·exact qCu (by omega)
  ·congr 1
   exact qCu (by omega)
def outW (w:List UInt32) (i:Nat):BB:=(List.range i).flatMap fun j=>wb (q32 w j)
theorem qgT (w:List UInt32):∀ i,(outW w i).length=4*i
 | 0=>rfl
 | i+1=>by unfold outW;rw [List.range_succ,List.flatMap_append,List.length_append];have:=qgT w i;unfold outW at this;rw [this];simp [wb];omega
theorem qD6 (w:List UInt32) (i:Nat):outW w (i+1)=outW w i++wb (q32 w i):=by unfold outW;rw [List.range_succ,List.flatMap_append];simp
theorem qEn (n:Int) (i:Nat):lenB n (i+1)=lenB n i++[u8 (shrI .i64 (i64 (imul 8 n)) ((56 - 8*i:Nat):Int))]:=by unfold lenB;rw [List.range_succ,List.map_append];rfl
theorem qaI (n:Int) (i:Nat):(lenB n i).length=i:=by simp [lenB]
def sumD (h:HT):BB:=outW (eat h.1 (h.2.2.1++padD h.2.1) ((h.2.2.1++padD h.2.1).length / 64)) 8
theorem qA2 (l:BB) (k:Nat):l++List.replicate k (u8 0)++[u8 0]=l++List.replicate (k+1) (u8 0):=by rw [List.append_assoc,← List.replicate_succ']
theorem qCD (H:List UInt32) (hH:H.length=8) (N:Int) (r:BB) (hN:0≤N) (hN2:N≤1125899906842624) (hr:r.length=N.toNat % 64):qmE ((H,N,r,()),())=some (sumD (H,N,r,()),()):=by
 unfold qmE
 dsimp only
 have hz:rep (nat 0) (u8 0)=[]:=rfl
 rw [hz,show app ([]:BB) r=r from rfl,show app r [u8 128]=r++[u8 128] from rfl]
 refine (qH (by decide)).trans ?_
 refine (qH (by simp only [go_sem,Int.reduceToNat];omega)).trans ?_
 refine (qH (by simp only [go_sem,Int.reduceToNat];simp;omega)).trans ?_
 generalize hf:(fun (x:BB×Unit)=>(_:Option (LS (BB×Unit) (BB×Unit))))=f
 have hr64:r.length < 64:=by omega
 have hzs:zs (N.toNat % 64) < 64:=by unfold zs;omega
 have step:∀ i:Nat,i < zs (N.toNat % 64)→f (r++[u8 128]++List.replicate i (u8 0),())=some (.nx (r++[u8 128]++List.replicate (i+1) (u8 0),())):=by
  intro i hi
  subst hf
  have hl:(r++[u8 128]++List.replicate i (u8 0)).length=r.length+1+i:=by simp;omega
  have hne:¬ (((r++[u8 128]++List.replicate i (u8 0)).length:Int) % 64=56):=by rw [hl];unfold zs at hi;omega
  refine (qE (by simp (disch:=omega) only [go_sem,Int.reduceToNat];omega)).trans ?_
  refine (qH (by simp only [go_sem,Int.reduceToNat];simp;omega)).trans ?_
  show some (LS.nx (r++[u8 128]++List.replicate i (u8 0)++[u8 0],()))=_
  rw [qA2]
 have hend:f (r++[u8 128]++List.replicate (zs (N.toNat % 64)) (u8 0),())=some (.ex 0 (r++[u8 128]++List.replicate (zs (N.toNat % 64)) (u8 0),())):=by
  subst hf
  have hl:(r++[u8 128]++List.replicate (zs (N.toNat % 64)) (u8 0)).length=r.length+1+zs (N.toNat % 64):=by simp;omega
  have he:(((r++[u8 128]++List.replicate (zs (N.toNat % 64)) (u8 0)).length:Int) % 64=56):=by rw [hl];unfold zs;omega
  exact qB (by simp (disch:=omega) only [go_sem,Int.reduceToNat];omega)
 have hloop:=(qN (f:=f) (fun i=>(r++[u8 128]++List.replicate i (u8 0),())) (zs (N.toNat % 64)) step 0 (Nat.zero_le _)).trans (qV hend)
 rw [List.replicate_zero,List.append_nil] at hloop
 refine (zA hloop).trans ?_
 clear hloop hend step
 refine (qH g62).trans ?_
 clear hf f
 dsimp only
 generalize hL:r++[u8 128]++List.replicate (zs (N.toNat % 64)) (u8 0)=L
 have hLl:L.length=r.length+1+zs (N.toNat % 64):=by rw [← hL];simp;omega
 generalize hf:(fun (x_1:BB×Int×Unit)=>(_:Option (LS (BB×Int×Unit) (BB×Unit))))=f
 have step:∀ i:Nat,i < 8→f (L++lenB N i,56 - 8*(i:Int),())=some (.nx (L++lenB N (i+1),56 - 8*((i+1:Nat):Int),())):=by
  intro i hi
  subst hf
  have hl:(L++lenB N i).length=L.length+i:=by rw [List.length_append,qaI]
  refine (qE (by simp only [go_sem,Int.reduceToNat];omega)).trans ?_
  refine (qH (by simp only [go_sem,Int.reduceToNat];omega)).trans ?_
  refine (qH (by simp only [go_sem,Int.reduceToNat];simp [qaI];omega)).trans ?_
  dsimp only
  rw [show app (L++lenB N i) [u8 (shrI .i64 (i64 (imul 8 N)) (56 - 8*(i:Int)))]=L++lenB N (i+1) by rw [qEn,show ((56 - 8*i:Nat):Int)=56 - 8*(i:Int) by omega];exact List.append_assoc _ _ _,
   show i64 (isub (56 - 8*(i:Int)) 8)=56 - 8*((i+1:Nat):Int) by rw [zS (by show -9223372036854775808≤56 - 8*(i:Int) - 8;omega) (by show 56 - 8*(i:Int) - 8≤9223372036854775807;omega)];show 56 - 8*(i:Int) - 8=_;omega]
 have hend:f (L++lenB N 8,56 - 8*((8:Nat):Int),())=some (.ex 2 (L++lenB N 8,56 - 8*((8:Nat):Int),())):=by subst hf;exact qB (show le 0 (56 - 8*((8:Nat):Int))=false from rfl)
 have hloop:=(qN (f:=f) (fun i=>(L++lenB N i,56 - 8*(i:Int),())) 8 step 0 (Nat.zero_le _)).trans (qV hend)
 have h0:(L++lenB N 0,56 - 8*((0:Nat):Int),())=(L,56,()):=by simp [lenB]
 rw [h0] at hloop
 refine (zA hloop).trans ?_
 clear hloop hend step
 refine (qH g62).trans ?_
 clear hf f
 dsimp only
 have hT:L++lenB N 8=r++padD N:=by rw [← hL];unfold padD;simp
 rw [hT]
 have hTl:(r++padD N).length=r.length+1+zs (N.toNat % 64)+8:=by rw [← hT,List.length_append,qaI,hLl]
 have hT64:(r++padD N).length % 64=0:=by rw [hTl];unfold zs;omega
 generalize hTT:r++padD N=T at hTl hT64
 generalize hf:(fun (x:BB×List UInt32×Unit)=>(_:Option (LS (BB×List UInt32×Unit) (BB×Unit))))=f
 have step:∀ i,i < T.length / 64→f (T.drop (64*i),eat H T i,())=some (.nx (T.drop (64*(i+1)),eat H T (i+1),())):=by
  intro i hi
  subst hf
  have hd:(T.drop (64*i)).length=T.length - 64*i:=List.length_drop
  have hlen:len (T.drop (64*i))=((T.length - 64*i:Nat):Int):=by unfold len;rw [hd]
  dsimp only
  rw [hlen]
  refine (qE (by simp only [go_sem,Int.reduceToNat];omega)).trans ?_
  refine (qH (by simp only [go_sem,Int.reduceToNat];omega)).trans ?_
  rw [show cut (T.drop (64*i)) (nat 0) (nsub (nat 64) (nat 0))=(T.drop (64*i)).take 64 from rfl,qlN _ (qaM hH T i) _ (by rw [List.length_take,hd];omega)]
  refine (qF rfl).trans ?_
  refine (qH (by simp only [go_sem,Int.reduceToNat];omega)).trans ?_
  rw [qCy]
  have hc:cut (T.drop (64*i)) (nat 64) (nsub (nat ((T.length - 64*i:Nat):Int)) (nat 64))=T.drop (64*(i+1)):=by
   unfold cut
   rw [show nat 64=64 from rfl,qU,List.drop_drop,List.take_of_length_le (by rw [List.length_drop];show _≤T.length - 64*i - 64;omega)]
   congr 1
  rw [hc];rfl
 have hend:f (T.drop (64*(T.length / 64)),eat H T (T.length / 64),())=some (.ex 4 (T.drop (64*(T.length / 64)),eat H T (T.length / 64),())):=by
  subst hf
  have hlen:len (T.drop (64*(T.length / 64)))=((T.length - 64*(T.length / 64):Nat):Int):=by unfold len;rw [List.length_drop]
  dsimp only
  rw [hlen]
  exact qB (by simp only [go_sem,Int.reduceToNat];omega)
 have hloop:=(qN (f:=f) (fun i=>(T.drop (64*i),eat H T i,())) (T.length / 64) step 0 (Nat.zero_le _)).trans (qV hend)
 refine (zA (show loop f (T,H,())=_ from hloop)).trans ?_
 clear hloop hend step
 refine (qH g62).trans ?_
 clear hf f
 refine (qH (by decide)).trans ?_
 dsimp only
 unfold sumD
 dsimp only
 rw [hTT]
 have hw:=qaM hH T (T.length / 64)
 generalize eat H T (T.length / 64)=w at hw
 generalize hf:(fun (x:BB×Int×Unit)=>(_:Option (LS (BB×Int×Unit) (BB×Unit))))=f
 have step:∀ i:Nat,i < 8→f (outW w i,(i:Int),())=some (.nx (outW w (i+1),((i+1:Nat):Int),())):=by
  intro i hi
  subst hf
  have hl:=qgT w i
  have hi':i64 (iadd (i:Int) 1)=((i+1:Nat):Int):=i64n (by show (i:Int)+1=_;omega) (by omega)
  refine (qE (by simp only [go_sem,Int.reduceToNat];omega)).trans ?_
  refine (qH (by simp only [go_sem,Int.reduceToNat];omega)).trans ?_
  refine (qH (by simp only [go_sem,Int.reduceToNat];simp;omega)).trans ?_
  dsimp only
  rw [hi',qD6];rfl
 have hend:∀ v,f (v,((8:Nat):Int),())=some (.ex 6 (v,((8:Nat):Int),())):=by subst hf;intro v;exact qB rfl
 have hloop:=(qN (f:=f) (fun i=>(outW w i,(i:Int),())) 8 step 0 (Nat.zero_le _)).trans (qV (hend _))
 refine (zA (show loop f ([],0,())=_ from hloop)).trans ?_
 exact qH g62
end Yp
namespace Yp
open Go
set_option maxRecDepth 100000
set_option maxHeartbeats 2000000
theorem qi9 {a:Int} (h:0≤a∧a < 18446744073709551616):n64 (u64 a)=a:=by
 show (((BitVec.ofNat 64 ((a % 2 ^ 64).toNat)).toNat:Nat):Int)=a
 rw [BitVec.toNat_ofNat];omega
theorem qx0 (N:Int) (hN:0≤N) (hN2:N≤1125899906842624):qn4 (N,())=some (padD N,()):=by
 unfold qn4
 dsimp only
 have hzs:zs (N.toNat % 64) < 64:=by unfold zs;omega
 generalize hf:(fun (x_1:BB×Unit)=>(_:Option (LS (BB×Unit) (BB×Unit))))=f
 have step:∀ i:Nat,i < zs (N.toNat % 64)→f ([u8 128]++List.replicate i (u8 0),())=some (.nx ([u8 128]++List.replicate (i+1) (u8 0),())):=by
  intro i hi
  subst hf
  have hl:([u8 128]++List.replicate i (u8 0)).length=1+i:=by simp;omega
  have e:i64 (iadd (i64 (iadd N (len ([u8 128]++List.replicate i (u8 0))))) 8)=N+((1+i:Nat):Int)+8:=by
   have e1:i64 (iadd N (len ([u8 128]++List.replicate i (u8 0))))=N+((1+i:Nat):Int):=by
    show i64 (N+(([u8 128]++List.replicate i (u8 0)).length:Int))=_
    rw [hl];exact zS (by omega) (by omega)
   rw [e1];exact zS (by show -9223372036854775808≤N+((1+i:Nat):Int)+8;omega) (by show N+((1+i:Nat):Int)+8≤9223372036854775807;omega)
  dsimp only
  rw [e]
  have hne:¬ ((N+((1+i:Nat):Int)+8) % 64=0):=by unfold zs at hi;omega
  refine (qE (by simp (disch:=omega) only [go_sem,Int.reduceToNat];omega)).trans ?_
  refine (qH (by simp only [go_sem,Int.reduceToNat];simp;omega)).trans ?_
  show some (LS.nx ([u8 128]++List.replicate i (u8 0)++[u8 0],()))=_
  rw [qA2]
 have hend:f ([u8 128]++List.replicate (zs (N.toNat % 64)) (u8 0),())=some (.ex 0 ([u8 128]++List.replicate (zs (N.toNat % 64)) (u8 0),())):=by
  subst hf
  obtain ⟨i,hi⟩:∃ i,i=zs (N.toNat % 64):=⟨_,rfl⟩
  rw [← hi]
  have hl:([u8 128]++List.replicate i (u8 0)).length=1+i:=by simp;omega
  have e:i64 (iadd (i64 (iadd N (len ([u8 128]++List.replicate i (u8 0))))) 8)=N+((1+i:Nat):Int)+8:=by
   have e1:i64 (iadd N (len ([u8 128]++List.replicate i (u8 0))))=N+((1+i:Nat):Int):=by
    show i64 (N+(([u8 128]++List.replicate i (u8 0)).length:Int))=_
    rw [hl];exact zS (by omega) (by omega)
   rw [e1];exact zS (by show -9223372036854775808≤N+((1+i:Nat):Int)+8;omega) (by show N+((1+i:Nat):Int)+8≤9223372036854775807;omega)
  dsimp only
  rw [e]
  have hne:((N+((1+i:Nat):Int)+8) % 64=0):=by unfold zs at hi;omega
  exact qB (by simp (disch:=omega) only [go_sem,Int.reduceToNat];omega)
 have hloop:=(qN (f:=f) (fun i=>([u8 128]++List.replicate i (u8 0),())) (zs (N.toNat % 64)) step 0 (Nat.zero_le _)).trans (qV hend)
 rw [List.replicate_zero,List.append_nil] at hloop
 refine (zA hloop).trans ?_
 clear hloop hend step
 refine (qH g62).trans ?_
 clear hf f
 dsimp only
 generalize hL:[u8 128]++List.replicate (zs (N.toNat % 64)) (u8 0)=L
 have hLl:L.length=1+zs (N.toNat % 64):=by rw [← hL];simp;omega
 generalize hf:(fun (x_1:BB×Int×Unit)=>(_:Option (LS (BB×Int×Unit) (BB×Unit))))=f
 have step:∀ i:Nat,i < 8→f (L++lenB N i,56 - 8*(i:Int),())=some (.nx (L++lenB N (i+1),56 - 8*((i+1:Nat):Int),())):=by
  intro i hi
  subst hf
  have hl:(L++lenB N i).length=L.length+i:=by rw [List.length_append,qaI]
  refine (qE (by simp only [go_sem,Int.reduceToNat];omega)).trans ?_
  refine (qH (by simp only [go_sem,Int.reduceToNat];simp [qaI];omega)).trans ?_
  dsimp only
  rw [qi9 (a:=56 - 8*(i:Int)) (by omega),show app (L++lenB N i) [u8 (shrI .i64 (i64 (imul 8 N)) (56 - 8*(i:Int)))]=L++lenB N (i+1) by rw [qEn,show ((56 - 8*i:Nat):Int)=56 - 8*(i:Int) by omega];exact List.append_assoc _ _ _,
   show i64 (isub (56 - 8*(i:Int)) 8)=56 - 8*((i+1:Nat):Int) by rw [zS (by show -9223372036854775808≤56 - 8*(i:Int) - 8;omega) (by show 56 - 8*(i:Int) - 8≤9223372036854775807;omega)];show 56 - 8*(i:Int) - 8=_;omega]
 have hend:f (L++lenB N 8,56 - 8*((8:Nat):Int),())=some (.ex 2 (L++lenB N 8,56 - 8*((8:Nat):Int),())):=by subst hf;exact qB (show le 0 (56 - 8*((8:Nat):Int))=false from rfl)
 have hloop:=(qN (f:=f) (fun i=>(L++lenB N i,56 - 8*(i:Int),())) 8 step 0 (Nat.zero_le _)).trans (qV hend)
 have h0:(L++lenB N 0,56 - 8*((0:Nat):Int),())=(L,56,()):=by simp [lenB]
 rw [h0] at hloop
 refine (zA hloop).trans ?_
 refine (qH g62).trans ?_
 dsimp only
 rw [← hL];rfl
theorem qG5 (N:Int):(padD N).length=9+zs (N.toNat % 64):=by unfold padD;simp [qaI];omega
theorem qxY (H:List UInt32) (hH:H.length=8) (N:Int) (r:BB) (hN:0≤N) (hN2:N≤1125899906842624) (hr:r.length=N.toNat % 64):qiZ ((H,N,r,()),())=some (sumD (H,N,r,()),()):=by
 unfold qiZ
 dsimp only
 rw [show app (none' UInt8) r=r from rfl]
 refine (qH (by simp only [go_sem,Int.reduceToNat];omega)).trans ?_
 rw [qx0 N hN hN2]
 refine (qF rfl).trans ?_
 have hp:=qG5 N
 have hzs:zs (N.toNat % 64) < 64:=by unfold zs;omega
 refine (qH (by simp only [go_sem,Int.reduceToNat];omega)).trans ?_
 rw [qLO]
 refine (qF rfl).trans ?_
 dsimp only
 unfold sumD
 dsimp only
 rw [show app r (padD N)=r++padD N from rfl]
 have hTl:(r++padD N).length=r.length+1+zs (N.toNat % 64)+8:=by rw [List.length_append,hp];omega
 have hT64:(r++padD N).length % 64=0:=by rw [hTl];unfold zs;omega
 generalize hTT:r++padD N=T at hTl hT64
 generalize hf:(fun (x_1:Int×List UInt32×Unit)=>(_:Option (LS (Int×List UInt32×Unit) (BB×Unit))))=f
 have step:∀ i:Nat,i < T.length / 64→f (((64*i:Nat):Int),eat H T i,())=some (.nx (((64*(i+1):Nat):Int),eat H T (i+1),())):=by
  intro i hi
  subst hf
  have e':i64 (iadd ((64*i:Nat):Int) 64)=((64*(i+1):Nat):Int):=i64n (by show ((64*i:Nat):Int)+64=_;omega) (by omega)
  dsimp only
  rw [e']
  refine (qE (by simp only [go_sem,Int.reduceToNat];omega)).trans ?_
  rw [qiY _ (qaM hH T i) T (64*i) (by omega) (by omega)]
  rfl
 have hend:f (((64*(T.length / 64):Nat):Int),eat H T (T.length / 64),())=some (.ex 0 (((64*(T.length / 64):Nat):Int),eat H T (T.length / 64),())):=by
  subst hf
  exact qB (by simp only [go_sem,Int.reduceToNat];omega)
 have hloop:=(qN (f:=f) (fun i=>(((64*i:Nat):Int),eat H T i,())) (T.length / 64) step 0 (Nat.zero_le _)).trans (qV hend)
 refine (zA (show loop f (0,H,())=_ from hloop)).trans ?_
 clear hloop hend step
 refine (qH g62).trans ?_
 clear hf f
 dsimp only
 have hw:=qaM hH T (T.length / 64)
 generalize eat H T (T.length / 64)=w at hw
 generalize hf:(fun (x:BB×Int×Unit)=>(_:Option (LS (BB×Int×Unit) (BB×Unit))))=f
 have step:∀ i:Nat,i < 8→f (outW w i,(i:Int),())=some (.nx (outW w (i+1),((i+1:Nat):Int),())):=by
  intro i hi
  subst hf
  have hl:=qgT w i
  have hi':i64 (iadd (i:Int) 1)=((i+1:Nat):Int):=i64n (by show (i:Int)+1=_;omega) (by omega)
  refine (qE (by simp only [go_sem,Int.reduceToNat];omega)).trans ?_
  refine (qH (by simp only [go_sem,Int.reduceToNat];omega)).trans ?_
  refine (qH (by simp only [go_sem,Int.reduceToNat];omega)).trans ?_
  refine (qH (by simp only [go_sem,Int.reduceToNat];omega)).trans ?_
  refine (qH (by simp only [go_sem,Int.reduceToNat];omega)).trans ?_
  refine (qH (by simp only [go_sem,Int.reduceToNat];simp;omega)).trans ?_
  dsimp only
  rw [hi',qD6,qP1];rfl
 have hend:∀ v,f (v,((8:Nat):Int),())=some (.ex 2 (v,((8:Nat):Int),())):=by subst hf;intro v;exact qB rfl
 have hloop:=(qN (f:=f) (fun i=>(outW w i,(i:Int),())) 8 step 0 (Nat.zero_le _)).trans (qV (hend _))
 refine (zA (show loop f (none' UInt8,0,())=_ from hloop)).trans ?_
 exact qH g62
def okH (h:HT):Prop:=h.1.length=8∧0≤h.2.1∧h.2.2.1.length=h.2.1.toNat % 64
theorem qi3 {h:HT} (hh:okH h) (b:BB):okH (putD h b):=by
 obtain ⟨h1,h2,h3⟩:=hh
 refine ⟨qaM h1 _ _, ?_, ?_⟩
 ·show 0≤h.2.1+(b.length:Int);omega
 ·show ((h.2.2.1++b).drop (64*((h.2.2.1++b).length / 64))).length=(h.2.1+(b.length:Int)).toNat % 64
  rw [List.length_drop,List.length_append,h3];omega
theorem qOO (h:HT) (x y:BB):putD (putD h x) y=putD h (x++y):=by
 obtain ⟨H,N,r,⟨⟩⟩:=h
 unfold putD
 dsimp only
 generalize hL:r++x=L
 have hM:r++(x++y)=L++y:=by rw [← List.append_assoc,hL]
 rw [hM]
 have hq:64*(L.length / 64)≤L.length:=by omega
 have hd:(L++y).drop (64*(L.length / 64))=L.drop (64*(L.length / 64))++y:=List.drop_append_of_le_length hq
 have hlen:(L.drop (64*(L.length / 64))++y).length=L.length - 64*(L.length / 64)+y.length:=by rw [List.length_append,List.length_drop]
 have hn:(L++y).length / 64=L.length / 64+(L.drop (64*(L.length / 64))++y).length / 64:=by rw [hlen,List.length_append];omega
 have he:eat H (L++y) (L.length / 64)=eat H L (L.length / 64):=by
  refine qEJ H fun j hj => ?_
  unfold q8
  rw [List.getD_eq_getElem?_getD,List.getElem?_append_left (by omega),← List.getD_eq_getElem?_getD]
 refine Prod.ext ?_ (Prod.ext ?_ (Prod.ext ?_ rfl))
 ·dsimp only;rw [hn,qMj,hd,he]
 ·dsimp only;rw [List.length_append];omega
 ·dsimp only;rw [hn,← hd,List.drop_drop];congr 1;omega
theorem qFO (h:HT):(sumD h).length=32:=by unfold sumD;rw [qgT]
def iv:HT:=([u32 1779033703,u32 3144134277,u32 1013904242,u32 2773480762,u32 1359893119,u32 2600822924,u32 528734635,u32 1541459225],0,[],())
theorem qx6:okH iv:=⟨rfl,Int.le_refl _,rfl⟩
theorem qeX {h:HT} (hh:okH h) (b:BB) (hN:h.2.1≤1000000000) (hb:b.length≤1000000000):qf1 (h,b,())=some (putD h b,()):=by
 obtain ⟨H,N,r,⟨⟩⟩:=h
 obtain ⟨h1,h2,h3⟩:=hh
 have h2':0≤N:=h2
 have h3':r.length=N.toNat % 64:=h3
 have hN':N≤1000000000:=hN
 exact qCE H h1 N r b h2 (by omega) (by omega) hb
theorem qD0 {h:HT} (hh:okH h) (b:BB) (hN:h.2.1≤1000000000) (hb:b.length≤1000000000):qi0 (h,b,())=some (putD h b,()):=by
 obtain ⟨H,N,r,⟨⟩⟩:=h
 obtain ⟨h1,h2,h3⟩:=hh
 have h2':0≤N:=h2
 have h3':r.length=N.toNat % 64:=h3
 have hN':N≤1000000000:=hN
 exact qxZ H h1 N r b h2 (by omega) (by omega) hb
theorem qpS {h:HT} (hh:okH h) (hN:h.2.1≤1000000000000):qmE (h,())=some (sumD h,()):=by
 obtain ⟨H,N,r,⟨⟩⟩:=h
 obtain ⟨h1,h2,h3⟩:=hh
 have hN':N≤1000000000000:=hN
 exact qCD H h1 N r h2 (by omega) h3
theorem qDZ {h:HT} (hh:okH h) (hN:h.2.1≤1000000000000):qiZ (h,())=some (sumD h,()):=by
 obtain ⟨H,N,r,⟨⟩⟩:=h
 obtain ⟨h1,h2,h3⟩:=hh
 have hN':N≤1000000000000:=hN
 exact qxY H h1 N r h2 (by omega) h3
theorem qq0:qtW ()=some (iv,()):=rfl
theorem qx1:quY ()=some (iv,()):=rfl
def qr1 (b:BB):BB:=sumD (putD iv b)
theorem xU (b:BB):(qr1 b).length=32:=qFO _
theorem qFS (b:BB) (hb:b.length≤1000000000):qIw (b,())=some (qr1 b,()):=by
 unfold qIw
 rw [qq0]
 refine (qF rfl).trans ?_
 dsimp only
 rw [qeX qx6 b (by decide) hb]
 refine (qF rfl).trans ?_
 dsimp only
 have hn:(putD iv b).2.1=0+(b.length:Int):=rfl
 rw [qpS (qi3 qx6 b) (by omega)];rfl
theorem qb3 (b:BB) (hb:b.length≤1000000000):qgR (b,())=some (qr1 b,()):=by
 unfold qgR
 rw [qx1]
 refine (qF rfl).trans ?_
 dsimp only
 rw [qD0 qx6 b (by decide) hb]
 refine (qF rfl).trans ?_
 dsimp only
 have hn:(putD iv b).2.1=0+(b.length:Int):=rfl
 rw [qDZ (qi3 qx6 b) (by omega)];rfl
end Yp
namespace Yp
open Go
set_option maxRecDepth 100000
set_option maxHeartbeats 2000000
theorem qb5 {α σ ρ:Type} {f:σ→Option (LS σ ρ)} (l:List α) (mk:Nat→σ) (e:Nat) (r:ρ) (p:α→Prop)
  (hs:∀ i (h:i < l.length),p l[i]→f (mk i)=some (.nx (mk (i+1)))) (hb:∀ i (h:i < l.length),¬ p l[i]→f (mk i)=some (.rt r)) (he:f (mk l.length)=some (.ex e (mk l.length))) :
  ((∀ x∈l,p x)∧loop f (mk 0)=some (.ex e (mk l.length)))∨((¬ ∀ x∈l,p x)∧loop f (mk 0)=some (.rt r)):=by
 by_cases h:∀ x∈l,p x
 ·exact .inl ⟨h,(qN mk l.length (fun i hi=>hs i hi (h _ (List.getElem_mem hi))) 0 (Nat.zero_le _)).trans (qV he)⟩
 ·refine .inr ⟨h, ?_⟩
  have key:∀ (n i:Nat),l.length - i=n→i≤l.length→(∃ j,∃ (hj:j < l.length),i≤j∧¬ p l[j])→loop f (mk i)=some (.rt r):=by
   intro n
   induction n with
   | zero=>rintro i hn hi ⟨j,hj,h1,_⟩;omega
   | succ n ih =>
    rintro i hn hi ⟨j,hj,h1,h2⟩
    have hil:i < l.length:=by omega
    by_cases hp:p l[i]
    ·rw [jN (hs i hil hp)]
     refine ih (i+1) (by omega) (by omega) ⟨j,hj, ?_,h2⟩
     rcases Nat.lt_or_eq_of_le h1 with h | rfl
     ·exact h
     ·exact absurd hp h2
    ·exact qeF (hb i hil hp)
  refine key _ 0 rfl (Nat.zero_le _) ?_
  refine Classical.byContradiction fun hn=>h fun x hx=>Classical.byContradiction fun hpx => ?_
  obtain ⟨j,hj,rfl⟩:=List.getElem_of_mem hx
  exact hn ⟨j,hj,Nat.zero_le _,hpx⟩
def kE (key:BB):BB:=let k:=if 64 < key.length then qr1 key else key;k++List.replicate (64 - k.length) (u8 0)
theorem qpB (key:BB):(kE key).length=64:=by
 unfold kE
 by_cases h:64 < key.length
 ·simp only [if_pos h,List.length_append,List.length_replicate,xU]
 ·simp only [if_neg h,List.length_append,List.length_replicate];omega
theorem qMl (k:BB) (h:k.length≤64):cpy (rep (nat 64) (u8 0)) 0 (ln (rep (nat 64) (u8 0))) k=k++List.replicate (64 - k.length) (u8 0):=by
 unfold cpy rep ln
 rw [List.length_replicate,show nat 64=64 from rfl,List.take_zero,List.nil_append,List.take_of_length_le h,Nat.zero_add,Nat.min_eq_right h,List.drop_replicate]
theorem qx3 (key:BB) (h:key.length≤1000000000):qoC (key,())=some (kE key,()):=by
 unfold qoC
 refine (qH (by decide)).trans ?_
 by_cases hk:64 < key.length
 ·refine (qE (by simp only [go_sem,Int.reduceToNat];omega)).trans ?_
  dsimp only
  rw [qFS _ h]
  refine (qF rfl).trans ?_
  dsimp only
  rw [qMl _ (by rw [xU];omega)]
  unfold kE;simp only [if_pos hk]
 ·refine (qB (by simp only [go_sem,Int.reduceToNat];omega)).trans ?_
  dsimp only
  rw [qMl _ (by omega)]
  unfold kE;simp only [if_neg hk]
theorem qQv {f:BB×Unit→Option (LS (BB×Unit) (BB×Unit))} (hf:f=fun (x:BB×Unit)=>sel (lt (len x.1) 64) (ck (rm 1 (nadd (ln x.1) (ln [u8 0]))) (some (LS.nx (app x.1 [u8 0],())))) (some (LS.ex 0 (x.1,())))) (k:BB) (h:k.length≤64) :
  loop f (k,())=some (.ex 0 (k++List.replicate (64 - k.length) (u8 0),())):=by
 have step:∀ i:Nat,i < 64 - k.length→f (k++List.replicate i (u8 0),())=some (.nx (k++List.replicate (i+1) (u8 0),())):=by
  intro i hi
  subst hf
  have hl:(k++List.replicate i (u8 0)).length=k.length+i:=by simp
  refine (qE (by simp only [go_sem,Int.reduceToNat];omega)).trans ?_
  refine (qH (by simp only [go_sem,Int.reduceToNat];simp;omega)).trans ?_
  show some (LS.nx (k++List.replicate i (u8 0)++[u8 0],()))=_
  rw [qA2]
 have hend:f (k++List.replicate (64 - k.length) (u8 0),())=some (.ex 0 (k++List.replicate (64 - k.length) (u8 0),())):=by
  subst hf
  have hl:(k++List.replicate (64 - k.length) (u8 0)).length=64:=by simp;omega
  exact qB (by simp only [go_sem,Int.reduceToNat];omega)
 have:=(qN (f:=f) (fun i=>(k++List.replicate i (u8 0),())) (64 - k.length) step 0 (Nat.zero_le _)).trans (qV hend)
 rwa [List.replicate_zero,List.append_nil] at this
theorem qsR (key:BB) (h:key.length≤1000000000):qgQ (key,())=some (kE key,()):=by
 unfold qgQ
 refine (qH (by simp only [go_sem,Int.reduceToNat];omega)).trans ?_
 by_cases hk:64 < key.length
 ·refine (qE (by simp only [go_sem,Int.reduceToNat];omega)).trans ?_
  dsimp only
  rw [qb3 _ h]
  refine (qF rfl).trans ?_
  dsimp only
  rw [qQv rfl _ (by rw [xU];omega)]
  refine (qH g62).trans ?_
  unfold kE;simp only [if_pos hk]
 ·refine (qB (by simp only [go_sem,Int.reduceToNat];omega)).trans ?_
  dsimp only
  rw [show app (none' UInt8) key=key from rfl,qQv rfl _ (by omega)]
  refine (qH g62).trans ?_
  unfold kE;simp only [if_neg hk]
def xr (c:UInt8) (l:BB):BB:=l.map fun x=>u8 (xorI .u8 (n8 x) (n8 c))
theorem qeT (c:UInt8) (l:BB):(xr c l).length=l.length:=by simp [xr]
theorem qNy {α:Type} {L:List α} {n:Nat} {z:α} (hL:L.length=n) {i:Nat} (hi:i < n):(L.take i++List.replicate (n - i) z).set i (L[i]'(by omega))=L.take (i+1)++List.replicate (n - (i+1)) z:=by
 have h1:(L.take i).length=i:=by rw [List.length_take];omega
 rw [List.set_append_right _ _ (by omega),h1,Nat.sub_self,show n - i=(n - (i+1))+1 by omega,List.replicate_succ,List.set_cons_zero,List.take_succ_eq_append_getElem (by omega),List.append_assoc]
 rfl
theorem qIh {f:Int×BB×Unit→Option (LS (Int×BB×Unit) Unit)} (c:UInt8) (k:BB) (hk:k.length=64)
  (hf:f=fun (x:Int×BB×Unit)=>sel (lt x.1 (len k)) (ck (inB x.1 (len k)) (ck (inB x.1 (len x.2.1)) (some (LS.nx (i64 (iadd x.1 1),upd x.2.1 (nat x.1) (u8 (xorI .u8 (n8 (nth k (nat x.1) (u8 0))) (n8 c))),()))))) (some (LS.ex 0 (x.1,x.2.1,())))) :
  loop f (0,rep (nat 64) (u8 0),())=some (.ex 0 (64,xr c k,())):=by
 have hx:(xr c k).length=64:=by rw [qeT,hk]
 have step:∀ i:Nat,i < 64→f ((i:Int),(xr c k).take i++List.replicate (64 - i) (u8 0),())=some (.nx (((i+1:Nat):Int),(xr c k).take (i+1)++List.replicate (64 - (i+1)) (u8 0),())):=by
  intro i hi
  subst hf
  have hl:((xr c k).take i++List.replicate (64 - i) (u8 0)).length=64:=by rw [List.length_append,List.length_take,List.length_replicate];omega
  have hi':i64 (iadd (i:Int) 1)=((i+1:Nat):Int):=i64n (by show (i:Int)+1=_;omega) (by omega)
  refine (qE (by simp only [go_sem,Int.reduceToNat];omega)).trans ?_
  refine (qH (by simp only [go_sem,Int.reduceToNat];omega)).trans ?_
  refine (qH (by simp only [go_sem,Int.reduceToNat];omega)).trans ?_
  dsimp only
  rw [hi',show upd ((xr c k).take i++List.replicate (64 - i) (u8 0)) (nat (i:Int)) (u8 (xorI .u8 (n8 (nth k (nat (i:Int)) (u8 0))) (n8 c)))=(xr c k).take (i+1)++List.replicate (64 - (i+1)) (u8 0) from ?_]
  rw [← qNy hx hi,qU,qL (by omega:i < k.length)]
  unfold upd
  congr 1
  simp [xr]
 have hend:f (((64:Nat):Int),(xr c k).take 64++List.replicate (64 - 64) (u8 0),())=some (.ex 0 (((64:Nat):Int),(xr c k).take 64++List.replicate (64 - 64) (u8 0),())):=by
  subst hf
  exact qB (by simp only [go_sem,Int.reduceToNat];omega)
 have:=(qN (f:=f) (fun i=>((i:Int),(xr c k).take i++List.replicate (64 - i) (u8 0),())) 64 step 0 (Nat.zero_le _)).trans (qV hend)
 rw [List.take_of_length_le (show (xr c k).length≤64 by omega),Nat.sub_self,List.replicate_zero,List.append_nil] at this
 exact this
def tagD (key b:BB):BB:=qr1 (xr (u8 92) (kE key)++qr1 (xr (u8 54) (kE key)++b))
theorem yB (key b:BB):(tagD key b).length=32:=xU _
theorem qIJ (x y:BB):sumD (putD (putD iv x) y)=qr1 (x++y):=by rw [qOO];rfl
theorem qjC (key b:BB) (h:key.length≤1000000) (hb:b.length≤1000000):qqA (key,b,())=some (tagD key b,()):=by
 unfold qqA
 dsimp only
 rw [qx3 _ (by omega)]
 refine (qF rfl).trans ?_
 refine (qH (by decide)).trans ?_
 dsimp only
 have hk:=qpB key
 rw [qIh (u8 92) _ hk rfl]
 refine (qH g62).trans ?_
 dsimp only
 rw [qq0]
 refine (qF rfl).trans ?_
 dsimp only
 have l1:=(qeT (u8 92) (kE key)).trans hk
 have l2:=(qeT (u8 54) (kE key)).trans hk
 rw [qeX qx6 _ (by decide) (by omega)]
 refine (qF rfl).trans ?_
 refine (qH (by decide)).trans ?_
 dsimp only
 rw [qIh (u8 54) _ hk rfl]
 refine (qH g62).trans ?_
 refine (qF rfl).trans ?_
 dsimp only
 rw [qeX qx6 _ (by decide) (by omega)]
 refine (qF rfl).trans ?_
 dsimp only
 have n1:(putD iv (xr (u8 54) (kE key))).2.1=0+((xr (u8 54) (kE key)).length:Int):=rfl
 have n2:(putD (putD iv (xr (u8 54) (kE key))) b).2.1=0+((xr (u8 54) (kE key)).length:Int)+(b.length:Int):=rfl
 have n3:(putD iv (xr (u8 92) (kE key))).2.1=0+((xr (u8 92) (kE key)).length:Int):=rfl
 rw [qeX (qi3 qx6 _) b (by omega) (by omega)]
 refine (qF rfl).trans ?_
 dsimp only
 rw [qpS (qi3 (qi3 qx6 _) _) (by omega),qIJ]
 refine (qF rfl).trans ?_
 dsimp only
 have l4:=xU (xr (u8 54) (kE key)++b)
 rw [qeX (qi3 qx6 _) _ (by omega) (by omega)]
 refine (qF rfl).trans ?_
 dsimp only
 have n4:∀ y,(putD (putD iv (xr (u8 92) (kE key))) y).2.1=0+((xr (u8 92) (kE key)).length:Int)+(y.length:Int):=fun _=>rfl
 rw [qpS (qi3 (qi3 qx6 _) _) (by rw [n4];omega),qIJ]
 rfl
theorem qeA (key b:BB) (h:key.length≤1000000) (hb:b.length≤1000000):qfE (key,b,())=some (tagD key b,()):=by
 unfold qfE
 dsimp only
 rw [qsR _ (by omega)]
 refine (qF rfl).trans ?_
 dsimp only
 have hk:=qpB key
 unfold tagD
 generalize kE key=k at hk
 generalize hf:(fun (x:BB×BB×Int×Unit)=>(_:Option (LS (BB×BB×Int×Unit) (BB×Unit))))=f
 have x1:(xr (u8 54) k).length=64:=by rw [qeT,hk]
 have x2:(xr (u8 92) k).length=64:=by rw [qeT,hk]
 have tk:∀ (c:UInt8) (i:Nat) (hi:i < 64),app ((xr c k).take i) [u8 (xorI .u8 (n8 (nth k (nat (i:Int)) (u8 0))) (n8 c))]=(xr c k).take (i+1):=by
  intro c i hi
  have hx:(xr c k).length=64:=by rw [qeT,hk]
  rw [qU,qL (by omega:i < k.length),List.take_succ_eq_append_getElem (by omega)]
  unfold app
  congr 2
  simp [xr]
 have step:∀ i:Nat,i < 64→f ((xr (u8 54) k).take i,(xr (u8 92) k).take i,(i:Int),())=some (.nx ((xr (u8 54) k).take (i+1),(xr (u8 92) k).take (i+1),((i+1:Nat):Int),())):=by
  intro i hi
  subst hf
  have hi':i64 (iadd (i:Int) 1)=((i+1:Nat):Int):=i64n (by show (i:Int)+1=_;omega) (by omega)
  have h1:((xr (u8 54) k).take i).length=i:=by rw [List.length_take];omega
  have h2:((xr (u8 92) k).take i).length=i:=by rw [List.length_take];omega
  refine (qE (by simp only [go_sem,Int.reduceToNat];omega)).trans ?_
  refine (qH (by simp only [go_sem,Int.reduceToNat];omega)).trans ?_
  refine (qH (by simp only [go_sem,Int.reduceToNat];simp;omega)).trans ?_
  refine (qH (by simp only [go_sem,Int.reduceToNat];omega)).trans ?_
  refine (qH (by simp only [go_sem,Int.reduceToNat];simp;omega)).trans ?_
  dsimp only
  rw [hi',tk _ i hi,tk _ i hi]
 have hend:∀ u v,f (u,v,((64:Nat):Int),())=some (.ex 0 (u,v,((64:Nat):Int),())):=by subst hf;intro u v;exact qB rfl
 have hloop:=(qN (f:=f) (fun i=>((xr (u8 54) k).take i,(xr (u8 92) k).take i,(i:Int),())) 64 step 0 (Nat.zero_le _)).trans (qV (hend _ _))
 rw [List.take_of_length_le (show (xr (u8 54) k).length≤64 by omega),List.take_of_length_le (show (xr (u8 92) k).length≤64 by omega)] at hloop
 refine (zA (show loop f (none' UInt8,none' UInt8,0,())=_ from hloop)).trans ?_
 refine (qH g62).trans ?_
 dsimp only
 refine (qH (by simp only [go_sem,Int.reduceToNat];omega)).trans ?_
 rw [show app (xr (u8 54) k) b=xr (u8 54) k++b from rfl,qb3 _ (by rw [List.length_append];omega)]
 refine (qF rfl).trans ?_
 dsimp only
 have l4:=xU (xr (u8 54) k++b)
 refine (qH (by simp only [go_sem,Int.reduceToNat];omega)).trans ?_
 rw [show app (xr (u8 92) k) (qr1 (xr (u8 54) k++b))=xr (u8 92) k++qr1 (xr (u8 54) k++b) from rfl,qb3 _ (by rw [List.length_append];omega)]
 rfl
end Yp
namespace Yp
open Go
set_option maxRecDepth 100000
set_option maxHeartbeats 2000000
def kF (p:BB):BB:=[u8 (shrI .i64 (len p) (n64 (u64 8))),u8 (len p)]++p
def tlD (l:List BB):BB:=l.flatMap kF
def qdJ (label:BB) (l:List BB):BB:=[u8 (len label)]++label++tlD l
theorem qq5 (p:BB):(kF p).length=p.length+2:=by simp [kF]
theorem qJx {l:List BB} (h:∀ p∈l,p.length≤1000):(tlD l).length≤1002*l.length:=by
 induction l with
 | nil=>simp [tlD]
 | cons p r ih =>
  have h1:=h p (by simp)
  have h2:=ih fun q hq=>h q (by simp [hq])
  unfold tlD at h2 ⊢
  rw [List.flatMap_cons,List.length_append,qq5,List.length_cons];omega
theorem qIl {l:List BB} {i:Nat} (hi:i < l.length):tlD (l.take (i+1))=tlD (l.take i)++kF l[i]:=by
 unfold tlD
 rw [List.take_succ_eq_append_getElem hi,List.flatMap_append,List.flatMap_cons,List.flatMap_nil,List.append_nil]
theorem qdK {label:BB} {l:List BB} (h1:label.length≤255) (h2:l.length≤16) (h:∀ p∈l,p.length≤1000):(qdJ label l).length≤20000:=by
 have:=qJx h
 unfold qdJ
 simp only [List.length_append,List.length_cons,List.length_nil];omega
def qv0 (key label:BB) (l:List BB):BB:=tagD key (qdJ label l)
theorem qeO (key label:BB) (l:List BB):(qv0 key label l).length=32:=yB _ _
theorem qjD (key label:BB) (l:List BB) (hk:key.length≤1000000) (h1:label.length≤255) (h2:l.length≤16) (h:∀ p∈l,p.length≤1000):qfQ (key,label,l,())=some (qv0 key label l,0,()):=by
 unfold qfQ
 dsimp only
 refine (qF (a:=(false,())) ((qB (by simp only [go_sem,Int.reduceToNat];omega)).trans (by rw [show lt 16 (len l)=false from lt_f (by simp only [go_sem,Int.reduceToNat];omega)]))).trans ?_
 refine (qB rfl).trans ?_
 refine (qH (by simp only [go_sem,Int.reduceToNat];simp;omega)).trans ?_
 generalize hf:(fun (x_1:Int×BB×Int×Unit)=>(_:Option (LS (Int×BB×Int×Unit) (BB×Int×Unit))))=f
 have hT:∀ i,(qdJ label (l.take i)).length≤20000:=fun i=>qdK h1 (by rw [List.length_take];omega) (fun p hp=>h p (List.mem_of_mem_take hp))
 have step:∀ i:Nat,i < l.length→f (0,qdJ label (l.take i),(i:Int),())=some (.nx (0,qdJ label (l.take (i+1)),((i+1:Nat):Int),())):=by
  intro i hi
  subst hf
  have hi':i64 (iadd (i:Int) 1)=((i+1:Nat):Int):=i64n (by show (i:Int)+1=_;omega) (by omega)
  have hp:=h l[i] (List.getElem_mem hi)
  have ht:=hT i
  have hn:nth l (nat (i:Int)) (none' UInt8)=l[i]:=by rw [qU,qL hi]
  refine (qE (by simp only [go_sem,Int.reduceToNat];omega)).trans ?_
  refine (qH (by simp only [go_sem,Int.reduceToNat];omega)).trans ?_
  dsimp only
  rw [hn]
  refine (qB (by simp only [go_sem,Int.reduceToNat];omega)).trans ?_
  refine (qH (by simp only [go_sem,Int.reduceToNat];simp;omega)).trans ?_
  refine (qH (by simp only [go_sem,Int.reduceToNat];simp;omega)).trans ?_
  rw [hi',show qdJ label (l.take (i+1))=qdJ label (l.take i)++kF l[i] by unfold qdJ;rw [qIl hi,List.append_assoc,List.append_assoc,List.append_assoc]]
  unfold kF app
  rw [List.append_assoc]
 have hend:∀ u,f (0,u,(l.length:Int),())=some (.ex 0 (0,u,(l.length:Int),())):=by subst hf;intro u;exact qB (by simp only [go_sem,Int.reduceToNat];omega)
 have hloop:=(qN (f:=f) (fun i=>(0,qdJ label (l.take i),(i:Int),())) l.length step 0 (Nat.zero_le _)).trans (qV (hend _))
 rw [List.take_of_length_le (Nat.le_refl _)] at hloop
 have h0:qdJ label (l.take 0)=app [u8 (len label)] label:=by unfold qdJ;rw [List.take_zero];exact List.append_nil _
 rw [h0] at hloop
 refine (zA (show loop f (0,app [u8 (len label)] label,0,())=_ from hloop)).trans ?_
 refine (qH g62).trans ?_
 dsimp only
 have:=qdK h1 h2 h
 rw [qjC _ _ hk (by omega)];rfl
theorem quX (label:BB) (l:List BB) (h1:label.length≤255) (h2:l.length≤16) (h:∀ p∈l,p.length≤1000):qk2 (label,l,())=some (qdJ label l,()):=by
 unfold qk2
 dsimp only
 refine (qH (by simp only [go_sem,Int.reduceToNat];omega)).trans ?_
 refine (qH (by simp only [go_sem,Int.reduceToNat];simp;omega)).trans ?_
 generalize hf:(fun (x_1:BB×Int×Unit)=>(_:Option (LS (BB×Int×Unit) (BB×Unit))))=f
 have hT:∀ i,(qdJ label (l.take i)).length≤20000:=fun i=>qdK h1 (by rw [List.length_take];omega) (fun p hp=>h p (List.mem_of_mem_take hp))
 have step:∀ i:Nat,i < l.length→f (qdJ label (l.take i),(i:Int),())=some (.nx (qdJ label (l.take (i+1)),((i+1:Nat):Int),())):=by
  intro i hi
  subst hf
  have hi':i64 (iadd (i:Int) 1)=((i+1:Nat):Int):=i64n (by show (i:Int)+1=_;omega) (by omega)
  have hp:=h l[i] (List.getElem_mem hi)
  have ht:=hT i
  have hn:nth l (nat (i:Int)) (none' UInt8)=l[i]:=by rw [qU,qL hi]
  have q1:u8 (i64 (idiv (len l[i]) 256))=u8 (shrI .i64 (len l[i]) (n64 (u64 8))):=by
   have a1:idiv (len l[i]) 256=((l[i].length / 256:Nat):Int):=by rw [g31 (by simp only [go_sem,Int.reduceToNat];omega)];simp only [go_sem,Int.reduceToNat];omega
   have a2:shrI .i64 (len l[i]) (n64 (u64 8))=((l[i].length / 256:Nat):Int):=by show Int.fdiv (l[i].length:Int) (2 ^ 8)=_;rw [Int.fdiv_eq_ediv_of_nonneg _ (by decide)];omega
   rw [a1,a2,i64n rfl (by omega)]
  have q2:u8 (imod (len l[i]) 256)=u8 (len l[i]):=by
   rw [g32 (by simp only [go_sem,Int.reduceToNat];omega)];exact qCu (by simp only [go_sem,Int.reduceToNat];omega)
  refine (qE (by simp only [go_sem,Int.reduceToNat];omega)).trans ?_
  dsimp only
  rw [hn]
  refine (qH (by simp only [go_sem,Int.reduceToNat];omega)).trans ?_
  refine (qH (by simp only [go_sem,Int.reduceToNat];omega)).trans ?_
  refine (qH (by simp only [go_sem,Int.reduceToNat];simp;omega)).trans ?_
  refine (qH (by simp only [go_sem,Int.reduceToNat];omega)).trans ?_
  refine (qH (by simp only [go_sem,Int.reduceToNat];simp;omega)).trans ?_
  rw [hi',q1,q2,show qdJ label (l.take (i+1))=qdJ label (l.take i)++kF l[i] by unfold qdJ;rw [qIl hi,List.append_assoc,List.append_assoc,List.append_assoc]]
  unfold kF app
  rw [List.append_assoc]
 have hend:∀ u,f (u,(l.length:Int),())=some (.ex 0 (u,(l.length:Int),())):=by subst hf;intro u;exact qB (by simp only [go_sem,Int.reduceToNat];omega)
 have hloop:=(qN (f:=f) (fun i=>(qdJ label (l.take i),(i:Int),())) l.length step 0 (Nat.zero_le _)).trans (qV (hend _))
 rw [List.take_of_length_le (Nat.le_refl _)] at hloop
 have h0:qdJ label (l.take 0)=app [u8 (len label)] label:=by unfold qdJ;rw [List.take_zero];exact List.append_nil _
 rw [h0] at hloop
 refine (zA (show loop f (app [u8 (len label)] label,0,())=_ from hloop)).trans ?_
 exact qH g62
theorem qfF (key label:BB) (l:List BB) (hk:key.length≤1000000) (h1:label.length≤255) (h2:l.length≤16) (h:∀ p∈l,p.length≤1000):qa7 (key,label,l,())=some (qv0 key label l,0,()):=by
 unfold qa7
 dsimp only
 refine (qF (a:=(false,())) ((qB (by simp only [go_sem,Int.reduceToNat];omega)).trans (by rw [show lt 16 (len l)=false from lt_f (by simp only [go_sem,Int.reduceToNat];omega)]))).trans ?_
 refine (qB rfl).trans ?_
 generalize hf:(fun (x_1:Int×Int×Unit)=>(_:Option (LS (Int×Int×Unit) (BB×Int×Unit))))=f
 have step:∀ i:Nat,i < l.length→f (0,(i:Int),())=some (.nx (0,((i+1:Nat):Int),())):=by
  intro i hi
  subst hf
  have hi':i64 (iadd (i:Int) 1)=((i+1:Nat):Int):=i64n (by show (i:Int)+1=_;omega) (by omega)
  have hp:=h l[i] (List.getElem_mem hi)
  have hn:nth l (nat (i:Int)) (none' UInt8)=l[i]:=by rw [qU,qL hi]
  refine (qE (by simp only [go_sem,Int.reduceToNat];omega)).trans ?_
  dsimp only
  rw [hn,hi']
  refine (qH (by simp only [go_sem,Int.reduceToNat];omega)).trans ?_
  exact qB (by simp only [go_sem,Int.reduceToNat];omega)
 have hend:f (0,(l.length:Int),())=some (.ex 0 (0,(l.length:Int),())):=by subst hf;exact qB (by simp only [go_sem,Int.reduceToNat];omega)
 have hloop:=(qN (f:=f) (fun i=>(0,(i:Int),())) l.length step 0 (Nat.zero_le _)).trans (qV hend)
 refine (zA (show loop f (0,0,())=_ from hloop)).trans ?_
 refine (qH g62).trans ?_
 rw [quX _ _ h1 h2 h]
 refine (qF rfl).trans ?_
 dsimp only
 have:=qdK h1 h2 h
 rw [qeA _ _ hk (by omega)];rfl
def kcvD (key:BB):BB:=(tagD key (List.replicate 8 (u8 0))).take 3
theorem qvK (key:BB):(kcvD key).length=3:=by unfold kcvD;rw [List.length_take,yB];rfl
theorem qrB (key:BB) (hk:key.length≤1000000):qvD (key,())=some (kcvD key,()):=by
 unfold qvD
 refine (qH (by decide)).trans ?_
 dsimp only
 rw [show rep (nat 8) (u8 0)=List.replicate 8 (u8 0) from rfl,qjC _ _ hk (by simp)]
 refine (qF rfl).trans ?_
 dsimp only
 have:=yB key (List.replicate 8 (u8 0))
 refine (qH (by simp only [go_sem,Int.reduceToNat];omega)).trans ?_
 rfl
theorem qxX (key:BB) (hk:key.length≤1000000):qn3 (key,())=some (kcvD key,()):=by
 unfold qn3
 refine (qH (by decide)).trans ?_
 dsimp only
 rw [show rep (nat 8) (u8 0)=List.replicate 8 (u8 0) from rfl,qeA _ _ hk (by simp)]
 refine (qF rfl).trans ?_
 dsimp only
 have:=yB key (List.replicate 8 (u8 0))
 refine (qH (by simp only [go_sem,Int.reduceToNat];omega)).trans ?_
 rfl
def kB (k b:BB):BB:=(tagD k b).take 16
theorem qbZ (k b:BB):(kB k b).length=16:=by unfold kB;rw [List.length_take,yB];rfl
theorem qi4 (k b:BB) (hk:k.length≤1000000) (hb:b.length≤1000000):qfJ (k,b,())=some (kB k b,()):=by
 unfold qfJ
 dsimp only
 rw [qjC _ _ hk hb]
 refine (qF rfl).trans ?_
 dsimp only
 have:=yB k b
 refine (qH (by simp only [go_sem,Int.reduceToNat];omega)).trans ?_
 rfl
theorem qbO (k b:BB) (hk:k.length≤1000000) (hb:b.length≤1000000):qaF (k,b,())=some (kB k b,()):=by
 unfold qaF
 dsimp only
 rw [qeA _ _ hk hb]
 refine (qF rfl).trans ?_
 dsimp only
 have:=yB k b
 refine (qH (by simp only [go_sem,Int.reduceToNat];omega)).trans ?_
 rfl
abbrev ET:=BB×BB×Unit
theorem qA6 (p:qbH) (k b:BB):qs5 (p,k,b,())=some (D ((k,b,())∈p.2.1),()):=by
 unfold qs5
 congr 2
 refine qkB ?_
 rw [List.any_eq_true]
 constructor
 ·rintro ⟨⟨e1,e2,⟨⟩⟩,he,h⟩
  simp only [band,seq,Bool.and_eq_true,beq_iff_eq] at h
  rw [h.1,h.2];exact he
 ·intro h
  exact ⟨_,h,by simp [band,seq]⟩
theorem qlX (p:qbH) (k b:BB) (hl:p.2.1.length≤1000000):qiW (p,k,b,())=some (D ((k,b,())∈p.2.1),()):=by
 unfold qiW
 dsimp only
 generalize p.2.1=l at hl
 generalize hf:(fun (x_1:Bool×Int×Unit)=>(_:Option (LS (Bool×Int×Unit) (Bool×Unit))))=f
 have hsame:∀ (i:Nat) (h:i < l.length),nth l (nat (i:Int)) (none' UInt8,none' UInt8,())=l[i]:=fun i h=>by rw [qU,qL h]
 have key:=qb5 (f:=f) l (fun i=>(false,(i:Int),())) 0 ((true,()):Bool×Unit) (fun e=>¬ e=(k,b,())) (fun i h hp => ?_) (fun i h hp => ?_) ?_
 ·rcases key with ⟨h,hl⟩ | ⟨h,hl⟩
  ·refine (zA (show loop f (false,0,())=_ from hl)).trans ?_
   refine (qH g62).trans ?_
   rw [D_f (fun hm=>h _ hm rfl)]
  ·refine (zA (show loop f (false,0,())=_ from hl)).trans ?_
   rw [D_t (Classical.byContradiction fun hm=>h fun x hx e=>hm (e ▸ hx))];rfl
 ·subst hf
  have hi':i64 (iadd (i:Int) 1)=((i+1:Nat):Int):=i64n (by show (i:Int)+1=_;omega) (by omega)
  refine (qE (by simp (disch:=first | assumption | omega | (dsimp only;omega) | decide) only [go_sem,Int.reduceToNat];omega)).trans ?_
  refine (qH (by simp (disch:=first | assumption | omega | (dsimp only;omega) | decide) only [go_sem,Int.reduceToNat];omega)).trans ?_
  dsimp only
  rw [hsame i h,hi']
  generalize l[i]=e at hp
  obtain ⟨e1,e2,⟨⟩⟩:=e
  by_cases h1:e1=k
  ·have h2:¬ e2=b:=fun h2=>hp (by rw [h1,h2])
   simp (disch:=omega) only [go_sem,Int.reduceToNat,qT,h1,h2]
  ·simp (disch:=omega) only [go_sem,Int.reduceToNat,qT,h1]
 ·subst hf
  have hp':l[i]=(k,b,()):=Classical.byContradiction hp
  refine (qE (by simp (disch:=omega) only [go_sem,Int.reduceToNat];omega)).trans ?_
  refine (qH (by simp (disch:=omega) only [go_sem,Int.reduceToNat];omega)).trans ?_
  dsimp only
  rw [hsame i h,hp']
  simp (disch:=omega) only [go_sem,Int.reduceToNat,qT]
 ·subst hf
  exact qB (by simp (disch:=omega) only [go_sem,Int.reduceToNat];omega)
def ptag (p:qbH) (k b:BB):qbH:=if (k,b,())∈p.2.1 then p else (p.1,p.2.1++[(k,b,())],p.2.2)
theorem qKI {α:Type} (l:List α):sub l 0 (len l)=l:=by
 unfold sub
 rw [show (0:Int).toNat=0 from rfl,List.drop_zero,show (len l).toNat=l.length from qU,List.take_of_length_le (by omega)]
theorem qMp {α:Type} (l:List α):band (inC 0 (len l) (len l)) (beq (len l) (len l))=true:=by
 rw [xH rfl,g37];simp only [go_sem,Int.reduceToNat];omega
theorem qJ9 (l:List ET):zQ (l,())=some (l,()):=by
 unfold zQ
 dsimp only
 rw [qKI]
 exact qH (qMp l)
theorem qh6 (l:BB) (h:l.length≤1000000):qdH (l,())=some (l,()):=by
 unfold qdH
 exact qH (by simp only [go_sem,Int.reduceToNat];omega)
theorem qA5 (p:qbH) (k b:BB) (hl:p.2.1.length≤1000000) (hk:k.length≤1000000) (hb:b.length≤1000000):qs4 (p,k,b,())=some (ptag p k b,kB k b,()):=by
 unfold qs4
 dsimp only
 rw [qA6]
 refine (qF rfl).trans ?_
 unfold ptag
 by_cases h:(k,b,())∈p.2.1
 ·rw [D_t h,if_pos h]
  refine (qB rfl).trans ?_
  rw [qi4 _ _ hk hb];rfl
 ·rw [D_f h,if_neg h]
  refine (qE rfl).trans ?_
  rw [qJ9]
  refine (qF rfl).trans ?_
  rw [qh6 _ hk]
  refine (qF rfl).trans ?_
  rw [qh6 _ hb]
  refine (qF rfl).trans ?_
  refine (qH (by simp only [go_sem,Int.reduceToNat];simp;omega)).trans ?_
  rw [qi4 _ _ hk hb];rfl
theorem qxV (p:qbH) (k b:BB) (hl:p.2.1.length≤1000000) (hk:k.length≤1000000) (hb:b.length≤1000000):qn2 (p,k,b,())=some (ptag p k b,kB k b,()):=by
 unfold qn2
 dsimp only
 rw [qlX _ _ _ hl]
 refine (qF rfl).trans ?_
 unfold ptag
 by_cases h:(k,b,())∈p.2.1
 ·rw [D_t h,if_pos h]
  refine (qB rfl).trans ?_
  rw [qbO _ _ hk hb];rfl
 ·rw [D_f h,if_neg h]
  refine (qE rfl).trans ?_
  refine (qH (by simp only [go_sem,Int.reduceToNat];omega)).trans ?_
  refine (qH (by simp only [go_sem,Int.reduceToNat];simp;omega)).trans ?_
  rw [qbO _ _ hk hb];rfl
theorem qQr (p:qbH) (k b:BB):(ptag p k b).2.1.length≤p.2.1.length+1:=by
 unfold ptag
 split
 ·omega
 ·simp
def pchk (p:qbH) (k b t:BB):qbH×Bool×Unit :=
 if kB k b=t then (if (k,b,())∈p.2.1 then (p,true,()) else ((p.1,p.2.1,true,()), !p.1,())) else (p,false,())
theorem qsQ (p:qbH) (k b t:BB) (hl:p.2.1.length≤1000000) (hk:k.length≤1000000) (hb:b.length≤1000000):qc0 (p,k,b,t,())=some (pchk p k b t):=by
 unfold qc0
 dsimp only
 rw [qbO _ _ hk hb]
 refine (qF rfl).trans ?_
 dsimp only
 rw [qT]
 refine (qF rfl).trans ?_
 unfold pchk
 by_cases ht:kB k b=t
 ·rw [if_pos ht,qMT ht]
  refine (qB rfl).trans ?_
  rw [qlX _ _ _ hl]
  refine (qF rfl).trans ?_
  by_cases h:(k,b,())∈p.2.1
  ·rw [D_t h,if_pos h];rfl
  ·rw [D_f h,if_neg h];rfl
 ·rw [if_neg ht,qMU ht];rfl
theorem quW (p:qbH) (hl:p.2.1.length≤1000000):qfD (p,p,())=some (true,()):=by
 unfold qfD
 dsimp only
 have e1:∀ b:Bool,beb b b=true:=fun b=>by cases b <;> rfl
 rw [e1,e1,xH rfl]
 refine (qF (a:=(false,())) rfl).trans ?_
 refine (qB rfl).trans ?_
 generalize p.2.1=l at hl
 generalize hf:(fun (x_1:Bool×Int×Unit)=>(_:Option (LS (Bool×Int×Unit) (Bool×Unit))))=f
 have step:∀ i:Nat,i < l.length→f (false,(i:Int),())=some (.nx (false,((i+1:Nat):Int),())):=by
  intro i hi
  subst hf
  have hi':i64 (iadd (i:Int) 1)=((i+1:Nat):Int):=i64n (by show (i:Int)+1=_;omega) (by omega)
  refine (qE (by simp (disch:=omega) only [go_sem,Int.reduceToNat];omega)).trans ?_
  dsimp only
  rw [hi']
  simp (disch:=omega) only [go_sem,Int.reduceToNat,qT]
 have hend:f (false,(l.length:Int),())=some (.ex 0 (false,(l.length:Int),())):=by subst hf;exact qB (by simp (disch:=omega) only [go_sem,Int.reduceToNat];omega)
 have hloop:=(qN (f:=f) (fun i=>(false,(i:Int),())) l.length step 0 (Nat.zero_le _)).trans (qV hend)
 refine (zA (show loop f (false,0,())=_ from hloop)).trans ?_
 exact qH g62
def fewP (p:qbH) (most:Int):Prop:=(p.2.1.length:Int)≤most∧∀ e∈p.2.1,e.1.length≤100∧e.2.1.length≤2000
theorem qxW (p:qbH) (most:Int) (hm:most≤1000000):qiX (p,most,())=some (D (fewP p most),()):=by
 unfold qiX fewP
 dsimp only
 generalize p.2.1=l
 by_cases h0:(l.length:Int)≤most
 ·refine (qB (by simp (disch:=first | assumption | omega | (dsimp only;omega) | decide) only [go_sem,Int.reduceToNat];omega)).trans ?_
  generalize hf:(fun (x_1:Bool×Int×Unit)=>(_:Option (LS (Bool×Int×Unit) (Bool×Unit))))=f
  have hsame:∀ (i:Nat) (h:i < l.length),nth l (nat (i:Int)) (none' UInt8,none' UInt8,())=l[i]:=fun i h=>by rw [qU,qL h]
  have key:=qb5 (f:=f) l (fun i=>(false,(i:Int),())) 0 ((false,()):Bool×Unit) (fun e=>e.1.length≤100∧e.2.1.length≤2000) (fun i h hp => ?_) (fun i h hp => ?_) ?_
  ·rcases key with ⟨h,hl⟩ | ⟨h,hl⟩
   ·refine (zA (show loop f (false,0,())=_ from hl)).trans ?_
    refine (qH g62).trans ?_
    rw [D_t ⟨h0,h⟩]
   ·refine (zA (show loop f (false,0,())=_ from hl)).trans ?_
    rw [D_f (fun hm=>h hm.2)];rfl
  ·subst hf
   have hi':i64 (iadd (i:Int) 1)=((i+1:Nat):Int):=i64n (by show (i:Int)+1=_;omega) (by omega)
   refine (qE (by simp (disch:=omega) only [go_sem,Int.reduceToNat];omega)).trans ?_
   dsimp only
   rw [hsame i h,hi']
   obtain ⟨p1,p2⟩:=hp
   simp (disch:=omega) only [go_sem,Int.reduceToNat]
  ·subst hf
   refine (qE (by simp (disch:=omega) only [go_sem,Int.reduceToNat];omega)).trans ?_
   dsimp only
   rw [hsame i h]
   by_cases h1:l[i].1.length≤100
   ·have h2:¬ l[i].2.1.length≤2000:=fun h2=>hp ⟨h1,h2⟩
    simp (disch:=omega) only [go_sem,Int.reduceToNat]
   ·simp (disch:=omega) only [go_sem,Int.reduceToNat]
  ·subst hf
   exact qB (by simp (disch:=omega) only [go_sem,Int.reduceToNat];omega)
 ·refine (qE (by simp (disch:=omega) only [go_sem,Int.reduceToNat];omega)).trans ?_
  rw [D_f (fun h=>h0 h.1)]
end Yp
namespace Yp
open Go
set_option maxRecDepth 100000
set_option maxHeartbeats 2000000
def big8 (n:Int):BB:=ps 256 byt n.toNat 8
theorem qwV (n:Int):(big8 n).length=8:=zM _ _ _ _
def recD (n:Int):BB:=big8 n++(qr1 ([u8 121,u8 101,u8 116,u8 116]++big8 n)).take 8
theorem qG0 (n:Int):(recD n).length=16:=by unfold recD;rw [List.length_append,qwV,List.length_take,xU];rfl
def qPy (n:Int):Prop:=1≤n∧n≤4611686018427387904
theorem qRI {n:Int} (h:qPy n):((1:Int)≤8∧(8:Int)≤8∧0≤n∧n < 256 ^ (8:Int).toNat):=by
 obtain ⟨h1,h2⟩:=h
 refine ⟨by omega,by omega,by omega, ?_⟩
 show n < 256 ^ 8
 omega
theorem qp4 (n:Int) (hn:n≤9223372036854775807):qdR (n,())=some (if 1≤n∧n≤4611686018427387904 then (recD n,0,()) else ([],1,())):=by
 unfold qdR
 dsimp only
 by_cases h:1≤n∧n≤4611686018427387904
 ·rw [if_pos h]
  refine (qF (a:=(false,())) ((qB (by simp only [go_sem,Int.reduceToNat];omega)).trans (by rw [show lt 4611686018427387904 n=false from lt_f (by omega)]))).trans ?_
  refine (qB rfl).trans ?_
  rw [qeB _ _ hn,if_pos (qRI h)]
  refine (qF rfl).trans ?_
  dsimp only
  rw [show ps 256 byt n.toNat (8:Int).toNat=big8 n from rfl]
  have:=qwV n
  refine (qH (by simp only [go_sem,Int.reduceToNat];simp;omega)).trans ?_
  rw [show app [u8 121,u8 101,u8 116,u8 116] (big8 n)=[u8 121,u8 101,u8 116,u8 116]++big8 n from rfl,qb3 _ (by simp;omega)]
  refine (qF rfl).trans ?_
  dsimp only
  have h2:=xU ([u8 121,u8 101,u8 116,u8 116]++big8 n)
  refine (qH (by simp only [go_sem,Int.reduceToNat];omega)).trans ?_
  refine (qH (by simp only [go_sem,Int.reduceToNat];omega)).trans ?_
  rw [show cut (qr1 ([u8 121,u8 101,u8 116,u8 116]++big8 n)) (nat 0) (nsub (nat 8) (nat 0))=(qr1 ([u8 121,u8 101,u8 116,u8 116]++big8 n)).take 8 from rfl,show app (none' UInt8) (big8 n)=big8 n from rfl]
  refine (qH (by simp only [go_sem,Int.reduceToNat];simp;omega)).trans ?_
  rfl
 ·rw [if_neg h]
  by_cases h1:n < 1
  ·refine (qF (a:=(true,())) (qE (by simp only [go_sem,Int.reduceToNat];omega))).trans ?_
   rfl
  ·refine (qF (a:=(true,())) ((qB (by simp only [go_sem,Int.reduceToNat];omega)).trans (by rw [show lt 4611686018427387904 n=true from lt_t (by omega)]))).trans ?_
   rfl
abbrev ST:=BB×BB×Unit
end Yp
namespace Yp
open Go
set_option maxRecDepth 100000
set_option maxHeartbeats 2000000
def qIB (s:ST):Prop:=s.1.length=16∧s.2.1.length=16
def newS:ST:=(recD 1,List.replicate 16 (u8 0),())
theorem qxQ:qnW ()=some (newS,()):=by
 unfold qnW
 rw [qp4 _ (by decide),if_pos (by decide)]
 rfl
theorem qsH (s:ST):qgD (s,())=some (D (qIB s),()):=by
 unfold qgD qIB
 by_cases h:s.1.length=16
 ·simp only [go_sem,Int.reduceToNat,h];exact zL (by omega)
 ·rw [D_f (fun h'=>h h'.1)];simp (disch:=omega) only [go_sem,Int.reduceToNat];try omega
theorem quM (s:ST):qkS (s,s,())=some (true,()):=by
 unfold qkS
 simp only [go_sem,Int.reduceToNat,qT]
theorem qxR (s:ST):qnX (s,())=some (D (s.1.length≤100∧s.2.1.length≤100),()):=by
 unfold qnX
 by_cases h:s.1.length≤100
 ·simp only [go_sem,Int.reduceToNat];exact zL (by omega)
 ·rw [D_f (fun h'=>h h'.1)];simp (disch:=omega) only [go_sem,Int.reduceToNat];try omega
end Yp
namespace Yp
open Go
set_option maxRecDepth 100000
set_option maxHeartbeats 2000000
def qO (p:Int):Prop:=2≤p∧p≤6
def qsU (p:Int):Prop:=p=3∨p=4∨p=5
instance (p:Int):Decidable (qO p):=by unfold qO;infer_instance
instance (p:Int):Decidable (qsU p):=by unfold qsU;infer_instance
def qHe (p:Int):Int:=if p=0 then 0 else if p=1 then 1 else if p=2 then 2 else if p=3 then 3 else if p=4 then 4 else if p=5 then 4 else if p=6 then 5 else -1
theorem qc2 (p:Int):qaH (p,())=some (qHe p,()):=by
 unfold qaH qHe
 by_cases h0:p=0
 ·subst h0;rfl
 by_cases h1:p=1
 ·subst h1;rfl
 by_cases h2:p=2
 ·subst h2;rfl
 by_cases h3:p=3
 ·subst h3;rfl
 by_cases h4:p=4
 ·subst h4;rfl
 by_cases h5:p=5
 ·subst h5;rfl
 by_cases h6:p=6
 ·subst h6;rfl
 rw [if_neg h0,if_neg h1,if_neg h2,if_neg h3,if_neg h4,if_neg h5,if_neg h6]
 simp (disch:=omega) only [go_sem,Int.reduceToNat]
theorem qPj (p:Int):2≤qHe p↔qO p:=by
 unfold qHe qO
 repeat' split
 all_goals omega
theorem qNj (p:Int):qHe p=3∨qHe p=4↔qsU p:=by
 unfold qHe qsU
 repeat' split
 all_goals omega
theorem qp7 (p:Int):qdT (p,())=some (D (qO p),()):=by
 unfold qdT
 rw [qc2]
 simp only [go_sem,Int.reduceToNat,qPj]
theorem qu2 (p:Int):qk6 (p,())=some (D (qsU p),()):=by
 unfold qk6
 rw [qc2]
 simp only [go_sem,Int.reduceToNat,qc2,qNj]
theorem xK (p:Int):xW (p,())=some (D (qO p),()):=by
 unfold xW qO
 simp only [go_sem,Int.reduceToNat]
theorem qiT (p:Int):qkR (p,())=some (D (qsU p),()):=by
 unfold qkR qsU
 simp only [go_sem,Int.reduceToNat]
 exact zL or_assoc
def qx9 (c s:Int) (b:BB):Prop:=yT c∧1≤s∧s≤999999∧1≤b.length∧b.length≤900
instance (c s:Int) (b:BB):Decidable (qx9 c s b):=by unfold qx9;infer_instance
theorem qyS (c:Int):qpF (c,())=some (D (yT c),()):=by
 unfold qpF yT
 by_cases h1:c=1
 ·subst h1;simp only [go_sem,Int.reduceToNat]
 by_cases h2:c=2
 ·subst h2;simp (disch:=omega) only [go_sem,Int.reduceToNat]
 by_cases h3:c=101
 ·subst h3;simp (disch:=omega) only [go_sem,Int.reduceToNat]
 by_cases h4:c=201
 ·subst h4;simp (disch:=omega) only [go_sem,Int.reduceToNat]
 simp only [go_sem,Int.reduceToNat,h1,h2,h3,h4]
theorem qCh (c s:Int) (b:BB):qtF (c,s,b,())=some (D (qx9 c s b),()):=by
 unfold qtF qx9
 rw [qyS]
 by_cases hk:yT c
 ·simp only [go_sem,Int.reduceToNat,hk];exact zL (by omega)
 ·rw [D_f (p:=_∧_) (fun h=>hk h.1)];simp only [go_sem,Int.reduceToNat,hk]
theorem qiR (c s:Int) (b:BB):qe7 (c,s,b,())=some (D (qx9 c s b),()):=by
 unfold qe7 qx9
 rw [qhT]
 by_cases hk:yT c
 ·simp only [go_sem,Int.reduceToNat,hk];exact zL (by omega)
 ·rw [D_f (p:=_∧_) (fun h=>hk h.1)];simp only [go_sem,Int.reduceToNat,hk]
def noA:TAsk:=(0,0,0,0,[],())
def ql8 (c s:Int) (b:BB):TAsk×Int×Unit:=if qx9 c s b then ((c,s,8,3,b,()),0,()) else (noA,1,())
theorem qyT (c s:Int) (b:BB):qpG (c,s,b,())=some (ql8 c s b):=by
 unfold qpG ql8
 rw [qCh]
 by_cases h:qx9 c s b
 ·rw [D_t h,if_pos h];rfl
 ·rw [D_f h,if_neg h];rfl
theorem qsG (c s:Int) (b:BB):qgC (c,s,b,())=some (ql8 c s b):=by
 unfold qgC ql8
 rw [qiR]
 by_cases h:qx9 c s b
 ·rw [D_t h,if_pos h];rfl
 ·rw [D_f h,if_neg h];rfl
theorem qiS (a:TAsk):qe8 (a,())=some (D (a=noA),()):=by
 obtain ⟨c,s,d,l,b,⟨⟩⟩:=a
 unfold qe8 noA
 simp only [go_sem,Int.reduceToNat]
 refine zL ?_
 simp only [Prod.mk.injEq,and_true]
 have hb:(b.length:Int)=0↔b=[]:=by rw [← List.length_eq_zero_iff];omega
 rw [hb]
 constructor
 ·rintro ⟨⟨⟨⟨h1,h2⟩,h3⟩,h4⟩,h5⟩;exact ⟨h1,h2,h3,h4,h5⟩
 ·rintro ⟨h1,h2,h3,h4,h5⟩;exact ⟨⟨⟨⟨h1,h2⟩,h3⟩,h4⟩,h5⟩
theorem qCg (a:TAsk):qtE (a,())=some (D (a=noA),()):=by
 obtain ⟨c,s,d,l,b,⟨⟩⟩:=a
 unfold qtE qCj noA
 simp only [go_sem,Int.reduceToNat,qsY]
 refine zL ?_
 simp only [Prod.mk.injEq,and_true]
 constructor
 ·rintro ⟨⟨⟨⟨h1,h2⟩,h3⟩,h4⟩,h5⟩;exact ⟨h1,h2,h3,h4,h5⟩
 ·rintro ⟨h1,h2,h3,h4,h5⟩;exact ⟨⟨⟨⟨h1,h2⟩,h3⟩,h4⟩,h5⟩
def ql1 (a:TAsk) (c s:Int):Prop:=¬ a=noA∧a.1=c∧a.2.1=s
theorem qyR (a:TAsk) (c s:Int):qpE (a,c,s,())=some (D (ql1 a c s),()):=by
 unfold qpE ql1
 rw [qCg]
 simp only [go_sem,Int.reduceToNat]
theorem qsF (a:TAsk) (c s:Int):qgB (a,c,s,())=some (D (ql1 a c s),()):=by
 unfold qgB ql1
 rw [qiS]
 simp only [go_sem,Int.reduceToNat]
def qIC (a:TAsk):Prop:=a=noA∨qx9 a.1 a.2.1 a.2.2.2.2.1∧1≤a.2.2.1∧a.2.2.1≤8∧0≤a.2.2.2.1∧a.2.2.2.1≤3
theorem qsE (a:TAsk):qgA (a,())=some (D (qIC a),()):=by
 unfold qgA qIC
 rw [qiS]
 simp only [go_sem,Int.reduceToNat,qiR]
 refine zL ?_
 simp only [and_assoc]
theorem quL (a:TAsk):qkQ (a,a,())=some (true,()):=by
 unfold qkQ
 simp only [go_sem,Int.reduceToNat,qT]
def vL (n:Int):Int:=if n < 0∨999999≤n then 1 else n+1
theorem qCi (n:Int):qtG (n,())=some (vL n,()):=by
 unfold qtG vL
 by_cases h:n < 0∨999999≤n
 ·rw [if_pos h];simp (disch:=omega) only [go_sem,Int.reduceToNat]
 ·rw [if_neg h];simp (disch:=omega) only [go_sem,Int.reduceToNat]
theorem quK (n:Int):qkP (n,())=some (vL n,()):=by
 unfold qkP vL
 by_cases h:n < 0∨999999≤n
 ·rw [if_pos h];simp (disch:=omega) only [go_sem,Int.reduceToNat]
 ·rw [if_neg h];simp (disch:=omega) only [go_sem,Int.reduceToNat]
def qQs (u:List Bool) (n:Nat):Option Nat:=((List.range 4).map fun i=>(n+i) % 4).find? fun c=>u.getD c false
def v5 (h:THub):THub×Int×Int×Unit:=match qQs h.1 h.2.2.2.1.toNat with | none=>(h,0,11,()) | some c=>((h.1,h.2.1,h.2.2.1,(((c+1) % 4:Nat):Int),()),(c:Int),0,())
theorem four {α:Type} {w:List α} (h:w.length=4):∃ a b c d,w=[a,b,c,d]:=by
 match w,h with
 | [a,b,c,d],_=>exact ⟨a,b,c,d,rfl⟩
theorem qBs (h:THub) (hu:h.1.length=4) (hn:0≤h.2.2.2.1∧h.2.2.2.1 < 4):qtC (h,())=some (v5 h):=by
 obtain ⟨u,f,l,n,⟨⟩⟩:=h
 dsimp only at hu hn
 obtain ⟨a,b,c,d,rfl⟩:=four hu
 have:n=0∨n=1∨n=2∨n=3:=by omega
 unfold qtC
 rcases this with rfl | rfl | rfl | rfl <;> cases a <;> cases b <;> cases c <;> cases d <;> (refine (zA (qgY 5 rfl)).trans ?_;kernel_rfl)
theorem quO (h:THub) (hu:h.1.length=4) (hn:0≤h.2.2.2.1∧h.2.2.2.1 < 4):qkV (h,())=some (v5 h):=by
 obtain ⟨u,f,l,n,⟨⟩⟩:=h
 dsimp only at hu hn
 obtain ⟨a,b,c,d,rfl⟩:=four hu
 have:n=0∨n=1∨n=2∨n=3:=by omega
 unfold qkV quP
 rcases this with rfl | rfl | rfl | rfl <;> cases a <;> cases b <;> cases c <;> cases d <;> first | (refine (qF (a:=(false,())) rfl).trans ?_;refine (qE rfl).trans ?_;kernel_rfl) | (refine (qF (a:=(true,())) rfl).trans ?_;refine (qB rfl).trans ?_;refine (zA (qgY 5 rfl)).trans ?_;kernel_rfl)
theorem qvS (b:BB) (h:1≤b.length∧b.length≤1024):qlF (b,())=some (kF b,0,()):=by
 unfold qlF
 refine (qF (a:=(false,())) ((qB (by simp only [go_sem,Int.reduceToNat];omega)).trans (by rw [show lt 1024 (len b)=false from lt_f (by simp only [go_sem,Int.reduceToNat];omega)]))).trans ?_
 refine (qB rfl).trans ?_
 refine (qH (by simp only [go_sem,Int.reduceToNat];simp;omega)).trans ?_
 rfl
theorem quQ (b:BB) (h:1≤b.length∧b.length≤1024):qkW (b,())=some (kF b,0,()):=by
 unfold qkW
 refine (qF (a:=(false,())) ((qB (by simp only [go_sem,Int.reduceToNat];omega)).trans (by rw [show lt 1024 (len b)=false from lt_f (by simp only [go_sem,Int.reduceToNat];omega)]))).trans ?_
 refine (qB rfl).trans ?_
 refine (qH (by simp only [go_sem,Int.reduceToNat];simp;omega)).trans ?_
 have q1:u8 (i64 (idiv (len b) 256))=u8 (shrI .i64 (len b) (n64 (u64 8))):=by
  have a1:idiv (len b) 256=((b.length / 256:Nat):Int):=by rw [g31 (by simp only [go_sem,Int.reduceToNat];omega)];simp only [go_sem,Int.reduceToNat];omega
  have a2:shrI .i64 (len b) (n64 (u64 8))=((b.length / 256:Nat):Int):=by show Int.fdiv (b.length:Int) (2 ^ 8)=_;rw [Int.fdiv_eq_ediv_of_nonneg _ (by decide)];omega
  rw [a1,a2,i64n rfl (by omega)]
 have q2:u8 (imod (len b) 256)=u8 (len b):=by
  rw [g32 (by simp only [go_sem,Int.reduceToNat];omega)];exact qCu (by simp only [go_sem,Int.reduceToNat];omega)
 dsimp only
 rw [q1,q2];rfl
end Yp
namespace Yp
open Go
set_option maxRecDepth 100000
set_option maxHeartbeats 2000000
abbrev GT:=Int×BB×Unit
def noG:GT:=(0,[],())
def noR:z6:=(noG,noG,noG,0,0,())
theorem qQT (g:GT):(g.1=0∧(g.2.1.length:Int)=0)↔g=noG:=by
 obtain ⟨n,k,⟨⟩⟩:=g
 unfold noG
 have hb:(k.length:Int)=0↔k=[]:=by rw [← List.length_eq_zero_iff];omega
 simp only [Prod.mk.injEq,and_true,hb]
theorem qd7 (g:GT):qiG (g,())=some (D (g=noG),()):=by
 unfold qiG
 simp only [go_sem,Int.reduceToNat]
 exact zL (qQT g)
theorem qcU (g:GT):yP (g,())=some (D (g=noG),()):=by
 unfold yP
 simp only [go_sem,Int.reduceToNat]
 exact zL (qQT g)
def yY (g:GT):Prop:=1≤g.1∧g.1≤2147483647∧g.2.1.length=32
instance (g:GT):Decidable (yY g):=by unfold yY;infer_instance
theorem qxL (g:GT):qnP (g,())=some (D (yY g),()):=by
 unfold qnP yY
 simp only [go_sem,Int.reduceToNat]
 exact zL (by omega)
theorem qcT (g:GT):qcD (g,())=some (D (yY g),()):=by
 unfold qcD yY
 simp only [go_sem,Int.reduceToNat]
 exact zL (by omega)
theorem qQS (r:z6):(r.1=noG∧r.2.1=noG∧r.2.2.1=noG∧r.2.2.2.1=0∧r.2.2.2.2.1=0)↔r=noR:=by
 obtain ⟨a,b,c,l,t,⟨⟩⟩:=r
 unfold noR
 simp only [Prod.mk.injEq,and_true]
theorem qiH (r:z6):vO ((r,()),())=some (D (r=noR),()):=by
 unfold vO qf4
 refine (qF rfl).trans ?_
 dsimp only
 generalize hf:(fun (x:Bool×Int×Unit)=>(_:Option (LS (Bool×Int×Unit) (Bool×Unit))))=f
 have key:=qb5 (f:=f) [r.1,r.2.1,r.2.2.1] (fun i=>(false,(i:Int),())) 0 ((false,()):Bool×Unit) (fun g=>g=noG) (fun i h hp => ?_) (fun i h hp => ?_) ?_
 ·rcases key with ⟨h,hl⟩ | ⟨h,hl⟩
  ·refine (zA (show loop f (false,0,())=_ from hl)).trans ?_
   refine (qH g62).trans ?_
   have h1:=h r.1 (by simp)
   have h2:=h r.2.1 (by simp)
   have h3:=h r.2.2.1 (by simp)
   simp only [go_sem,Int.reduceToNat]
   exact zL (Iff.trans ⟨fun h=>⟨h1,h2,h3,h.1,h.2⟩,fun h=>⟨h.2.2.2.1,h.2.2.2.2⟩⟩ (qQS r))
  ·refine (zA (show loop f (false,0,())=_ from hl)).trans ?_
   rw [D_f (fun e=>h (by rw [e];intro x hx;simp [noR] at hx;exact hx))];rfl
 ·subst hf
  have h3:i < 3:=h
  have hi':i64 (iadd (i:Int) 1)=((i+1:Nat):Int):=i64n (by show (i:Int)+1=_;omega) (by omega)
  refine (qE (by simp only [go_sem,Int.reduceToNat];omega)).trans ?_
  refine (qH (by simp only [go_sem,Int.reduceToNat];omega)).trans ?_
  dsimp only
  rw [hi',qU,qL h,qd7,D_t hp];rfl
 ·subst hf
  have h3:i < 3:=h
  refine (qE (by simp only [go_sem,Int.reduceToNat];omega)).trans ?_
  refine (qH (by simp only [go_sem,Int.reduceToNat];omega)).trans ?_
  dsimp only
  rw [qU,qL h,qd7,D_f hp];rfl
 ·subst hf
  exact qB rfl
theorem qbM (r:z6):qaB (r,())=some (D (r=noR),()):=by
 unfold qaB
 simp only [go_sem,Int.reduceToNat,qcU]
 refine zL (Iff.trans ?_ (qQS r))
 simp only [and_assoc]
def qh8 (r:z6):Int×Int×Unit:=if r=noR then (0,9,()) else if 2147483647≤r.2.2.2.2.1 then (0,10,()) else (r.2.2.2.2.1+1,0,())
theorem qxN (r:z6) (h:r.2.2.2.2.1≤2147483647) (h0:0≤r.2.2.2.2.1):qnR (r,())=some (qh8 r):=by
 unfold qnR qh8
 rw [qiH]
 by_cases hr:r=noR
 ·rw [D_t hr,if_pos hr];rfl
 ·rw [D_f hr,if_neg hr]
  by_cases ht:2147483647≤r.2.2.2.2.1
  ·rw [if_pos ht];simp (disch:=omega) only [go_sem,Int.reduceToNat]
  ·rw [if_neg ht];simp (disch:=omega) only [go_sem,Int.reduceToNat]
def qQ (r:z6) (no:Int) (key:BB):z6×Int×Unit :=
 if ¬ yY (no,key,()) then (r,1,()) else if r=noR∨no≤r.1.1∨no < r.2.2.1.1 then (r,9,()) else ((r.1,r.2.1,(no,key,()),r.2.2.2.1,max r.2.2.2.2.1 no,()),0,())
theorem qcN (r:z6) (no:Int) (key:BB):qcB (r,no,key,())=some (qQ r no key):=by
 unfold qcB qQ
 dsimp only
 rw [qxL]
 refine (qF rfl).trans ?_
 by_cases hg:yY (no,key,())
 ·rw [if_neg (not_not_intro hg),D_t hg]
  refine (qB rfl).trans ?_
  rw [qiH]
  refine (qF rfl).trans ?_
  by_cases hc:r=noR∨no≤r.1.1∨no < r.2.2.1.1
  ·rw [if_pos hc]
   refine (qF (a:=(true,())) ?_).trans rfl
   simp (disch:=first | assumption | omega | (dsimp only;omega) | decide) only [go_sem,Int.reduceToNat]
   try exact qbV (by rcases hc with h | h | h <;> simp [h])
  ·rw [if_neg hc]
   simp only [not_or] at hc
   obtain ⟨c1,c2,c3⟩:=hc
   simp (disch:=omega) only [go_sem,Int.reduceToNat,c1]
   try rfl
 ·rw [if_pos hg,D_f hg];rfl
theorem qbL (r:z6) (no:Int) (key:BB):qaA (r,no,key,())=some (qQ r no key):=by
 unfold qaA qQ
 dsimp only
 by_cases hg:yY (no,key,())
 ·rw [if_neg (not_not_intro hg)]
  obtain ⟨h1,h2,h3⟩:=hg
  dsimp only at h1 h2 h3
  refine (qF (a:=(false,())) (by simp only [go_sem,Int.reduceToNat];try exact y2 (by omega))).trans ?_
  refine (qB rfl).trans ?_
  rw [qbM]
  refine (qF rfl).trans ?_
  by_cases hc:r=noR∨no≤r.1.1∨no < r.2.2.1.1
  ·rw [if_pos hc]
   refine (qF (a:=(true,())) ?_).trans rfl
   simp only [go_sem,Int.reduceToNat]
   try exact qbV (by rcases hc with h | h | h <;> simp [h])
  ·rw [if_neg hc]
   simp only [not_or] at hc
   obtain ⟨c1,c2,c3⟩:=hc
   refine (qF (a:=(false,())) (by simp only [go_sem,Int.reduceToNat,c1];try exact y2 (by omega))).trans ?_
   refine (qB rfl).trans ?_
   by_cases ht:r.2.2.2.2.1 < no
   ·rw [Int.max_eq_right (by omega)];simp (disch:=omega) only [go_sem,Int.reduceToNat]
   ·rw [Int.max_eq_left (by omega)];simp (disch:=omega) only [go_sem,Int.reduceToNat]
 ·rw [if_pos hg]
  unfold yY at hg
  dsimp only at hg
  refine (qF (a:=(true,())) (by simp only [go_sem,Int.reduceToNat];try exact qbV (by omega))).trans ?_
  rfl
def qlK (r:z6):z6:=(r.1,r.2.1,noG,r.2.2.2)
theorem qnQ (r:z6):qbY (r,())=some (qlK r,()):=rfl
theorem qmL (r:z6):qaW (r,())=some (qlK r,()):=rfl
def qbI (r:z6):z6×Int×Unit:=if r.2.2.1=noG then (r,9,()) else ((r.2.2.1,r.1,noG,16,r.2.2.2.2),0,())
theorem qxM (r:z6):qiI (r,())=some (qbI r):=by
 unfold qiI qbI
 rw [qd7]
 by_cases h:r.2.2.1=noG
 ·rw [if_pos h,D_t h];rfl
 ·rw [if_neg h,D_f h];rfl
theorem qcV (r:z6) (hr:r.2.2.1=noG∨¬ r.2.2.1.1=0):yQ (r,())=some (qbI r):=by
 unfold yQ qbI
 by_cases h:r.2.2.1=noG
 ·rw [if_pos h]
  have:r.2.2.1.1=0:=by rw [h];rfl
  simp (disch:=omega) only [go_sem,Int.reduceToNat]
 ·rw [if_neg h]
  have:¬ r.2.2.1.1=0:=hr.resolve_left h
  simp (disch:=omega) only [go_sem,Int.reduceToNat]
  rfl
def newR (k:BB):z6×Int×Unit:=if k.length=32 then (((1,k,()),noG,noG,0,1,()),0,()) else (noR,1,())
theorem qxS (k:BB):qnY (k,())=some (newR k):=by
 unfold qnY newR
 by_cases h:k.length=32
 ·rw [if_pos h];simp (disch:=omega) only [go_sem,Int.reduceToNat];rfl
 ·rw [if_neg h];simp (disch:=omega) only [go_sem,Int.reduceToNat];rfl
def y6 (r:z6):Prop:=r=noR∨(yY r.1∧r.2.2.2.2.1≤2147483647∧r.1.1≤r.2.2.2.2.1∧r.2.2.1.1≤r.2.2.2.2.1 ∧
 (r.2.1=noG∧r.2.2.2.1=0∨¬ r.2.1=noG∧yY r.2.1∧r.2.1.1 < r.1.1∧1≤r.2.2.2.1∧r.2.2.2.1≤16)∧(r.2.2.1=noG∨yY r.2.2.1∧r.1.1 < r.2.2.1.1))
theorem qsJ (r:z6):qgF (r,())=some (D (y6 r),()):=by
 unfold qgF y6
 dsimp only
 rw [qbM]
 refine (qF rfl).trans ?_
 by_cases h0:r=noR
 ·rw [D_t h0,D_t (.inl h0)];rfl
 ·rw [D_f h0]
  refine (qB rfl).trans ?_
  rw [qcT]
  refine (qF rfl).trans ?_
  by_cases h1:yY r.1∧r.2.2.2.2.1≤2147483647∧r.1.1≤r.2.2.2.2.1∧r.2.2.1.1≤r.2.2.2.2.1
  ·obtain ⟨a1,a2,a3,a4⟩:=h1
   refine (qF (a:=(false,())) (by simp (disch:=first | assumption | omega | (dsimp only;omega) | decide) only [go_sem,Int.reduceToNat,a1];try exact y2 (by omega))).trans ?_
   refine (qB rfl).trans ?_
   rw [qcU,qcT,qcU,qcT]
   refine (qF rfl).trans ?_
   refine (qF rfl).trans ?_
   refine (qF rfl).trans ?_
   refine (qF rfl).trans ?_
   dsimp only
   by_cases h2:r.2.1=noG
   ·by_cases h3:r.2.2.2.1=0
    ·simp (disch:=first | assumption | omega | (dsimp only;omega) | decide) only [go_sem,Int.reduceToNat,h2,h3,a1,a2,a3,a4,h0]
    ·have:¬ (r=noR∨(yY r.1∧r.2.2.2.2.1≤2147483647∧r.1.1≤r.2.2.2.2.1∧r.2.2.1.1≤r.2.2.2.2.1∧(r.2.1=noG∧r.2.2.2.1=0∨¬ r.2.1=noG∧yY r.2.1∧r.2.1.1 < r.1.1∧1≤r.2.2.2.1∧r.2.2.2.1≤16)∧(r.2.2.1=noG∨yY r.2.2.1∧r.1.1 < r.2.2.1.1))):=by
      rintro (h | ⟨_,_,_,_,h | h,_⟩)
      ·exact h0 h
      ·exact h3 h.2
      ·exact h.1 h2
     rw [D_f this]
     simp (disch:=first | assumption | omega | (dsimp only;omega) | decide) only [go_sem,Int.reduceToNat,h2,h3]
   ·by_cases h3:yY r.2.1∧r.2.1.1 < r.1.1∧1≤r.2.2.2.1∧r.2.2.2.1≤16
    ·obtain ⟨b1,b2,b3,b4⟩:=h3
     simp (disch:=omega) only [go_sem,Int.reduceToNat,h2,b1,b2,b3,b4,a1,a2,a3,a4,h0]
    ·have:¬ (r=noR∨(yY r.1∧r.2.2.2.2.1≤2147483647∧r.1.1≤r.2.2.2.2.1∧r.2.2.1.1≤r.2.2.2.2.1∧(r.2.1=noG∧r.2.2.2.1=0∨¬ r.2.1=noG∧yY r.2.1∧r.2.1.1 < r.1.1∧1≤r.2.2.2.1∧r.2.2.2.1≤16)∧(r.2.2.1=noG∨yY r.2.2.1∧r.1.1 < r.2.2.1.1))):=by
      rintro (h | ⟨_,_,_,_,h | h,_⟩)
      ·exact h0 h
      ·exact h2 h.1
      ·exact h3 h.2
     rw [D_f this]
     by_cases c1:yY r.2.1
     ·have c2:¬ (r.2.1.1 < r.1.1∧1≤r.2.2.2.1∧r.2.2.2.1≤16):=fun h=>h3 ⟨c1,h⟩
      refine (qF (a:=(true,())) (by simp (disch:=omega) only [go_sem,Int.reduceToNat,h2,c1];try exact qbV (by omega))).trans ?_
      rfl
     ·simp (disch:=omega) only [go_sem,Int.reduceToNat,h2,c1]
  ·have:¬ (r=noR∨(yY r.1∧r.2.2.2.2.1≤2147483647∧r.1.1≤r.2.2.2.2.1∧r.2.2.1.1≤r.2.2.2.2.1∧(r.2.1=noG∧r.2.2.2.1=0∨¬ r.2.1=noG∧yY r.2.1∧r.2.1.1 < r.1.1∧1≤r.2.2.2.1∧r.2.2.2.1≤16)∧(r.2.2.1=noG∨yY r.2.2.1∧r.1.1 < r.2.2.1.1))):=by
    rintro (h | ⟨b1,b2,b3,b4,_⟩)
    ·exact h0 h
    ·exact h1 ⟨b1,b2,b3,b4⟩
   rw [D_f this]
   by_cases c1:yY r.1
   ·have c2:¬ (r.2.2.2.2.1≤2147483647∧r.1.1≤r.2.2.2.2.1∧r.2.2.1.1≤r.2.2.2.2.1):=fun h=>h1 ⟨c1,h⟩
    refine (qF (a:=(true,())) (by simp (disch:=omega) only [go_sem,Int.reduceToNat,c1];try exact qbV (by omega))).trans ?_
    rfl
   ·simp (disch:=omega) only [go_sem,Int.reduceToNat,c1]
theorem qiU (r:z6):w9 (r,r,())=some (true,()):=by
 unfold w9 y8
 simp only [go_sem,Int.reduceToNat,qT]
def fewR (r:z6):Prop:=r.1.2.1.length≤100∧r.2.1.2.1.length≤100∧r.2.2.1.2.1.length≤100
theorem qxT (r:z6):qnZ (r,())=some (D (fewR r),()):=by
 unfold qnZ fewR
 simp only [go_sem,Int.reduceToNat]
 exact zL (by omega)
def qvW (r:z6) (no:Int):BB×Bool×Unit :=
 if no < 1 then ([],false,()) else if r.1.1=no then (r.1.2.1,true,()) else if r.2.1.1=no then (r.2.1.2.1,true,()) else if r.2.2.1.1=no then (r.2.2.1.2.1,true,()) else ([],false,())
theorem qiV (r:z6) (no:Int):qe9 (r,no,())=some (qvW r no):=by
 unfold qe9 qvW
 by_cases h0:no < 1
 ·rw [if_pos h0];simp (disch:=omega) only [go_sem,Int.reduceToNat]
 rw [if_neg h0]
 by_cases h1:r.1.1=no
 ·rw [if_pos h1];simp (disch:=omega) only [go_sem,Int.reduceToNat]
 rw [if_neg h1]
 by_cases h2:r.2.1.1=no
 ·rw [if_pos h2];simp (disch:=omega) only [go_sem,Int.reduceToNat]
 rw [if_neg h2]
 by_cases h3:r.2.2.1.1=no
 ·rw [if_pos h3];simp (disch:=omega) only [go_sem,Int.reduceToNat]
 rw [if_neg h3];simp (disch:=omega) only [go_sem,Int.reduceToNat]
end Yp
namespace Yp
open Go
set_option maxRecDepth 100000
set_option maxHeartbeats 2000000
def z8 (n:Int):Prop:=0≤n∧n≤4611686018427387904
instance (n:Int):Decidable (z8 n):=by unfold z8;infer_instance
def e0 (v:TEnv):Int:=nth v.2.2.1 0 0
def e1 (v:TEnv):Int:=nth v.2.2.1 1 0
def qdU (v:TEnv):Prop:=(v.1=1∨v.1=2)∧z8 (e0 v)∧z8 (e1 v)∧z8 v.2.2.2.2.1∧(v.2.1=0∨v.2.1=1)∧(0≤v.2.2.2.1∧v.2.2.2.1≤2147483647)∧1≤v.2.2.2.2.2.1.length∧v.2.2.2.2.2.1.length≤900
theorem qdC (n hi:Int):qcH (n,hi,())=some (D (0≤n∧n≤hi),()):=by
 unfold qcH
 simp only [go_sem,Int.reduceToNat]
theorem wZ (n:Int):yO (n,())=some (D (z8 n),()):=by
 unfold yO z8
 simp only [go_sem,Int.reduceToNat]
theorem ql4 (v:TEnv):qjV (v,())=some (D (qdU v),()):=by
 obtain ⟨k,d,e,g,s,b,t,⟨⟩⟩:=v
 unfold qjV qdU e0 e1
 dsimp only
 by_cases hk:k=1∨k=2
 ·refine (qF (a:=(false,())) (by rcases hk with rfl | rfl <;> rfl)).trans ?_
  refine (qB rfl).trans ((qH rfl).trans ((qH rfl).trans ?_))
  rw [show nat 0=0 from rfl,show nat 1=1 from rfl]
  generalize nth e 0 0=x
  generalize nth e 1 0=y
  generalize hf:(fun (x_1:Bool×Int×Unit)=>(_:Option (LS (Bool×Int×Unit) (Bool×Unit))))=f
  have key:=qb5 (f:=f) [x,y,s] (fun i=>(false,(i:Int),())) 0 ((false,()):Bool×Unit) z8 (fun i h hp => ?_) (fun i h hp => ?_) ?_
  ·rcases key with ⟨h,hl⟩ | ⟨h,hl⟩
   ·refine (zA (show loop f (false,0,())=_ from hl)).trans ?_
    refine (qH g62).trans ?_
    have h1:=h x (by simp)
    have h2:=h y (by simp)
    have h3:=h s (by simp)
    simp only [go_sem,Int.reduceToNat,qdC]
    refine zL ?_
    simp only [hk,h1,h2,h3,true_and]
    omega
   ·refine (zA (show loop f (false,0,())=_ from hl)).trans ?_
    rw [D_f (fun hc=>h fun z hz => ?_)]
    ·rfl
    ·simp only [List.mem_cons,List.not_mem_nil,or_false] at hz
     rcases hz with rfl | rfl | rfl
     ·exact hc.2.1
     ·exact hc.2.2.1
     ·exact hc.2.2.2.1
  ·subst hf
   have h3:i < 3:=h
   have hi':i64 (iadd (i:Int) 1)=((i+1:Nat):Int):=i64n (by show (i:Int)+1=_;omega) (by omega)
   refine (qE (by simp only [go_sem,Int.reduceToNat];omega)).trans ?_
   refine (qH (by simp only [go_sem,Int.reduceToNat];omega)).trans ?_
   dsimp only
   rw [hi',qU,qL h,qdC,D_t (show 0≤[x,y,s][i]∧[x,y,s][i]≤4611686018427387904 from hp)];rfl
  ·subst hf
   have h3:i < 3:=h
   refine (qE (by simp only [go_sem,Int.reduceToNat];omega)).trans ?_
   refine (qH (by simp only [go_sem,Int.reduceToNat];omega)).trans ?_
   dsimp only
   rw [qU,qL h,qdC,D_f (show ¬ (0≤[x,y,s][i]∧[x,y,s][i]≤4611686018427387904) from hp)];rfl
  ·subst hf
   exact qB rfl
 ·rw [D_f (fun h=>hk h.1)]
  simp only [not_or] at hk
  obtain ⟨h1,h2⟩:=hk
  refine (qF (a:=(true,())) (by simp only [go_sem,Int.reduceToNat,h1,h2])).trans ?_
  rfl
theorem qhU (v:TEnv):qcS (v,())=some (D (qdU v),()):=by
 obtain ⟨k,d,e,g,s,b,t,⟨⟩⟩:=v
 unfold qcS qdU e0 e1
 dsimp only
 refine (qH rfl).trans ?_
 rw [wZ]
 refine (qF rfl).trans ?_
 refine (qH rfl).trans ?_
 rw [wZ]
 refine (qF rfl).trans ?_
 rw [wZ]
 refine (qF rfl).trans ?_
 dsimp only
 rw [show nat 0=0 from rfl,show nat 1=1 from rfl]
 by_cases h1:z8 (nth e 0 0)∧z8 (nth e 1 0)∧z8 s
 ·obtain ⟨a1,a2,a3⟩:=h1
  rw [D_t a1,D_t a2,D_t a3]
  by_cases hk:k=1
  ·subst hk
   by_cases hd:d=0
   ·subst hd
    simp only [go_sem,Int.reduceToNat];refine zL ?_;simp only [a1,a2,a3,true_and];omega
   ·by_cases hd':d=1
    ·subst hd'
     simp only [go_sem,Int.reduceToNat];refine zL ?_;simp only [a1,a2,a3,true_and];omega
    ·rw [D_f (p:=_∧_) (fun h=>by have:=h.2.2.2.2.1;omega)];simp (disch:=omega) only [go_sem,Int.reduceToNat]
  ·by_cases hk':k=2
   ·subst hk'
    by_cases hd:d=0
    ·subst hd
     simp only [go_sem,Int.reduceToNat];refine zL ?_;simp only [a1,a2,a3,true_and];omega
    ·by_cases hd':d=1
     ·subst hd'
      simp only [go_sem,Int.reduceToNat];refine zL ?_;simp only [a1,a2,a3,true_and];omega
     ·rw [D_f (p:=_∧_) (fun h=>by have:=h.2.2.2.2.1;omega)];simp (disch:=omega) only [go_sem,Int.reduceToNat]
   ·rw [D_f (p:=_∧_) (fun h=>by have:=h.1;omega)];simp (disch:=omega) only [go_sem,Int.reduceToNat]
 ·rw [D_f (p:=(k=1∨k=2)∧_) (fun h=>h1 ⟨h.2.1,h.2.2.1,h.2.2.2.1⟩)]
  by_cases c1:z8 (nth e 0 0)
  ·by_cases c2:z8 (nth e 1 0)
   ·have c3:¬ z8 s:=fun h=>h1 ⟨c1,c2,h⟩
    rw [D_t c1,D_t c2,D_f c3];rfl
   ·rw [D_t c1,D_f c2];rfl
  ·rw [D_f c1];rfl
def bigN (w:Nat) (n:Int):BB:=ps 256 byt n.toNat w
theorem qR (w:Nat) (n:Int):(bigN w n).length=w:=zM _ _ _ _
def qZ (v:TEnv):BB:=bigN 1 v.1++bigN 1 v.2.1++bigN 8 (e0 v)++bigN 8 (e1 v)++bigN 4 v.2.2.2.1++bigN 8 v.2.2.2.2.1++v.2.2.2.2.2.1
theorem j8 (v:TEnv):(qZ v).length=30+v.2.2.2.2.2.1.length:=by unfold qZ;simp only [List.length_append,qR]
theorem qNH {n:Int} {w:Nat} (h1:1≤w) (h8:w≤8) (h0:0≤n) (h:n < 256 ^ w) (hn:n≤9223372036854775807):qaO (n,(w:Int),())=some (bigN w n,0,()):=by
 rw [qrE _ _ hn,if_pos ⟨by omega,by omega,h0,by rw [Int.toNat_natCast];exact h⟩,Int.toNat_natCast];rfl
theorem qfI {n:Int} {w:Nat} (h1:1≤w) (h8:w≤8) (h0:0≤n) (h:n < 256 ^ w) (hn:n≤9223372036854775807):jS (n,(w:Int),())=some (bigN w n,()):=by
 unfold jS
 dsimp only
 rw [qeB _ _ hn,if_pos ⟨by omega,by omega,h0,by rw [Int.toNat_natCast];exact h⟩,Int.toNat_natCast];rfl
theorem qs9 {f:Int×BB×Unit→Option (LS (Int×BB×Unit) Unit)} (w:Nat) (l:List Int) (acc:BB) (h1:1≤w) (h8:w≤8) (hl:l.length≤10) (ha:acc.length≤1000) (h:∀ n∈l,0≤n∧n < 256 ^ w∧n≤9223372036854775807)
  (hf:f=fun (x_1:Int×BB×Unit)=>sel (lt x_1.1 (len l)) (ck (inB x_1.1 (len l)) (ob (qaO (nth l (nat x_1.1) 0,(w:Int),())) fun (a:BB×Int×Unit)=>ck (rm 1 (nadd (ln x_1.2.1) (ln a.1))) (some (LS.nx (i64 (iadd x_1.1 1),app x_1.2.1 a.1,()))))) (some (LS.ex 0 (x_1.1,x_1.2.1,())))) :
  loop f (0,acc,())=some (.ex 0 ((l.length:Int),acc++l.flatMap (bigN w),())):=by
 have hL:∀ i,((l.take i).flatMap (bigN w)).length≤8*i:=by
  intro i
  rw [List.length_flatMap]
  have:((l.take i).map fun a=>(bigN w a).length)=(l.take i).map fun _=>w:=List.map_congr_left fun a _=>qR w a
  rw [this,List.map_const',List.sum_replicate_nat,List.length_take]
  have:min i l.length*w≤i*8:=Nat.mul_le_mul (Nat.min_le_left _ _) h8
  omega
 have step:∀ i:Nat,i < l.length→f ((i:Int),acc++(l.take i).flatMap (bigN w),())=some (.nx (((i+1:Nat):Int),acc++(l.take (i+1)).flatMap (bigN w),())):=by
  intro i hi
  subst hf
  have hi':i64 (iadd (i:Int) 1)=((i+1:Nat):Int):=i64n (by show (i:Int)+1=_;omega) (by omega)
  obtain ⟨q1,q2,q3⟩:=h l[i] (List.getElem_mem hi)
  have hLi:=hL i
  refine (qE (by simp only [go_sem,Int.reduceToNat];omega)).trans ?_
  refine (qH (by simp only [go_sem,Int.reduceToNat];omega)).trans ?_
  dsimp only
  rw [hi',qU,qL hi,qNH h1 h8 q1 q2 q3]
  refine (qF rfl).trans ?_
  have hb:=qR w l[i]
  refine (qH (by simp only [go_sem,Int.reduceToNat];simp only [List.length_append,qR];omega)).trans ?_
  rw [List.take_succ_eq_append_getElem hi,List.flatMap_append,List.flatMap_cons,List.flatMap_nil,List.append_nil]
  unfold app
  rw [List.append_assoc]
 have hend:∀ u,f ((l.length:Int),u,())=some (.ex 0 ((l.length:Int),u,())):=by subst hf;intro u;exact qB (by simp only [go_sem,Int.reduceToNat];omega)
 have:=(qN (f:=f) (fun i=>((i:Int),acc++(l.take i).flatMap (bigN w),())) l.length step 0 (Nat.zero_le _)).trans (qV (hend _))
 rw [List.take_of_length_le (Nat.le_refl _),List.take_zero,List.flatMap_nil,List.append_nil] at this
 exact this
theorem ql5 (v:TEnv) (hv:qdU v):qjW (v,())=some (qZ v,0,()):=by
 unfold qjW
 dsimp only
 rw [ql4,D_t hv]
 refine (qF rfl).trans ?_
 refine (qB rfl).trans ?_
 obtain ⟨k,d,e,g,s,b,t,⟨⟩⟩:=v
 unfold qZ
 obtain ⟨h1,h2,h3,h4,h5,h6,h7,h8⟩:=hv
 unfold e0 z8 at h2
 unfold e1 z8 at h3
 unfold z8 at h4
 unfold e0 e1
 dsimp only at *
 rw [show nat 0=0 from rfl,show nat 1=1 from rfl]
 generalize nth e 0 0=x at h2
 generalize nth e 1 0=y at h3
 refine (zA (qs9 1 [k,d] [] (by omega) (by omega) (by simp) (by simp) (fun n hn => ?_) rfl)).trans ?_
 ·simp only [List.mem_cons,List.not_mem_nil,or_false] at hn
  rcases hn with rfl | rfl <;> omega
 refine (qH g62).trans ((qH rfl).trans ((qH rfl).trans ?_))
 refine (zA (qs9 8 [x,y] _ (by omega) (by omega) (by simp) (by simp [qR]) (fun n hn => ?_) rfl)).trans ?_
 ·simp only [List.mem_cons,List.not_mem_nil,or_false] at hn
  rcases hn with rfl | rfl <;> omega
 refine (qH g62).trans ?_
 refine (zA (qs9 4 [g] _ (by omega) (by omega) (by simp) (by simp [qR]) (fun n hn => ?_) rfl)).trans ?_
 ·simp only [List.mem_cons,List.not_mem_nil,or_false] at hn
  subst hn;omega
 refine (qH g62).trans ?_
 refine (zA (qs9 8 [s] _ (by omega) (by omega) (by simp) (by simp [qR]) (fun n hn => ?_) rfl)).trans ?_
 ·simp only [List.mem_cons,List.not_mem_nil,or_false] at hn
  subst hn;omega
 refine (qH g62).trans ?_
 dsimp only
 refine (qH (by simp only [go_sem,Int.reduceToNat];simp [qR];omega)).trans ?_
 unfold app
 simp only [List.flatMap_cons,List.flatMap_nil,List.append_nil,List.nil_append,List.append_assoc]
theorem qbK (v:TEnv) (hv:qdU v):yF (v,())=some (qZ v,0,()):=by
 unfold yF
 dsimp only
 rw [qhU,D_t hv]
 refine (qF rfl).trans ?_
 refine (qB rfl).trans ?_
 obtain ⟨k,d,e,g,s,b,t,⟨⟩⟩:=v
 unfold qZ
 obtain ⟨h1,h2,h3,h4,h5,h6,h7,h8⟩:=hv
 unfold e0 z8 at h2
 unfold e1 z8 at h3
 unfold z8 at h4
 unfold e0 e1
 dsimp only at *
 rw [show nat 0=0 from rfl,show nat 1=1 from rfl]
 generalize nth e 0 0=x at h2
 generalize nth e 1 0=y at h3
 rw [show jS (k,1,())=_ from qfI (w:=1) (by omega) (by omega) (by omega) (by omega) (by omega)]
 refine (qF rfl).trans ?_
 rw [show jS (d,1,())=_ from qfI (w:=1) (by omega) (by omega) (by omega) (by omega) (by omega)]
 refine (qF rfl).trans ?_
 have l1:=qR 1 k
 have l2:=qR 1 d
 refine (qH (by simp only [go_sem,Int.reduceToNat];omega)).trans ?_
 refine (qH rfl).trans ?_
 rw [show jS (x,8,())=_ from qfI (w:=8) (by omega) (by omega) (by omega) (by omega) (by omega)]
 refine (qF rfl).trans ?_
 refine (qH (by simp only [go_sem,Int.reduceToNat];simp [qR])).trans ?_
 refine (qH rfl).trans ?_
 rw [show jS (y,8,())=_ from qfI (w:=8) (by omega) (by omega) (by omega) (by omega) (by omega)]
 refine (qF rfl).trans ?_
 refine (qH (by simp only [go_sem,Int.reduceToNat];simp [qR])).trans ?_
 rw [show jS (g,4,())=_ from qfI (w:=4) (by omega) (by omega) (by omega) (by omega) (by omega)]
 refine (qF rfl).trans ?_
 refine (qH (by simp only [go_sem,Int.reduceToNat];simp [qR])).trans ?_
 rw [show jS (s,8,())=_ from qfI (w:=8) (by omega) (by omega) (by omega) (by omega) (by omega)]
 refine (qF rfl).trans ?_
 refine (qH (by simp only [go_sem,Int.reduceToNat];simp [qR])).trans ?_
 refine (qH (by simp only [go_sem,Int.reduceToNat];simp [qR];omega)).trans ?_
 rfl
def qlT (v:TEnv):Prop:=qdU v∧v.2.2.2.2.2.2.1.length=16
def yA (v:TEnv) (t:BB):TEnv:=(v.1,v.2.1,v.2.2.1,v.2.2.2.1,v.2.2.2.2.1,v.2.2.2.2.2.1,t,())
theorem qyB (v:TEnv):qoS (v,())=some (D (qlT v),()):=by
 unfold qoS qlT
 rw [ql4]
 simp only [go_sem,Int.reduceToNat]
 exact zL (and_congr_right fun _=>by omega)
theorem qhV (v:TEnv):w8 (v,())=some (D (qlT v),()):=by
 unfold w8 qlT
 rw [qhU]
 simp only [go_sem,Int.reduceToNat]
 exact zL (and_congr_right fun _=>by omega)
theorem qyA (v:TEnv) (hv:qlT v):qoR (v,())=some (qZ v++v.2.2.2.2.2.2.1,0,()):=by
 unfold qoR
 dsimp only
 rw [qyB,D_t hv]
 refine (qF rfl).trans ?_
 refine (qB rfl).trans ?_
 rw [ql5 _ hv.1]
 refine (qF rfl).trans ?_
 have h1:=j8 v
 have h2:=hv.2
 have h3:=hv.1.2.2.2.2.2.2.2
 refine (qH (by simp only [go_sem,Int.reduceToNat];omega)).trans ?_
 rfl
theorem qsI (v:TEnv) (hv:qlT v):qgE (v,())=some (qZ v++v.2.2.2.2.2.2.1,0,()):=by
 unfold qgE
 dsimp only
 rw [qhV,D_t hv]
 refine (qF rfl).trans ?_
 refine (qB rfl).trans ?_
 rw [qbK _ hv.1]
 refine (qF rfl).trans ?_
 have h1:=j8 v
 have h2:=hv.2
 have h3:=hv.1.2.2.2.2.2.2.2
 refine (qH (by simp only [go_sem,Int.reduceToNat];omega)).trans ?_
 rfl
end Yp
namespace Yp
open Go
set_option maxRecDepth 100000
set_option maxHeartbeats 2000000
abbrev WT:=Int×List UInt64×Unit
abbrev qPS:=Int×BB×Unit
abbrev EvT:=Int×List Int×Int×BB×Unit
structure En' where
 id:Int
 key:BB
 ph:Int
 store:ST
 power:Int
 own:Int
 oth:Int
 seen:Int
 seq:Int
 win:WT
 ring:z6
 ask:TAsk
 stan:Int
 day:Int
 queue:List BB
 hub:THub
 out:List qPS
 got:List EvT
 cnt:List Int
def En'.t (e:En'):TEnd:=(e.id,e.key,e.ph,e.store,e.power,e.own,e.oth,e.seen,e.seq,e.win,e.ring,e.ask,e.stan,e.day,e.queue,e.hub,e.out,e.got,e.cnt,())
structure Si where
 e:En'
 p:qbH
def Si.t (s:Si):vY:=(s.e.t,s.p,())
def toEn (x:TEnd):En':=⟨x.1,x.2.1,x.2.2.1,x.2.2.2.1,x.2.2.2.2.1,x.2.2.2.2.2.1,x.2.2.2.2.2.2.1,x.2.2.2.2.2.2.2.1,x.2.2.2.2.2.2.2.2.1,x.2.2.2.2.2.2.2.2.2.1,x.2.2.2.2.2.2.2.2.2.2.1,x.2.2.2.2.2.2.2.2.2.2.2.1,x.2.2.2.2.2.2.2.2.2.2.2.2.1,
 x.2.2.2.2.2.2.2.2.2.2.2.2.2.1,x.2.2.2.2.2.2.2.2.2.2.2.2.2.2.1,x.2.2.2.2.2.2.2.2.2.2.2.2.2.2.2.1,x.2.2.2.2.2.2.2.2.2.2.2.2.2.2.2.2.1,x.2.2.2.2.2.2.2.2.2.2.2.2.2.2.2.2.2.1,x.2.2.2.2.2.2.2.2.2.2.2.2.2.2.2.2.2.2.1⟩
theorem qQh (x:vY):∃ s:Si,x=s.t:=⟨⟨toEn x.1,x.2.1⟩,rfl⟩
def noW:WT:=(0,[u64 0,u64 0,u64 0,u64 0,u64 0,u64 0,u64 0,u64 0,u64 0,u64 0,u64 0,u64 0,u64 0,u64 0,u64 0,u64 0],())
structure okE (n:Nat) (e:En'):Prop where
 id:e.id=0∨e.id=1
 key:e.key.length≤1000
 ph:0≤e.ph∧e.ph≤8
 store:qIB e.store
 own:z8 e.own
 oth:z8 e.oth
 seq:z8 e.seq
 ring:y6 e.ring
 up:e.hub.1.length=4
 next:0≤e.hub.2.2.2.1∧e.hub.2.2.2.1 < 4
 out:e.out.length≤n
 got:e.got.length≤n
 cnt:e.cnt.length=4
 win:e.win.2.1.length=16
 feed:e.hub.2.1.length=4
 life:e.hub.2.2.1.length=4
 queue:e.queue.length≤1000
structure okS (n:Nat) (s:Si):Prop where
 e:okE n s.e
 p:s.p.2.1.length≤n
def wC (e:En'):List Int:=if e.id=0 then [e.own,e.oth] else if e.id=1 then [e.oth,e.own] else [0,0]
theorem qaJ (hi n:Int):x6 (hi,[n],())=some (D (0≤n∧n≤hi),()):=by
 unfold x6
 dsimp only
 by_cases h:0≤n∧n≤hi
 ·rw [D_t h]
  refine (zA (jN (y:=(false,1,())) ?_)).trans ((zA (qV (y:=(false,1,())) (k:=0) rfl)).trans rfl)
  refine (qE rfl).trans ((qH rfl).trans ?_)
  dsimp only
  rw [show nth [n] (nat 0) 0=n from rfl]
  simp (disch:=omega) only [go_sem,Int.reduceToNat]
  rfl
 ·rw [D_f h]
  refine (zA (qeF (r:=(false,())) ?_)).trans rfl
  refine (qE rfl).trans ((qH rfl).trans ?_)
  dsimp only
  rw [show nth [n] (nat 0) 0=n from rfl]
  refine (qF (a:=(true,())) (by simp only [go_sem,Int.reduceToNat];try exact qbV (by omega))).trans ?_
  rfl
theorem qqD (hi n m:Int):x6 (hi,[n,m],())=some (D ((0≤n∧n≤hi)∧(0≤m∧m≤hi)),()):=by
 unfold x6
 dsimp only
 by_cases h:0≤n∧n≤hi
 ·refine (zA (jN (y:=(false,1,())) ?_)).trans ?_
  ·refine (qE rfl).trans ((qH rfl).trans ?_)
   dsimp only
   rw [show nth [n,m] (nat 0) 0=n from rfl]
   simp (disch:=omega) only [go_sem,Int.reduceToNat]
   rfl
  ·by_cases h':0≤m∧m≤hi
   ·rw [D_t ⟨h,h'⟩]
    refine (zA (jN (y:=(false,2,())) ?_)).trans ((zA (qV (y:=(false,2,())) (k:=0) rfl)).trans rfl)
    refine (qE rfl).trans ((qH rfl).trans ?_)
    dsimp only
    rw [show nth [n,m] (nat 1) 0=m from rfl]
    simp (disch:=omega) only [go_sem,Int.reduceToNat]
    rfl
   ·rw [D_f (fun x=>h' x.2)]
    refine (zA (qeF (r:=(false,())) ?_)).trans rfl
    refine (qE rfl).trans ((qH rfl).trans ?_)
    dsimp only
    rw [show nth [n,m] (nat 1) 0=m from rfl]
    refine (qF (a:=(true,())) (by simp only [go_sem,Int.reduceToNat];try exact qbV (by omega))).trans ?_
    rfl
 ·rw [D_f (fun x=>h x.1)]
  refine (zA (qeF (r:=(false,())) ?_)).trans rfl
  refine (qE rfl).trans ((qH rfl).trans ?_)
  dsimp only
  rw [show nth [n,m] (nat 0) 0=n from rfl]
  refine (qF (a:=(true,())) (by simp only [go_sem,Int.reduceToNat];try exact qbV (by omega))).trans ?_
  rfl
theorem qeH (e:En'):qbA (e.t,())=some (wC e,()):=by
 unfold qbA wC
 dsimp only [En'.t]
 rw [qaJ]
 by_cases h0:e.id=0
 ·rw [h0,D_t (by omega),if_pos rfl];rfl
 ·rw [if_neg h0]
  by_cases h1:e.id=1
  ·rw [h1,D_t (by omega),if_pos rfl];rfl
  ·rw [if_neg h1,D_f (by omega)];rfl
theorem vR (e:En'):jE (e.t,())=some (wC e,()):=by
 unfold jE wC
 dsimp only [En'.t]
 by_cases h0:e.id=0
 ·rw [h0,if_pos rfl];rfl
 ·rw [if_neg h0]
  by_cases h1:e.id=1
  ·rw [h1,if_pos rfl];rfl
  ·rw [if_neg h1];simp (disch:=omega) only [go_sem,Int.reduceToNat]
def qKq (key:BB):BB:=qv0 key [98,97,115,101] []
theorem qrZ (key:BB):(qKq key).length=32:=qeO _ _ _
theorem qx4 (key:BB) (h:key.length≤1000000):qjN (key,())=some (qKq key,()):=by
 unfold qjN
 dsimp only
 rw [qjD _ _ _ h (by decide) (by decide) (by simp [none'])];rfl
theorem qcQ (key:BB) (h:key.length≤1000000):yN (key,())=some (qKq key,()):=by
 unfold yN
 dsimp only
 rw [qfF _ _ _ h (by decide) (by decide) (by simp [none'])];rfl
def keyD (key:BB) (p:List Int) (gen:Int) (nonce:BB):BB :=
 if z8 (nth p 0 0)∧z8 (nth p 1 0)∧0≤gen∧gen≤2147483647 then qv0 key [108,105,110,107] [bigN 8 (nth p 0 0),bigN 8 (nth p 1 0),bigN 4 gen,nonce] else []
theorem jD (n:Int):jP (n,())=some (D (z8 n),()):=by
 unfold jP z8
 simp only [go_sem,Int.reduceToNat]
theorem bigI {n:Int} {w:Int} (hw:w=8∨w=4) (h:0≤n∧n < 256 ^ w.toNat) (hn:n≤9223372036854775807):qaO (n,w,())=some (bigN w.toNat n,0,()):=by
 rw [qrE _ _ hn,if_pos ⟨by omega,by omega,h.1,h.2⟩];rfl
theorem qOM {n:Int} {w:Int} (hw:w=8∨w=4) (h:0≤n∧n < 256 ^ w.toNat) (hn:n≤9223372036854775807):wB (n,w,())=some (bigN w.toNat n,0,()):=by
 rw [qeB _ _ hn,if_pos ⟨by omega,by omega,h.1,h.2⟩];rfl
theorem qEq {a b:BB} {c nonce:BB} (ha:a.length=8) (hb:b.length=8) (hc:c.length=4) (hn:nonce.length≤1000):∀ p∈[a,b,c,nonce],p.length≤1000:=by
 intro p hp
 simp only [List.mem_cons,List.not_mem_nil,or_false] at hp
 rcases hp with rfl | rfl | rfl | rfl <;> omega
theorem p8 {n:Int} (h:z8 n):0≤n∧n < 256 ^ (8:Int).toNat:=⟨h.1,by have:=h.2;show n < 256 ^ 8;omega⟩
theorem qBj (key:BB) (p:List Int) (gen:Int) (nonce:BB) (hk:key.length≤1000000) (hn:nonce.length≤1000):qoF (key,p,gen,nonce,())=some (keyD key p gen nonce,()):=by
 unfold qoF keyD
 refine (qH rfl).trans ((qH rfl).trans ?_)
 dsimp only
 rw [show nat 0=0 from rfl,show nat 1=1 from rfl]
 generalize nth p 0 0=x
 generalize nth p 1 0=y
 rw [qqD]
 by_cases h:z8 x∧z8 y
 ·rw [D_t (show (0≤x∧x≤4611686018427387904)∧(0≤y∧y≤4611686018427387904) from h)]
  refine (qF rfl).trans ((qB rfl).trans ?_)
  rw [qaJ]
  by_cases hg:0≤gen∧gen≤2147483647
  ·rw [D_t hg,if_pos ⟨h.1,h.2,hg⟩]
   refine (qF rfl).trans ((qB rfl).trans ((qH rfl).trans ?_))
   rw [bigI (.inl rfl) (p8 h.1) (by have:=h.1.2;omega)]
   refine (qF rfl).trans ((qH rfl).trans ?_)
   rw [bigI (.inl rfl) (p8 h.2) (by have:=h.2.2;omega)]
   refine (qF rfl).trans ?_
   rw [bigI (.inr rfl) ⟨hg.1,by show gen < 256 ^ 4;omega⟩ (by omega)]
   refine (qF rfl).trans ?_
   dsimp only
   rw [show (8:Int).toNat=8 from rfl,show (4:Int).toNat=4 from rfl,qjD key [108,105,110,107] _ hk (by simp) (by simp) (qEq (qR _ _) (qR _ _) (qR _ _) hn)];rfl
  ·rw [D_f hg,if_neg (fun h=>hg h.2.2)];rfl
 ·rw [D_f (show ¬ ((0≤x∧x≤4611686018427387904)∧(0≤y∧y≤4611686018427387904)) from h),if_neg (fun h'=>h ⟨h'.1,h'.2.1⟩)];rfl
theorem qd8 (key:BB) (p:List Int) (gen:Int) (nonce:BB) (hk:key.length≤1000000) (hn:nonce.length≤1000):qa5 (key,p,gen,nonce,())=some (keyD key p gen nonce,()):=by
 unfold qa5 keyD
 refine (qH rfl).trans ?_
 dsimp only
 rw [show nat 0=0 from rfl,show nat 1=1 from rfl]
 generalize nth p 0 0=x
 generalize nth p 1 0=y
 rw [jD]
 refine (qF rfl).trans ((qH rfl).trans ?_)
 rw [jD]
 refine (qF rfl).trans ?_
 by_cases h:z8 x∧z8 y∧0≤gen∧gen≤2147483647
 ·obtain ⟨h1,h2,h3,h4⟩:=h
  rw [if_pos ⟨h1,h2,h3,h4⟩]
  refine (qF (a:=(false,())) (by rw [D_t h1,D_t h2];simp only [go_sem,Int.reduceToNat];try exact y2 (by omega))).trans ?_
  refine (qB rfl).trans ((qH rfl).trans ?_)
  rw [qOM (.inl rfl) (p8 h1) (by have:=h1.2;omega)]
  refine (qF rfl).trans ((qH rfl).trans ?_)
  rw [qOM (.inl rfl) (p8 h2) (by have:=h2.2;omega)]
  refine (qF rfl).trans ?_
  rw [qOM (.inr rfl) ⟨h3,by show gen < 256 ^ 4;omega⟩ (by omega)]
  refine (qF rfl).trans ?_
  dsimp only
  rw [show (8:Int).toNat=8 from rfl,show (4:Int).toNat=4 from rfl,qfF key [108,105,110,107] _ hk (by simp) (by simp) (qEq (qR _ _) (qR _ _) (qR _ _) hn)];rfl
 ·rw [if_neg h]
  refine (qF (a:=(true,())) ?_).trans rfl
  by_cases h1:z8 x
  ·by_cases h2:z8 y
   ·rw [D_t h1,D_t h2]
    have h3:¬ (0≤gen∧gen≤2147483647):=fun h3=>h ⟨h1,h2,h3⟩
    simp only [go_sem,Int.reduceToNat];try exact qbV (by omega)
   ·rw [D_t h1,D_f h2];rfl
  ·rw [D_f h1];rfl
theorem qg1 {key:BB} {p:List Int} {gen:Int} {nonce:BB} (h:z8 (nth p 0 0)∧z8 (nth p 1 0)∧0≤gen∧gen≤2147483647):(keyD key p gen nonce).length=32:=by
 unfold keyD;rw [if_pos h,qeO]
theorem qJ8 (l:List qPS):zW (l,())=some (l,()):=by
 unfold zW
 dsimp only
 rw [qKI]
 exact qH (qMp l)
end Yp
namespace Yp
open Go
set_option maxRecDepth 100000
set_option maxHeartbeats 2000000
theorem bq_f {a b:Int} (h:a=b):bnot (beq a b)=false:=by rw [xH h];rfl
theorem bq_t {a b:Int} (h:¬ a=b):bnot (beq a b)=true:=by rw [vM h];rfl
theorem qkK {r:z6} (h:y6 r):0≤r.1.1∧r.1.1≤2147483647∧r.1.2.1.length≤32:=by
 rcases h with rfl | ⟨⟨h1,h2,h3⟩,_⟩
 ·exact ⟨by decide,by decide,by decide⟩
 ·omega
def qhB (s:Si) (v:TEnv) (key:BB):Si×Int :=
 if (v5 s.e.hub).2.2.1=0 then
  (⟨{ s.e with hub:=(v5 s.e.hub).1,out:=s.e.out++[((v5 s.e.hub).2.1,kF (qZ v++kB key (qZ v)),())] },ptag s.p key (qZ v)⟩,0)
 else (s,(v5 s.e.hub).2.2.1)
theorem ql2 {s:Si} {n:Nat} (hs:okS n s) (hn:n≤900000) (v:TEnv) (hv:qdU v) (key:BB) (hk:key.length≤1000000):qjM (s.t,v,key,())=some ((qhB s v key).1.t,(qhB s v key).2,()):=by
 unfold qjM qhB
 dsimp only [Si.t,En'.t]
 have hp:=hs.p
 have ho:=hs.e.out
 rw [qBs _ hs.e.up hs.e.next]
 refine (qF rfl).trans ?_
 by_cases hh:(v5 s.e.hub).2.2.1=0
 ·rw [if_pos hh]
  refine (qB (by simp only [go_sem,Int.reduceToNat];exact not_not_intro hh)).trans ?_
  rw [ql5 _ hv]
  refine (qF rfl).trans ?_
  have hb:=hv.2.2.2.2.2.2
  have hl:=j8 v
  dsimp only
  rw [qA5 _ _ _ (by omega) hk (by omega)]
  refine (qF rfl).trans ?_
  dsimp only
  have ht:=qbZ key (qZ v)
  rw [qyA (v.1,v.2.1,v.2.2.1,v.2.2.2.1,v.2.2.2.2.1,v.2.2.2.2.2.1,kB key (qZ v),v.2.2.2.2.2.2.2) ⟨hv,ht⟩]
  refine (qF rfl).trans ?_
  dsimp only
  rw [show qZ (v.1,v.2.1,v.2.2.1,v.2.2.2.1,v.2.2.2.2.1,v.2.2.2.2.2.1,kB key (qZ v),v.2.2.2.2.2.2.2)=qZ v from rfl,qvS _ (by rw [List.length_append];omega)]
  refine (qF rfl).trans ?_
  rw [qJ8]
  refine (qF rfl).trans ?_
  refine (qH (by simp only [go_sem,Int.reduceToNat];simp;omega)).trans ?_
  rfl
 ·rw [if_neg hh]
  refine (qE (by simp only [go_sem,Int.reduceToNat];exact hh)).trans ?_
  rfl
theorem qiM {s:Si} {n:Nat} (hs:okS n s) (hn:n≤900000) (v:TEnv) (hv:qdU v) (key:BB) (hk:key.length≤1000000):qcC (s.t,v,key,())=some ((qhB s v key).1.t,(qhB s v key).2,()):=by
 unfold qcC qhB
 dsimp only [Si.t,En'.t]
 have hp:=hs.p
 have ho:=hs.e.out
 rw [quO _ hs.e.up hs.e.next]
 refine (qF rfl).trans ?_
 by_cases hh:(v5 s.e.hub).2.2.1=0
 ·rw [if_pos hh]
  refine (qB (by simp only [go_sem,Int.reduceToNat];exact not_not_intro hh)).trans ?_
  rw [qbK _ hv]
  refine (qF rfl).trans ?_
  have hb:=hv.2.2.2.2.2.2
  have hl:=j8 v
  dsimp only
  rw [qxV _ _ _ (by omega) hk (by omega)]
  refine (qF rfl).trans ?_
  dsimp only
  have ht:=qbZ key (qZ v)
  rw [qsI (v.1,v.2.1,v.2.2.1,v.2.2.2.1,v.2.2.2.2.1,v.2.2.2.2.2.1,kB key (qZ v),v.2.2.2.2.2.2.2) ⟨hv,ht⟩]
  refine (qF rfl).trans ?_
  dsimp only
  rw [show qZ (v.1,v.2.1,v.2.2.1,v.2.2.2.1,v.2.2.2.2.1,v.2.2.2.2.2.1,kB key (qZ v),v.2.2.2.2.2.2.2)=qZ v from rfl,quQ _ (by rw [List.length_append];omega)]
  refine (qF rfl).trans ?_
  refine (qH (by simp only [go_sem,Int.reduceToNat];omega)).trans ?_
  refine (qH (by simp only [go_sem,Int.reduceToNat];simp;omega)).trans ?_
  rfl
 ·rw [if_neg hh]
  refine (qE (by simp only [go_sem,Int.reduceToNat];exact hh)).trans ?_
  rfl
def jQ (e:En') (body:BB):TEnv:=(2,e.id,wC e,e.ring.1.1,e.seq,body,[],())
def setV (e:En') (other:Int) (body:BB):TEnv:=(1,e.id,wC { e with oth:=other },0,0,body,[],())
def qeL (b:BB):Prop:=1≤b.length∧b.length≤900
instance (b:BB):Decidable (qeL b):=by unfold qeL;infer_instance
theorem qs6 {e:En'} (h1:z8 e.own) (h2:z8 e.oth):z8 (nth (wC e) 0 0)∧z8 (nth (wC e) 1 0):=by
 unfold wC
 split
 ·exact ⟨h1,h2⟩
 split
 ·exact ⟨h2,h1⟩
 ·exact ⟨by decide,by decide⟩
theorem qmF {n:Nat} {e:En'} (h:okE n e) {body:BB} (hb:qeL body):qdU (jQ e body):=by
 have hr:=qkK h.ring
 exact ⟨.inr rfl,(qs6 h.own h.oth).1,(qs6 h.own h.oth).2,h.seq,h.id,⟨hr.1,hr.2.1⟩,hb.1,hb.2⟩
theorem qy6 {n:Nat} {e:En'} (h:okE n e) {o:Int} (ho:z8 o) {body:BB} (hb:qeL body):qdU (setV e o body):=by
 have:=qs6 (e:={ e with oth:=o }) h.own ho
 exact ⟨.inl rfl,this.1,this.2,by show z8 0;decide,h.id,⟨by show (0:Int)≤0;decide,by show (0:Int)≤2147483647;decide⟩,hb.1,hb.2⟩
def qa4 (s:Si) (body:BB):Si×Int :=
 if ¬ qeL body then (s,1) else if ¬ qO s.e.ph then (s,7) else if s.e.seq=4611686018427387904 then (s,10)
 else let r:=qhB s (jQ s.e body) s.e.ring.1.2.1;if r.2=0 then (⟨{ r.1.e with seq:=r.1.e.seq+1 },r.1.p⟩,0) else r
theorem qoT (s:Si) (v:TEnv) (key:BB):(qhB s v key).1.e.seq=s.e.seq:=by unfold qhB;split <;> rfl
theorem qeG (b:BB):qjL (b,())=some (D (qeL b),()):=by
 unfold qjL qeL
 simp only [go_sem,Int.reduceToNat]
 exact zL (by omega)
theorem qCH {s:Si} {r:Si×Int} (hseq:z8 r.1.e.seq) (h10:¬ r.1.e.seq=4611686018427387904) :
    (ob (some (r.1.t,r.2,())) fun (a:vY×Int×Unit) =>
   sel (beq a.2.1 0) (some (((a.1.1.1,a.1.1.2.1,a.1.1.2.2.1,a.1.1.2.2.2.1,a.1.1.2.2.2.2.1,a.1.1.2.2.2.2.2.1,a.1.1.2.2.2.2.2.2.1,a.1.1.2.2.2.2.2.2.2.1,i64 (iadd a.1.1.2.2.2.2.2.2.2.2.1 1),a.1.1.2.2.2.2.2.2.2.2.2),a.1.2),a.2.1,())) (some (a.1,a.2.1,()))) =
      some ((if r.2=0 then (⟨{ r.1.e with seq:=r.1.e.seq+1 },r.1.p⟩,0) else r:Si×Int).1.t,(if r.2=0 then (⟨{ r.1.e with seq:=r.1.e.seq+1 },r.1.p⟩,0) else r:Si×Int).2,()):=by
  obtain ⟨⟨e,p⟩,c⟩:=r
  refine (qF rfl).trans ?_
  by_cases h:c=0
  · subst h
    rw [if_pos rfl]
    refine (qE rfl).trans ?_
    dsimp only [Si.t,En'.t] at hseq ⊢
    obtain ⟨q1,q2⟩:=hseq
    rw [show i64 (iadd e.seq 1)=e.seq+1 from zS (by show -9223372036854775808≤e.seq+1;omega) (by show e.seq+1≤9223372036854775807;omega)]
  · rw [if_neg h]
    refine (qB (by simp only [go_sem,Int.reduceToNat];exact h)).trans ?_
    rfl
theorem ql3 {s:Si} {n:Nat} (hs:okS n s) (hn:n≤900000) (b:BB):vV (s.t,b,())=some ((qa4 s b).1.t,(qa4 s b).2,()):=by
 unfold vV qa4
 dsimp only
 rw [qeG]
 refine (qF rfl).trans ?_
 by_cases hb:qeL b
 ·rw [D_t hb,if_neg (not_not_intro hb)]
  refine (qB rfl).trans ?_
  rw [show s.t.1.2.2.1=s.e.ph from rfl,qp7]
  refine (qF rfl).trans ?_
  by_cases hl:qO s.e.ph
  ·rw [D_t hl,if_neg (not_not_intro hl)]
   refine (qB rfl).trans ?_
   by_cases hq:s.e.seq=4611686018427387904
   ·rw [if_pos hq]
    exact qE (by simp only [go_sem,Int.reduceToNat];exact hq)
   ·rw [if_neg hq]
    refine (qB (by simp only [go_sem,Int.reduceToNat];exact hq)).trans ?_
    rw [show qbA (s.t.1,())=_ from qeH s.e]
    refine (qF rfl).trans ?_
    have hv:=qmF hs.e hb
    have hk:=(qkK hs.e.ring).2.2
    have hem:=ql2 hs hn _ hv s.e.ring.1.2.1 (by omega)
    have h1:=qoT s (jQ s.e b) s.e.ring.1.2.1
    exact Eq.trans (qa8 hem) (qCH (s:=s) (r:=qhB s (jQ s.e b) s.e.ring.1.2.1) (by rw [h1];exact hs.e.seq) (by rw [h1];exact hq))
  ·rw [D_f hl,if_pos hl];rfl
 ·rw [D_f hb,if_pos hb];rfl
theorem qiN {s:Si} {n:Nat} (hs:okS n s) (hn:n≤900000) (b:BB):qe4 (s.t,b,())=some ((qa4 s b).1.t,(qa4 s b).2,()):=by
 unfold qe4 qa4
 dsimp only
 by_cases hb:qeL b
 ·rw [if_neg (not_not_intro hb)]
  have hb1:=hb.1
  have hb2:=hb.2
  refine (qF (a:=(false,())) (by simp only [go_sem,Int.reduceToNat];try exact y2 (by omega))).trans ?_
  refine (qB rfl).trans ?_
  rw [show s.t.1.2.2.1=s.e.ph from rfl,xK]
  refine (qF rfl).trans ?_
  by_cases hl:qO s.e.ph
  ·rw [D_t hl,if_neg (not_not_intro hl)]
   refine (qB rfl).trans ?_
   by_cases hq:s.e.seq=4611686018427387904
   ·rw [if_pos hq]
    exact qE (by simp only [go_sem,Int.reduceToNat];exact hq)
   ·rw [if_neg hq]
    refine (qB (by simp only [go_sem,Int.reduceToNat];exact hq)).trans ?_
    rw [show jE (s.t.1,())=_ from vR s.e]
    refine (qF rfl).trans ?_
    have hv:=qmF hs.e hb
    have hk:=(qkK hs.e.ring).2.2
    have hem:=qiM hs hn _ hv s.e.ring.1.2.1 (by omega)
    have h1:=qoT s (jQ s.e b) s.e.ring.1.2.1
    exact Eq.trans (qa8 hem) (qCH (s:=s) (r:=qhB s (jQ s.e b) s.e.ring.1.2.1) (by rw [h1];exact hs.e.seq) (by rw [h1];exact hq))
  ·rw [D_f hl,if_pos hl];rfl
 ·rw [if_pos hb]
  unfold qeL at hb
  refine (qF (a:=(true,())) (by simp only [go_sem,Int.reduceToNat];try exact qbV (by omega))).trans ?_
  rfl
def qm7 (s:Si) (other:Int) (body:BB):Si×Int:=if z8 other∧qeL body then qhB s (setV s.e other body) (qKq s.e.key) else (s,1)
theorem qvG {s:Si} {n:Nat} (hs:okS n s) (hn:n≤900000) (o:Int) (b:BB):qlB (s.t,o,b,())=some ((qm7 s o b).1.t,(qm7 s o b).2,()):=by
 unfold qlB qm7
 dsimp only
 rw [qaJ]
 refine (qF rfl).trans ?_
 by_cases hb:z8 o∧qeL b
 ·rw [if_pos hb,D_t (show 0≤o∧o≤4611686018427387904 from hb.1)]
  refine (qF (a:=(false,())) ((qB rfl).trans (by rw [qeG,D_t hb.2];rfl))).trans ?_
  refine (qB rfl).trans ?_
  have hp:=qeH { s.e with oth:=o }
  refine (qa8 (show qbA ((s.t.1.1,s.t.1.2.1,s.t.1.2.2.1,s.t.1.2.2.2.1,s.t.1.2.2.2.2.1,s.t.1.2.2.2.2.2.1,o,s.t.1.2.2.2.2.2.2.2),())=_ from hp)).trans ?_
  refine (qF rfl).trans ?_
  have hk:=hs.e.key
  rw [show qjN (s.t.1.2.1,())=_ from qx4 s.e.key (by omega)]
  refine (qF rfl).trans ?_
  have hem:=ql2 hs hn _ (qy6 hs.e hb.1 hb.2) (qKq s.e.key) (by rw [qrZ];omega)
  exact (qa8 hem).trans rfl
 ·rw [if_neg hb]
  refine (qF (a:=(true,())) ?_).trans rfl
  by_cases h1:z8 o
  ·rw [D_t (show 0≤o∧o≤4611686018427387904 from h1)]
   refine (qB rfl).trans ?_
   rw [qeG,D_f (fun h=>hb ⟨h1,h⟩)];rfl
  ·rw [D_f (show ¬ (0≤o∧o≤4611686018427387904) from h1)];rfl
theorem qsD {s:Si} {n:Nat} (hs:okS n s) (hn:n≤900000) (o:Int) (b:BB):qf9 (s.t,o,b,())=some ((qm7 s o b).1.t,(qm7 s o b).2,()):=by
 unfold qf9 qm7
 dsimp only
 rw [jD]
 refine (qF rfl).trans ?_
 have hk:=hs.e.key
 by_cases hb:z8 o∧qeL b
 ·rw [if_pos hb,D_t hb.1]
  have hb1:=hb.2.1
  have hb2:=hb.2.2
  refine (qF (a:=(false,())) (by simp only [go_sem,Int.reduceToNat];try exact y2 (by omega))).trans ?_
  refine (qB rfl).trans ?_
  have hem:=qiM hs hn _ (qy6 hs.e hb.1 hb.2) (qKq s.e.key) (by rw [qrZ];omega)
  rcases hs.e.id with hi | hi
  ·refine (qB (by show beq s.e.id 1=false;rw [hi];rfl)).trans ?_
   rw [show yN (s.t.1.2.1,())=_ from qcQ s.e.key (by omega)]
   refine (qF rfl).trans ?_
   have e:setV s.e o b=(1,s.e.id,[s.e.own,o],0,0,b,[],()):=by unfold setV wC;dsimp only;rw [if_pos hi]
   rw [e] at hem ⊢
   exact (qa8 hem).trans rfl
  ·refine (qE (by show beq s.e.id 1=true;rw [hi];rfl)).trans ?_
   rw [show yN (s.t.1.2.1,())=_ from qcQ s.e.key (by omega)]
   refine (qF rfl).trans ?_
   have e:setV s.e o b=(1,s.e.id,[o,s.e.own],0,0,b,[],()):=by unfold setV wC;dsimp only;rw [if_neg (by omega),if_pos hi]
   rw [e] at hem ⊢
   exact (qa8 hem).trans rfl
 ·rw [if_neg hb]
  refine (qF (a:=(true,())) ?_).trans rfl
  by_cases h1:z8 o
  ·rw [D_t h1]
   have h2:¬ (1≤b.length∧b.length≤900):=fun h=>hb ⟨h1,h⟩
   simp only [go_sem,Int.reduceToNat];try exact qbV (by omega)
  ·rw [D_f h1];rfl
def qPE (c:List Int) (i:Nat):List Int:=upd c i (i64 (iadd (nth c i 0) 1))
def qbF (s:Si) (i:Nat):Si:=⟨{ s.e with cnt:=qPE s.e.cnt i },s.p⟩
theorem qEo (s:Si):yS (s.t,13,())=some ((qbF s 3).t,()):=by
 unfold yS
 exact (zA (qgY 5 rfl)).trans rfl
theorem qA3 (s:Si):xD (s.t,13,())=some ((qbF s 3).t,()):=by
 unfold xD
 exact (zA (qgY 5 rfl)).trans rfl
end Yp
namespace Yp
open Go
set_option maxRecDepth 100000
set_option maxHeartbeats 2000000
theorem qk8 {n m:Nat} {e:En'} (h:okE n e) (hm:n≤m):okE m e:={ h with out:=Nat.le_trans h.out hm,got:=Nat.le_trans h.got hm }
theorem qaY {n m:Nat} {s:Si} (h:okS n s) (hm:n≤m):okS m s:=⟨qk8 h.e hm,Nat.le_trans h.p hm⟩
theorem qA8 (h:THub):(v5 h).1.1=h.1:=by unfold v5;split <;> rfl
theorem qy9 (h:THub):(v5 h).1.2.1=h.2.1:=by unfold v5;split <;> rfl
theorem qJS (h:THub):(v5 h).1.2.2.1=h.2.2.1:=by unfold v5;split <;> rfl
theorem qp6 {h:THub} (hn:0≤h.2.2.2.1∧h.2.2.2.1 < 4):0≤(v5 h).1.2.2.2.1∧(v5 h).1.2.2.2.1 < 4:=by
 unfold v5
 split
 ·exact hn
 ·rename_i c _
  show (0:Int)≤((c+1) % 4:Nat)∧(((c+1) % 4:Nat):Int) < 4
  omega
theorem qIT {n:Nat} {s:Si} (h:okS n s) (v:TEnv) (key:BB):okS (n+1) (qhB s v key).1:=by
 unfold qhB
 split
 ·refine ⟨{ h.e with up:=(by rw [← h.e.up];exact congrArg List.length (qA8 s.e.hub)),next:=qp6 h.e.next,feed:=(by rw [← h.e.feed];exact congrArg List.length (qy9 s.e.hub)),life:=(by rw [← h.e.life];exact congrArg List.length (qJS s.e.hub)),out := ?_,got:=Nat.le_succ_of_le h.e.got }, ?_⟩
  ·have:=h.e.out
   simp only [List.length_append,List.length_cons,List.length_nil];omega
  ·have:=qQr s.p key (qZ v)
   have:=h.p
   show (ptag s.p key (qZ v)).2.1.length≤n+1
   omega
 ·exact qaY h (by omega)
theorem qs7 {n:Nat} {s:Si} (h:okS n s) (b:BB):okS (n+1) (qa4 s b).1:=by
 unfold qa4
 split
 ·exact qaY h (by omega)
 split
 ·exact qaY h (by omega)
 split
 ·exact qaY h (by omega)
 ·rename_i h1 h2 h3
  have h4:=qIT h (jQ s.e b) s.e.ring.1.2.1
  have h5:=qoT s (jQ s.e b) s.e.ring.1.2.1
  dsimp only
  split
  ·refine ⟨{ h4.e with seq := ?_ },h4.p⟩
   have:=h.e.seq
   show z8 (_+1)
   rw [h5]
   unfold z8 at *
   omega
  ·exact h4
theorem qLr {n:Nat} {s:Si} (h:okS n s) (o:Int) (b:BB):okS (n+1) (qm7 s o b).1:=by
 unfold qm7
 split
 ·exact qIT h _ _
 ·exact qaY h (by omega)
theorem qu9 {n:Nat} {s:Si} (h:okS n s) (i:Nat):okS n (qbF s i):=⟨{ h.e with cnt:=by show (qPE s.e.cnt i).length=4;unfold qPE upd;rw [List.length_set];exact h.e.cnt },h.p⟩
def qwY (s:Si) (q:z9):Si:=⟨{ s.e with stan:=vL s.e.stan,ask:=(ql8 q.2.1 (vL s.e.stan) (wrN (q.1,q.2.1,vL s.e.stan,q.2.2.2)).1).1 },s.p⟩
def qhZ (s:Si) (q:z9):Si :=
 if (wrN (q.1,q.2.1,vL s.e.stan,q.2.2.2)).2.1=0∧(ql8 q.2.1 (vL s.e.stan) (wrN (q.1,q.2.1,vL s.e.stan,q.2.2.2)).1).2.1=0 then
  (if q.2.1=1 then (qm7 (qwY s q) 0 (wrN (q.1,q.2.1,vL s.e.stan,q.2.2.2)).1).1 else (qa4 (qwY s q) (wrN (q.1,q.2.1,vL s.e.stan,q.2.2.2)).1).1)
 else s
theorem qk7 {n:Nat} {s:Si} (h:okS n s) (q:z9):okS n (qwY s q):=⟨{ h.e with },h.p⟩
theorem qD8 {n:Nat} {s:Si} (h:okS n s) (q:z9):okS (n+1) (qhZ s q):=by
 unfold qhZ
 split
 ·split
  ·exact qLr (qk7 h q) _ _
  ·exact qs7 (qk7 h q) _
 ·exact qaY h (by omega)
theorem qdL {s:Si} {n:Nat} (hs:okS n s) (hn:n≤900000) (q:z9):y3 (s.t,q,())=some ((qhZ s q).t,()):=by
 unfold y3 qhZ
 dsimp only
 rw [show s.t.1.2.2.2.2.2.2.2.2.2.2.2.2.1=s.e.stan from rfl,qCi]
 refine (qF rfl).trans ?_
 dsimp only
 rw [qi7]
 have hok:=qk7 hs q
 have hset:=qvG hok hn 0 (wrN (q.1,q.2.1,vL s.e.stan,q.2.2.2)).1
 have hsend:=ql3 hok hn (wrN (q.1,q.2.1,vL s.e.stan,q.2.2.2)).1
 unfold qwY at hset hsend ⊢
 generalize wrN (q.1,q.2.1,vL s.e.stan,q.2.2.2)=w at hset hsend ⊢
 obtain ⟨b,we,⟨⟩⟩:=w
 refine (qF rfl).trans ?_
 dsimp only at hset hsend ⊢
 rw [qyT]
 generalize ql8 q.2.1 (vL s.e.stan) b=a at hset hsend ⊢
 obtain ⟨a,ae,⟨⟩⟩:=a
 refine (qF rfl).trans ?_
 dsimp only at hset hsend ⊢
 by_cases h:we=0∧ae=0
 ·obtain ⟨rfl,rfl⟩:=h
  rw [if_pos ⟨rfl,rfl⟩]
  refine (qF (a:=(false,())) rfl).trans ((qB rfl).trans ?_)
  by_cases hc:q.2.1=1
  ·rw [if_pos hc]
   refine (qE (by simp only [go_sem,Int.reduceToNat];exact hc)).trans ?_
   exact (qa8 hset).trans rfl
  ·rw [if_neg hc]
   refine (qB (by simp only [go_sem,Int.reduceToNat];exact hc)).trans ?_
   exact (qa8 hsend).trans rfl
 ·rw [if_neg h]
  refine (qF (a:=(true,())) ?_).trans rfl
  by_cases h1:we=0
  ·have h2:¬ ae=0:=fun h2=>h ⟨h1,h2⟩
   exact (qB (by rw [h1];rfl)).trans (by rw [show beq ae 0=false from vM h2];rfl)
  ·exact qE (by rw [show beq we 0=false from vM h1];rfl)
theorem qmK {s:Si} {n:Nat} (hs:okS n s) (hn:n≤900000) (q:z9):qaV (s.t,q,())=some ((qhZ s q).t,()):=by
 unfold qaV qhZ
 dsimp only
 rw [show s.t.1.2.2.2.2.2.2.2.2.2.2.2.2.1=s.e.stan from rfl,quK]
 refine (qF rfl).trans ?_
 dsimp only
 rw [qbJ]
 have hok:=qk7 hs q
 have hset:=qsD hok hn 0 (wrN (q.1,q.2.1,vL s.e.stan,q.2.2.2)).1
 have hsend:=qiN hok hn (wrN (q.1,q.2.1,vL s.e.stan,q.2.2.2)).1
 unfold qwY at hset hsend ⊢
 generalize wrN (q.1,q.2.1,vL s.e.stan,q.2.2.2)=w at hset hsend ⊢
 obtain ⟨b,we,⟨⟩⟩:=w
 refine (qF rfl).trans ?_
 dsimp only at hset hsend ⊢
 by_cases h1:we=0
 ·refine (qB (bq_f h1)).trans ?_
  rw [qsG]
  generalize ql8 q.2.1 (vL s.e.stan) b=a at hset hsend ⊢
  obtain ⟨a,ae,⟨⟩⟩:=a
  refine (qF rfl).trans ?_
  dsimp only at hset hsend ⊢
  by_cases h2:ae=0
  ·rw [if_pos ⟨h1,h2⟩]
   refine (qB (bq_f h2)).trans ?_
   by_cases hc:q.2.1=1
   ·rw [if_pos hc]
    refine (qE (by simp only [go_sem,Int.reduceToNat];exact hc)).trans ?_
    exact (qa8 hset).trans rfl
   ·rw [if_neg hc]
    refine (qB (by simp only [go_sem,Int.reduceToNat];exact hc)).trans ?_
    exact (qa8 hsend).trans rfl
  ·rw [if_neg (fun h=>h2 h.2)]
   exact qE (bq_t h2)
 ·rw [if_neg (fun h=>h1 h.1)]
  exact qE (bq_t h1)
def qsZ (c:Int):z9:=(true,c,0,0,0,[],[],0,())
def derD (e:En') (gen:Int) (nonce:BB):BB:=keyD e.key (wC e) gen nonce
theorem qoU (e:En') (gen:Int) (nonce:BB) (hk:e.key.length≤1000000) (hn:nonce.length≤1000):xC ((e.t,()),gen,nonce,())=some (derD e gen nonce,()):=by
 unfold xC
 dsimp only
 rw [qeH]
 refine (qF rfl).trans ?_
 rw [show qoF (e.t.2.1,(wC e,()).1,gen,nonce,())=_ from qBj e.key (wC e) gen nonce hk hn];rfl
theorem qdO (e:En') (gen:Int) (nonce:BB) (hk:e.key.length≤1000000) (hn:nonce.length≤1000):x3 (e.t,gen,nonce,())=some (derD e gen nonce,()):=by
 unfold x3
 dsimp only
 rw [vR]
 refine (qF rfl).trans ?_
 rw [show qa5 (e.t.2.1,(wC e,()).1,gen,nonce,())=_ from qd8 e.key (wC e) gen nonce hk hn];rfl
theorem yD {r:z6} (h:y6 r):y6 (qlK r):=by
 rcases h with rfl | ⟨h1,h2,h3,h4,h5,h6⟩
 ·exact .inl rfl
 ·refine .inr ⟨h1,h2,h3, ?_,h5, .inl rfl⟩
  have:=h1.1
  show (0:Int)≤r.2.2.2.2.1
  omega
theorem qLv {r:z6} {no:Int} {key:BB} (h:(qQ r no key).2.1=0):yY (no,key,())∧¬ r=noR∧r.1.1 < no∧r.2.2.1.1≤no∧(qQ r no key).1=(r.1,r.2.1,(no,key,()),r.2.2.2.1,max r.2.2.2.2.1 no,()):=by
 unfold qQ at h ⊢
 by_cases h1:yY (no,key,())
 ·rw [if_neg (not_not_intro h1)] at h ⊢
  by_cases h2:r=noR∨no≤r.1.1∨no < r.2.2.1.1
  ·rw [if_pos h2] at h;cases h
  ·rw [if_neg h2]
   simp only [not_or] at h2
   exact ⟨h1,h2.1,by omega,by omega,rfl⟩
 ·rw [if_pos h1] at h;cases h
theorem qJU {r:z6} {no:Int} {key:BB} (h:¬ (qQ r no key).2.1=0):(qQ r no key).1=r:=by
 unfold qQ at h ⊢
 split
 ·rfl
 split
 ·rfl
 ·rename_i h1 h2
  rw [if_neg h1,if_neg h2] at h;exact absurd rfl h
theorem jA {r:z6} (h:y6 r) (no:Int) (key:BB):y6 (qQ r no key).1:=by
 by_cases h0:(qQ r no key).2.1=0
 ·obtain ⟨g,hn,hc,hp,e⟩:=qLv h0
  rw [e]
  rcases h with h | ⟨h1,h2,h3,h4,h5,h6⟩
  ·exact absurd h hn
  ·refine .inr ⟨h1, ?_, ?_, ?_,h5, .inr ⟨g,hc⟩⟩
   ·have:=g.2.1
    show max r.2.2.2.2.1 no≤2147483647
    dsimp only at this
    omega
   ·show r.1.1≤max r.2.2.2.2.1 no
    omega
   ·show no≤max r.2.2.2.2.1 no
    omega
 ·rw [qJU h0];exact h
theorem qcO {r:z6} (h:y6 r):y6 (qbI r).1:=by
 unfold qbI
 by_cases hp:r.2.2.1=noG
 ·rw [if_pos hp];exact h
 ·rw [if_neg hp]
  rcases h with rfl | ⟨h1,h2,h3,h4,h5,h6⟩
  ·exact absurd rfl hp
  ·have h7:=h6.resolve_left hp
   refine .inr ⟨h7.1,h2,h4, ?_, .inr ⟨?_,h1,h7.2,by show (1:Int)≤16;decide,by show (16:Int)≤16;decide⟩, .inl rfl⟩
   ·have:=h1.1
    show (0:Int)≤r.2.2.2.2.1
    omega
   ·intro e
    have:=h1.1
    have e:r.1=noG:=e
    rw [e] at this
    exact absurd this (by decide)
theorem quF {r:z6} (h:y6 r):r.2.2.1=noG∨¬ r.2.2.1.1=0:=by
 rcases h with rfl | ⟨h1,h2,h3,h4,h5,h6⟩
 ·exact .inl rfl
 ·rcases h6 with h6 | h6
  ·exact .inl h6
  ·exact .inr (by have:=h6.1.1;omega)
theorem qJO {r:z6} (h:y6 r):0≤r.2.2.2.2.1∧r.2.2.2.2.1≤2147483647:=by
 rcases h with rfl | ⟨h1,h2,h3,h4,h5,h6⟩
 ·exact ⟨by decide,by decide⟩
 ·have:=h1.1;omega
def keyQ (gen:Int) (nonce k:BB):z9:=(true,101,0,0,gen,nonce,kcvD k,0,())
def newK (s:Si) (nonce:BB):Si×Int :=
 if ¬ nonce.length=8 then (s,1) else if ¬ qsU s.e.ph then (s,7) else if ¬ s.e.ph=3∨¬ s.e.ask.1=0∨0 < s.e.ring.2.2.1.1 then (s,9)
 else if ¬ (qh8 s.e.ring).2.1=0 then (s,(qh8 s.e.ring).2.1)
 else (qhZ ⟨{ s.e with ph:=4,ring:=(qQ s.e.ring (qh8 s.e.ring).1 (derD s.e (qh8 s.e.ring).1 nonce)).1 },s.p⟩ (keyQ (qh8 s.e.ring).1 nonce (derD s.e (qh8 s.e.ring).1 nonce)),0)
theorem qi6 {n:Nat} {s:Si} (h:okS n s) (g:Int) (k:BB):okS n ⟨{ s.e with ph:=4,ring:=(qQ s.e.ring g k).1 },s.p⟩:=⟨{ h.e with ph:=⟨by show (0:Int)≤4;decide,by show (4:Int)≤8;decide⟩,ring:=jA h.e.ring g k },h.p⟩
theorem qLj:qfK (3,6,())=some (4,true,()):=rfl
theorem qHv (e:En') (g:Int) (nonce:BB):(derD e g nonce).length≤32:=by
 unfold derD keyD;split
 ·rw [qeO];omega
 ·simp
theorem jO {s:Si} {n:Nat} (hs:okS n s) (hn:n≤900000) (nonce:BB):jY (s.t,nonce,())=some ((newK s nonce).1.t,(newK s nonce).2,()):=by
 unfold jY newK
 dsimp only
 by_cases h1:nonce.length=8
 ·rw [if_neg (not_not_intro h1)]
  refine (qB (by simp only [go_sem,Int.reduceToNat];omega)).trans ?_
  rw [show s.t.1.2.2.1=s.e.ph from rfl,qu2]
  refine (qF rfl).trans ?_
  by_cases h2:qsU s.e.ph
  ·rw [D_t h2,if_neg (not_not_intro h2)]
   refine (qB rfl).trans ?_
   rw [show s.t.1.2.2.2.2.2.2.2.2.2.2.2.1.1=s.e.ask.1 from rfl,show s.t.1.2.2.2.2.2.2.2.2.2.2.1=s.e.ring from rfl]
   by_cases h3:¬ s.e.ph=3∨¬ s.e.ask.1=0∨0 < s.e.ring.2.2.1.1
   ·rw [if_pos h3]
    refine (qF (a:=(true,())) ?_).trans rfl
    simp only [go_sem,Int.reduceToNat]
    exact qbV (or_assoc.2 h3)
   ·rw [if_neg h3]
    simp only [not_or,Classical.not_not] at h3
    obtain ⟨a1,a2,a3⟩:=h3
    refine (qF (a:=(false,())) (by simp only [go_sem,Int.reduceToNat,a1,a2];exact y2 a3)).trans ((qB rfl).trans ?_)
    have ht:=qJO hs.e.ring
    rw [qxN _ ht.2 ht.1]
    refine (qF rfl).trans ?_
    by_cases h4:(qh8 s.e.ring).2.1=0
    ·rw [if_neg (not_not_intro h4)]
     refine (qB (by simp only [go_sem,Int.reduceToNat];exact not_not_intro h4)).trans ?_
     generalize (qh8 s.e.ring).1=g
     refine (qF (o:=xZ _) rfl).trans ?_
     dsimp only
     have hk:=hs.e.key
     rw [show xC ((s.t.1,()),g,nonce,())=_ from qoU s.e g nonce (by omega) (by omega)]
     refine (qF rfl).trans ?_
     dsimp only
     rw [qcN]
     refine (qF rfl).trans ?_
     rw [a1,qLj]
     refine (qF rfl).trans ?_
     rw [qrB _ (by have:=qHv s.e g nonce;omega)]
     refine (qF rfl).trans ?_
     exact (qa8 (qdL (qi6 hs g (derD s.e g nonce)) hn (keyQ g nonce (derD s.e g nonce)))).trans rfl
    ·rw [if_pos h4]
     exact qE (by simp only [go_sem,Int.reduceToNat];exact h4)
  ·rw [D_f h2,if_pos h2];rfl
 ·rw [if_pos h1]
  exact qE (by simp only [go_sem,Int.reduceToNat];omega)
def qQz (e:En'):En':={ e with ph:=3,ask:=noA }
theorem qLi:qfK (4,8,())=some (3,true,()):=rfl
def wQ (s:Si):Si:=if s.e.ph=4 then ⟨{ s.e with ph:=3,ask:=noA,ring:=qlK s.e.ring },s.p⟩ else s
theorem qcP {s:Si} (h:s.e.ph=4):wW (s.t,())=some ((⟨qQz s.e,s.p⟩:Si).t,()):=by
 unfold wW
 rw [show (s.t,()).1.1.2.2.1=4 from h,qLi];rfl
theorem kR (s:Si):yE (s.t,())=some ((wQ s).t,()):=by
 unfold yE wQ
 refine (qF (o:=xZ _) rfl).trans ((qF (o:=zF _) rfl).trans ?_)
 by_cases h:s.e.ph=4
 ·rw [if_pos h]
  refine (qB (by show bnot (beq s.e.ph 4)=false;rw [h];rfl)).trans ?_
  rw [qcP h];rfl
 ·rw [if_neg h]
  exact qE (by show bnot (beq s.e.ph 4)=true;simp only [go_sem,Int.reduceToNat];exact h)
end Yp
namespace Yp
open Go
set_option maxRecDepth 100000
set_option maxHeartbeats 2000000
def qiL (n:z9) (res:Int):BB:=(wrN (ansN n res).1).1
theorem qsB (n:z9) (res:Int):qf6 (n,res,())=some (qiL n res,()):=by
 unfold qf6
 dsimp only
 rw [qp3]
 refine (qF rfl).trans ?_
 rw [qbJ];rfl
theorem qsA (s:Si):vQ (s.t,())=some ((qbF s 3).t,()):=by
 unfold vQ
 exact (qa8 (qA3 s)).trans rfl
theorem qtI {s:Si} {m:Nat} (hs:okS m s) (hm:m≤900000) (n:z9) (res:Int) :
  (ob (xE (n,res,())) fun (a:z9×Int×Unit)=>ob (xO (a.1,())) fun (b:BB×Int×Unit)=>ob (vV (s.t,b.1,())) fun (c:vY×Int×Unit)=>(some (c.1,()):Option (vY×Unit)))=some ((qa4 s (qiL n res)).1.t,()):=by
 rw [qh0]
 refine (qF rfl).trans ?_
 rw [qi7]
 refine (qF rfl).trans ?_
 exact (qa8 (ql3 hs hm (qiL n res))).trans rfl
theorem v3 {s:Si} {m:Nat} (hs:okS m s) (hm:m≤900000) (n:z9) (res:Int):vP (s.t,n,res,())=some ((qa4 s (qiL n res)).1.t,()):=by
 unfold vP
 dsimp only
 rw [qsB]
 refine (qF rfl).trans ?_
 exact (qa8 (qiN hs hm (qiL n res))).trans rfl
def qFL (e:En') (r:z6):En':={ e with ring:=r }
def qm4 (e:En') (r:z6):En':={ e with ph:=3,ask:=noA,ring:=r }
def offK (s:Si) (n:z9):Si :=
 if s.e.ph=4∧s.e.id=0 then qbF s 3
 else if ¬ kcvD (derD s.e n.2.2.2.2.1 n.2.2.2.2.2.1)=n.2.2.2.2.2.2.1 then (qa4 s (qiL n 63)).1
 else if n.2.2.2.2.1=s.e.ring.1.1 then (qa4 s (qiL n 0)).1
 else if s.e.ph=4 then
  (if (qQ (qlK s.e.ring) n.2.2.2.2.1 (derD s.e n.2.2.2.2.1 n.2.2.2.2.2.1)).2.1=0 then (qa4 ⟨qm4 s.e (qQ (qlK s.e.ring) n.2.2.2.2.1 (derD s.e n.2.2.2.2.1 n.2.2.2.2.2.1)).1,s.p⟩ (qiL n 0)).1 else qbF s 3)
 else (if (qQ s.e.ring n.2.2.2.2.1 (derD s.e n.2.2.2.2.1 n.2.2.2.2.2.1)).2.1=0 then (qa4 ⟨qFL s.e (qQ s.e.ring n.2.2.2.2.1 (derD s.e n.2.2.2.2.1 n.2.2.2.2.2.1)).1,s.p⟩ (qiL n 0)).1 else qbF s 3)
theorem qn6 {m:Nat} {s:Si} (h:okS m s) {r:z6} (hr:y6 r):okS m ⟨qFL s.e r,s.p⟩:=⟨{ h.e with ring:=hr },h.p⟩
theorem wD {m:Nat} {s:Si} (h:okS m s) {r:z6} (hr:y6 r):okS m ⟨qm4 s.e r,s.p⟩:=⟨{ h.e with ring:=hr,ph:=⟨by show (0:Int)≤3;decide,by show (3:Int)≤8;decide⟩ },h.p⟩
theorem qfV (s:Si):(ob (yS (s.t,13,())) fun (a:vY×Unit)=>(some (a.1,()):Option (vY×Unit)))=some ((qbF s 3).t,()):=(qa8 (qEo s)).trans rfl
theorem qeV (s:Si):(ob (vQ (s.t,())) fun (a:vY×Unit)=>(some (a.1,()):Option (vY×Unit)))=some ((qbF s 3).t,()):=(qa8 (qsA s)).trans rfl
theorem jG {s:Si} {m:Nat} (hs:okS m s) (hm:m≤900000) (n:z9) (hn:n.2.2.2.2.2.1.length≤1000):zX (s.t,n,())=some ((offK s n).t,()):=by
 unfold zX offK
 refine (qF (o:=xZ _) rfl).trans ?_
 dsimp only
 have hk:=hs.e.key
 rw [show xC ((s.t.1,()),n.2.2.2.2.1,n.2.2.2.2.2.1,())=_ from qoU s.e _ _ (by omega) hn]
 refine (qF rfl).trans ?_
 have hl:=qHv s.e n.2.2.2.2.1 n.2.2.2.2.2.1
 generalize derD s.e n.2.2.2.2.1 n.2.2.2.2.2.1=k at hl
 refine (qF (o:=zF _) rfl).trans ?_
 dsimp only
 rw [show s.t.1.2.2.1=s.e.ph from rfl,show s.t.1.1=s.e.id from rfl]
 by_cases h1:s.e.ph=4∧s.e.id=0
 ·rw [if_pos h1,h1.1,h1.2]
  refine (qF (a:=(true,())) rfl).trans ((qE rfl).trans ?_)
  exact qfV s
 ·rw [if_neg h1]
  refine (qF (a:=(false,())) ?_).trans ((qB rfl).trans ?_)
  ·by_cases h4:s.e.ph=4
   ·have h0:¬ s.e.id=0:=fun h0=>h1 ⟨h4,h0⟩
    rw [xH h4,vM h0];rfl
   ·rw [vM h4];rfl
  rw [qrB _ (by omega)]
  refine (qF rfl).trans ?_
  dsimp only
  rw [qgX _ _ (by rw [qvK];omega)]
  refine (qF rfl).trans ?_
  dsimp only
  by_cases h2:kcvD k=n.2.2.2.2.2.2.1
  ·rw [if_neg (not_not_intro h2),qMT h2]
   refine (qB rfl).trans ?_
   rw [show s.t.1.2.2.2.2.2.2.2.2.2.2.1=s.e.ring from rfl]
   by_cases h3:n.2.2.2.2.1=s.e.ring.1.1
   ·rw [if_pos h3]
    refine (qE (xH h3)).trans ?_
    exact qtI hs hm n 0
   ·rw [if_neg h3]
    refine (qB (vM h3)).trans ?_
    refine (qF (o:=zF _) rfl).trans ?_
    dsimp only
    rw [show s.t.1.2.2.1=s.e.ph from rfl]
    by_cases h4:s.e.ph=4
    ·rw [if_pos h4]
     refine (qE (xH h4)).trans ?_
     rw [qnQ]
     refine (qF rfl).trans ?_
     dsimp only
     rw [qcN]
     refine (qF rfl).trans ?_
     by_cases h5:(qQ (qlK s.e.ring) n.2.2.2.2.1 k).2.1=0
     ·rw [if_pos h5]
      refine (qB (bq_f h5)).trans ?_
      refine (qF (o:=zF _) rfl).trans ?_
      dsimp only
      rw [show s.t.1.2.2.1=s.e.ph from rfl]
      refine (qE (xH h4)).trans ?_
      rw [qcP h4]
      refine (qF rfl).trans ?_
      exact qtI (wD hs (jA (yD hs.e.ring) n.2.2.2.2.1 k)) hm n 0
     ·rw [if_neg h5]
      refine (qE (bq_t h5)).trans ?_
      exact qfV s
    ·rw [if_neg h4]
     refine (qB (vM h4)).trans ?_
     rw [qcN]
     refine (qF rfl).trans ?_
     by_cases h5:(qQ s.e.ring n.2.2.2.2.1 k).2.1=0
     ·rw [if_pos h5]
      refine (qB (bq_f h5)).trans ?_
      refine (qF (o:=zF _) rfl).trans ?_
      dsimp only
      rw [show s.t.1.2.2.1=s.e.ph from rfl]
      refine (qB (vM h4)).trans ?_
      exact qtI (qn6 hs (jA hs.e.ring n.2.2.2.2.1 k)) hm n 0
     ·rw [if_neg h5]
      refine (qE (bq_t h5)).trans ?_
      exact qfV s
  ·rw [if_pos h2,qMU h2]
   refine (qE rfl).trans ?_
   exact qtI hs hm n 63
theorem qnU {s:Si} {m:Nat} (hs:okS m s) (hm:m≤900000) (n:z9) (hn:n.2.2.2.2.2.1.length≤1000):qb0 (s.t,n,())=some ((offK s n).t,()):=by
 unfold qb0 offK
 dsimp only
 have hk:=hs.e.key
 rw [show s.t.1.2.2.1=s.e.ph from rfl,show s.t.1.1=s.e.id from rfl]
 by_cases h1:s.e.ph=4∧s.e.id=0
 ·rw [if_pos h1,h1.1,h1.2]
  refine (qF (a:=(true,())) rfl).trans ((qE rfl).trans ?_)
  exact qeV s
 ·rw [if_neg h1]
  refine (qF (a:=(false,())) ?_).trans ((qB rfl).trans ?_)
  ·by_cases h4:s.e.ph=4
   ·have h0:¬ s.e.id=0:=fun h0=>h1 ⟨h4,h0⟩
    rw [xH h4,vM h0];rfl
   ·rw [vM h4];rfl
  rw [show x3 (s.t.1,n.2.2.2.2.1,n.2.2.2.2.2.1,())=_ from qdO s.e _ _ (by omega) hn]
  refine (qF rfl).trans ?_
  have hl:=qHv s.e n.2.2.2.2.1 n.2.2.2.2.2.1
  generalize derD s.e n.2.2.2.2.1 n.2.2.2.2.2.1=k at hl
  dsimp only
  rw [qxX _ (by omega)]
  refine (qF rfl).trans ?_
  dsimp only
  rw [qT]
  refine (qF rfl).trans ?_
  dsimp only
  by_cases h2:kcvD k=n.2.2.2.2.2.2.1
  ·rw [if_neg (not_not_intro h2),qMT h2]
   refine (qB rfl).trans ?_
   rw [show s.t.1.2.2.2.2.2.2.2.2.2.2.1=s.e.ring from rfl]
   by_cases h3:n.2.2.2.2.1=s.e.ring.1.1
   ·rw [if_pos h3]
    refine (qE (xH h3)).trans ?_
    exact (qa8 (v3 hs hm n 0)).trans rfl
   ·rw [if_neg h3]
    refine (qB (vM h3)).trans ?_
    by_cases h4:s.e.ph=4
    ·rw [if_pos h4]
     refine (qE (xH h4)).trans ?_
     rw [qmL]
     refine (qF rfl).trans ?_
     dsimp only
     rw [qbL]
     refine (qF rfl).trans ?_
     by_cases h5:(qQ (qlK s.e.ring) n.2.2.2.2.1 k).2.1=0
     ·rw [if_pos h5]
      refine (qB (bq_f h5)).trans ?_
      exact (qa8 (v3 (wD hs (jA (yD hs.e.ring) n.2.2.2.2.1 k)) hm n 0)).trans rfl
     ·rw [if_neg h5]
      refine (qE (bq_t h5)).trans ?_
      exact qeV s
    ·rw [if_neg h4]
     refine (qB (vM h4)).trans ?_
     rw [qbL]
     refine (qF rfl).trans ?_
     by_cases h5:(qQ s.e.ring n.2.2.2.2.1 k).2.1=0
     ·rw [if_pos h5]
      refine (qB (bq_f h5)).trans ?_
      exact (qa8 (v3 (qn6 hs (jA hs.e.ring n.2.2.2.2.1 k)) hm n 0)).trans rfl
     ·rw [if_neg h5]
      refine (qE (bq_t h5)).trans ?_
      exact qeV s
  ·rw [if_pos h2,qMU h2]
   refine (qE rfl).trans ?_
   exact (qa8 (v3 hs hm n 63)).trans rfl
instance (a:TAsk) (c s:Int):Decidable (ql1 a c s):=by unfold ql1;infer_instance
def ansK (s:Si) (n:z9):Si :=
 if ¬ s.e.ph=4∨¬ ql1 s.e.ask n.2.1 n.2.2.1 then qbF s 3
 else if ¬ n.2.2.2.1=0 then wQ s
 else qhZ ⟨qm4 s.e (qbI s.e.ring).1,s.p⟩ (qsZ 301)
theorem z1 {s:Si} {m:Nat} (hs:okS m s) (hm:m≤900000) (n:z9):zP (s.t,n,())=some ((ansK s n).t,()):=by
 unfold zP ansK
 refine (qF (o:=xZ _) rfl).trans ?_
 refine (qF (o:=zF _) rfl).trans ?_
 dsimp only
 rw [show s.t.1.2.2.1=s.e.ph from rfl,show s.t.1.2.2.2.2.2.2.2.2.2.2.2.1=s.e.ask from rfl,qyR]
 by_cases h4:s.e.ph=4
 ·by_cases h5:ql1 s.e.ask n.2.1 n.2.2.1
  ·rw [if_neg (fun h=>h.elim (fun h=>h h4) (fun h=>h h5)),D_t h5,xH h4]
   refine (qF (a:=(false,())) rfl).trans ((qB rfl).trans ?_)
   by_cases h6:n.2.2.2.1=0
   ·rw [if_neg (not_not_intro h6)]
    refine (qB (bq_f h6)).trans ?_
    rw [qcP h4]
    refine (qF rfl).trans ?_
    rw [show (qiI ((({ e:=qQz s.e,p:=s.p }:Si).t,()).1.1.2.2.2.2.2.2.2.2.2.2.1,()):Option (z6×Int×Unit))=_ from qxM s.e.ring]
    refine (qF rfl).trans ?_
    exact (qa8 (qdL (wD hs (qcO hs.e.ring)) hm (qsZ 301))).trans rfl
   ·rw [if_pos h6]
    refine (qE (bq_t h6)).trans ?_
    exact (qa8 (kR s)).trans rfl
  ·rw [if_pos (.inr h5),D_f h5,xH h4]
   refine (qF (a:=(true,())) rfl).trans ((qE rfl).trans ?_)
   exact qfV s
 ·rw [if_pos (.inl h4),vM h4]
  refine (qF (a:=(true,())) rfl).trans ((qE rfl).trans ?_)
  exact qfV s
theorem qmJ {s:Si} {m:Nat} (hs:okS m s) (hm:m≤900000) (n:z9):qaU (s.t,n,())=some ((ansK s n).t,()):=by
 unfold qaU ansK
 dsimp only
 rw [show s.t.1.2.2.1=s.e.ph from rfl,show s.t.1.2.2.2.2.2.2.2.2.2.2.2.1=s.e.ask from rfl,qsF]
 refine (qF rfl).trans ?_
 by_cases h4:s.e.ph=4
 ·by_cases h5:ql1 s.e.ask n.2.1 n.2.2.1
  ·rw [if_neg (fun h=>h.elim (fun h=>h h4) (fun h=>h h5)),D_t h5,xH h4]
   refine (qF (a:=(false,())) rfl).trans ((qB rfl).trans ?_)
   by_cases h6:n.2.2.2.1=0
   ·rw [if_neg (not_not_intro h6)]
    refine (qB (bq_f h6)).trans ?_
    rw [show (yQ (s.t.1.2.2.2.2.2.2.2.2.2.2.1,()):Option (z6×Int×Unit))=_ from qcV s.e.ring (quF hs.e.ring)]
    refine (qF rfl).trans ?_
    exact (qa8 (qmK (wD hs (qcO hs.e.ring)) hm (qsZ 301))).trans rfl
   ·rw [if_pos h6]
    refine (qE (bq_t h6)).trans ?_
    unfold wQ
    rw [if_pos h4];rfl
  ·rw [if_pos (.inr h5),D_f h5,xH h4]
   refine (qF (a:=(true,())) rfl).trans ((qE rfl).trans ?_)
   exact qeV s
 ·rw [if_pos (.inl h4),vM h4]
  refine (qF (a:=(true,())) rfl).trans ((qE rfl).trans ?_)
  exact qeV s
end Yp
namespace Yp
open Go
set_option maxRecDepth 100000
set_option maxHeartbeats 2000000
theorem qEf (x:UInt64):n64 x=(x.toNat:Int):=rfl
theorem qIL {k:Nat} (h:k≤63):2 ^ k≤9223372036854775808:=by
 have:=Nat.pow_le_pow_right (show 0 < 2 by omega) h
 have e:2 ^ 63=9223372036854775808:=by decide
 omega
theorem qhW (k:Nat) (hk:k≤63):qaC ((k:Int),())=some (u64 ((2 ^ k:Nat):Int),()):=by
 unfold qaC
 dsimp only
 generalize hf:(fun (x_1:UInt64×Int×Unit)=>(_:Option (LS (UInt64×Int×Unit) (UInt64×Unit))))=f
 have step:∀ i:Nat,i < k→f (u64 ((2 ^ i:Nat):Int),(i:Int),())=some (.nx (u64 ((2 ^ (i+1):Nat):Int),((i+1:Nat):Int),())):=by
  intro i hi
  subst hf
  have hi':i64 (iadd (i:Int) 1)=((i+1:Nat):Int):=i64n (by show (i:Int)+1=_;omega) (by omega)
  have hp:=qIL (k:=i) (by omega)
  have e:imul (n64 (u64 2)) (n64 (u64 ((2 ^ i:Nat):Int)))=((2 ^ (i+1):Nat):Int):=by
   rw [Nat.pow_succ]
   generalize 2 ^ i=m at hp
   rw [qi9 (by decide),qi9 (by omega)]
   show (2:Int)*(m:Int)=_
   omega
  refine (qE (by simp only [go_sem,Int.reduceToNat];omega)).trans ?_
  dsimp only
  rw [hi',e]
 have hend:∀ u,f (u,(k:Int),())=some (.ex 0 (u,(k:Int),())):=by subst hf;intro u;exact qB (by simp only [go_sem,Int.reduceToNat];omega)
 have hloop:=(qN (f:=f) (fun i=>(u64 ((2 ^ i:Nat):Int),(i:Int),())) k step 0 (Nat.zero_le _)).trans (qV (hend _))
 refine (zA (show loop f (u64 1,0,())=_ from hloop)).trans ?_
 exact qH g62
def bitW (w:WT) (p:Nat):Bool:=(nth w.2.1 (p / 64) (u64 0)).toNat / 2 ^ (p % 64) % 2 == 1
theorem qaX (w:WT) (hw:w.2.1.length=16) (p:Nat) (hp:p < 1024):qa6 (w,(p:Int),())=some (bitW w p,()):=by
 unfold qa6 bitW
 dsimp only
 have e1:i64 (idiv (p:Int) 64)=((p / 64:Nat):Int):=by rw [g31 (by omega)];exact i64n (by omega) (by omega)
 have e2:imod (p:Int) 64=((p % 64:Nat):Int):=by rw [g32 (by omega)];omega
 rw [e1,e2]
 refine (qH (by simp only [go_sem,Int.reduceToNat];omega)).trans ?_
 rw [qhW _ (by omega)]
 refine (qF rfl).trans ?_
 have hq:=qIL (k:=p % 64) (by omega)
 have hq0:0 < 2 ^ (p % 64):=Nat.pow_pos (by omega)
 generalize 2 ^ (p % 64)=m at hq hq0 ⊢
 have e3:n64 (u64 (m:Int))=(m:Int):=qi9 (by omega)
 dsimp only
 rw [e3]
 refine (qH (by simp only [go_sem,Int.reduceToNat];omega)).trans ?_
 rw [qU]
 generalize nth w.2.1 (p / 64) (u64 0)=x
 have hx:=x.toNat_lt
 have e4:idiv (n64 x) (m:Int)=((x.toNat / m:Nat):Int):=by
  rw [g31 (by rw [qEf];omega),qEf,Int.natCast_ediv]
 have hle:x.toNat / m≤x.toNat:=Nat.div_le_self _ _
 rw [e4]
 generalize x.toNat / m=q at hle ⊢
 rw [show n64 (u64 (q:Int))=(q:Int) from qi9 (by omega),show n64 (u64 2)=2 from qi9 (by decide),show imod (q:Int) 2=((q % 2:Nat):Int) by rw [g32 (by omega)];omega,
  show n64 (u64 ((q % 2:Nat):Int))=((q % 2:Nat):Int) from qi9 (by omega),show n64 (u64 1)=1 from qi9 (by decide)]
 congr 2
 unfold beq
 rw [Bool.eq_iff_iff,beq_iff_eq,beq_iff_eq]
 omega
def qK2 (w:WT):Prop:=(0≤w.1∧w.1≤4611686018427387905)∧(∀ p∈(List.range 1024).drop w.1.toNat,bitW w p=false)∧(w.1=0∨bitW w ((w.1 - 1) % 1024).toNat=true)
theorem qsK (w:WT) (hw:w.2.1.length=16):qgH (w,())=some (D (qK2 w),()):=by
 unfold qgH qK2
 dsimp only
 by_cases h0:0≤w.1∧w.1≤4611686018427387905
 ·refine (qF (a:=(false,())) (by simp only [go_sem,Int.reduceToNat];try exact y2 (by omega))).trans ((qB rfl).trans ?_)
  generalize hf:(fun (x_1:Bool×Int×Unit)=>(_:Option (LS (Bool×Int×Unit) (Bool×Unit))))=f
  have hlen:((List.range 1024).drop w.1.toNat).length=1024 - w.1.toNat:=by rw [List.length_drop,List.length_range]
  have hT:w.1=(w.1.toNat:Int):=by omega
  generalize w.1.toNat=T at hT hlen
  have hget:∀ i (h:i < ((List.range 1024).drop T).length),((List.range 1024).drop T)[i]=T+i:=fun i h=>by rw [List.getElem_drop,List.getElem_range]
  have fin:(ck (neb 0 0) (ob (sel (beq w.1 0) (some (true,())) (ob (qa6 (w,imod (i64 (isub w.1 1)) 1024,())) fun (a:Bool×Unit)=>some (a.1,()))) fun (a:Bool×Unit)=>some (a.1,())):Option (Bool×Unit))=some (D (w.1=0∨bitW w ((w.1 - 1) % 1024).toNat=true),()):=by
   refine (qH g62).trans ?_
   by_cases hz:w.1=0
   ·rw [D_t (.inl hz),hz];rfl
   ·have e:imod (i64 (isub w.1 1)) 1024=((((w.1 - 1) % 1024).toNat:Nat):Int):=by
     rw [show i64 (isub w.1 1)=w.1 - 1 from zS (by show -9223372036854775808≤w.1 - 1;omega) (by show w.1 - 1≤9223372036854775807;omega),g32 (by omega)];omega
    refine (qa8 ((qB (vM hz)).trans (by rw [e,qaX w hw _ (by omega)]))).trans ?_
    refine (qF rfl).trans ?_
    cases hb:bitW w ((w.1 - 1) % 1024).toNat
    ·rw [D_f (fun h=>h.elim hz (by simp))]
    ·rw [D_t (.inr rfl)]
  have key:=qb5 (f:=f) ((List.range 1024).drop T) (fun i=>(false,((T+i:Nat):Int),())) 0 ((false,()):Bool×Unit) (fun p=>bitW w p=false) (fun i h hp => ?_) (fun i h hp => ?_) ?_
  ·rcases key with ⟨h,hl⟩ | ⟨h,hl⟩
   ·rw [Nat.add_zero,← hT] at hl
    refine (zA hl).trans ?_
    refine fin.trans (zL ?_)
    exact ⟨fun h'=>⟨h0,h,h'⟩,fun h'=>h'.2.2⟩
   ·rw [Nat.add_zero,← hT] at hl
    refine (zA hl).trans ?_
    rw [D_f (fun h'=>h h'.2.1)];rfl
  ·subst hf
   have hi':i64 (iadd ((T+i:Nat):Int) 1)=((T+(i+1):Nat):Int):=i64n (by show ((T+i:Nat):Int)+1=_;omega) (by omega)
   rw [hget i h] at hp
   refine (qE (by simp only [go_sem,Int.reduceToNat];omega)).trans ?_
   dsimp only
   rw [qaX w hw _ (by omega),hp,hi'];rfl
  ·subst hf
   rw [hget i h,Bool.not_eq_false] at hp
   refine (qE (by simp only [go_sem,Int.reduceToNat];omega)).trans ?_
   dsimp only
   rw [qaX w hw _ (by omega),hp];rfl
  ·subst hf
   refine qB ?_
   show lt ((T+((List.range 1024).drop T).length:Nat):Int) 1024=false
   rw [List.length_drop,List.length_range]
   exact lt_f (by omega)
 ·rw [D_f (fun h=>h0 h.1)]
  refine (qF (a:=(true,())) (by simp only [go_sem,Int.reduceToNat];try exact qbV (by omega))).trans ?_
  rfl
end Yp
namespace Yp
open Go
set_option maxRecDepth 100000
set_option maxHeartbeats 2000000
abbrev FT:=BB×Int×Int×Unit
def noF:FT:=([],0,0,())
def qNC (f:FT):Int:=256*n8 (nth f.1 0 (u8 0))+n8 (nth f.1 1 (u8 0))
def quG (f:FT):Prop:=¬ (f.2.1 < 0∨65535 < f.2.1∨0 < f.2.1∧0 < f.1.length)∧(f.1.length < 2∨1≤qNC f∧qNC f≤1024∧(f.1.length:Int) < qNC f+2)
theorem qzG (c:UInt8):0≤n8 c∧n8 c < 256:=by have:=c.toNat_lt;unfold n8;omega
theorem qhX (f:FT):qgK (f,())=some (D (quG f),()):=by
 unfold qgK quG qNC
 dsimp only
 by_cases h1:f.2.1 < 0∨65535 < f.2.1∨0 < f.2.1∧0 < f.1.length
 ·rw [D_f (fun h=>h.1 h1)]
  refine (qF (a:=(true,())) (by simp only [go_sem,Int.reduceToNat];try exact qbV (by omega))).trans ?_
  rfl
 ·refine (qF (a:=(false,())) (by simp only [go_sem,Int.reduceToNat];try exact y2 (by omega))).trans ((qB rfl).trans ?_)
  by_cases h2:f.1.length < 2
  ·rw [D_t ⟨h1, .inl h2⟩]
   exact qE (by simp only [go_sem,Int.reduceToNat];omega)
  ·refine (qB (by simp only [go_sem,Int.reduceToNat];omega)).trans ?_
   refine (qH (by simp only [go_sem,Int.reduceToNat];omega)).trans ?_
   refine (qH (by simp only [go_sem,Int.reduceToNat];omega)).trans ?_
   rw [show nat 0=0 from rfl,show nat 1=1 from rfl]
   have hx:=qzG (nth f.1 0 (u8 0))
   have hy:=qzG (nth f.1 1 (u8 0))
   generalize n8 (nth f.1 0 (u8 0))=x at hx
   generalize n8 (nth f.1 1 (u8 0))=y at hy
   have e:i64 (iadd (i64 (imul 256 (i64 x))) (i64 y))=256*x+y:=by
    rw [show i64 x=x from zS (by omega) (by omega),show i64 y=y from zS (by omega) (by omega),show i64 (imul 256 x)=256*x from zS (by show -9223372036854775808≤256*x;omega) (by show 256*x≤9223372036854775807;omega)]
    exact zS (by show -9223372036854775808≤256*x+y;omega) (by show 256*x+y≤9223372036854775807;omega)
   rw [e,show i64 (iadd (256*x+y) 2)=256*x+y+2 from zS (by show -9223372036854775808≤256*x+y+2;omega) (by show 256*x+y+2≤9223372036854775807;omega)]
   simp only [go_sem,Int.reduceToNat]
   refine zL ⟨fun h=>⟨h1, .inr (by omega)⟩,fun h=>by have:=h.2;omega⟩
theorem qcW (a b:FT):qaD (a,b,())=some (D (a=b),()):=by
 obtain ⟨x,y,z,⟨⟩⟩:=a
 obtain ⟨x',y',z',⟨⟩⟩:=b
 unfold qaD
 simp only [go_sem,Int.reduceToNat,qT]
 refine zL ?_
 simp only [Prod.mk.injEq,and_true,and_assoc]
def qDV (h:THub):Prop:=(∀ c∈List.range 4,quG (nth h.2.1 c noF)∧(nth h.1 c false=true∨nth h.2.1 c noF=noF))∧0≤h.2.2.2.1∧h.2.2.2.1 < 4
theorem qsL (h:THub):qgJ (h,())=some (D (qDV h),()):=by
 unfold qgJ qDV
 dsimp only
 generalize hf:(fun (x_1:Bool×Int×Unit)=>(_:Option (LS (Bool×Int×Unit) (Bool×Unit))))=f
 have hget:∀ i (hi:i < (List.range 4).length),(List.range 4)[i]=i:=fun i hi=>List.getElem_range _
 have key:=qb5 (f:=f) (List.range 4) (fun i=>(false,(i:Int),())) 0 ((false,()):Bool×Unit) (fun c=>quG (nth h.2.1 c noF)∧(nth h.1 c false=true∨nth h.2.1 c noF=noF)) (fun i hi hp => ?_) (fun i hi hp => ?_) ?_
 ·rcases key with ⟨hk,hl⟩ | ⟨hk,hl⟩
  ·refine (zA (show loop f (false,0,())=_ from hl)).trans ?_
   refine (qH g62).trans ?_
   simp only [go_sem,Int.reduceToNat]
   exact zL ⟨fun h'=>⟨hk,h'⟩,fun h'=>h'.2⟩
  ·refine (zA (show loop f (false,0,())=_ from hl)).trans ?_
   rw [D_f (fun h'=>hk h'.1)];rfl
 ·subst hf
  rw [hget i hi] at hp
  have hi4:i < 4:=by simpa using hi
  have hi':i64 (iadd (i:Int) 1)=((i+1:Nat):Int):=i64n (by show (i:Int)+1=_;omega) (by omega)
  refine (qE (by simp only [go_sem,Int.reduceToNat];omega)).trans ?_
  dsimp only
  rw [hi',qU]
  refine (qH (by simp only [go_sem,Int.reduceToNat];omega)).trans ?_
  rw [show nth h.2.1 i (none' UInt8,0,0,())=nth h.2.1 i noF from rfl,qhX,D_t hp.1]
  refine (qF rfl).trans ?_
  refine (qH (by simp only [go_sem,Int.reduceToNat];omega)).trans ?_
  rw [show qaD (nth h.2.1 i noF,(none' UInt8,0,0,()),())=_ from qcW _ noF]
  refine (qF rfl).trans ?_
  refine (qF (a:=(false,())) ((qB rfl).trans ((qH (by simp only [go_sem,Int.reduceToNat];omega)).trans ?_))).trans rfl
  rcases hp.2 with h1 | h1
  ·rw [h1];rfl
  ·rw [D_t h1];cases nth h.1 i false <;> rfl
 ·subst hf
  rw [hget i hi] at hp
  have hi4:i < 4:=by simpa using hi
  refine (qE (by simp only [go_sem,Int.reduceToNat];omega)).trans ?_
  dsimp only
  rw [qU]
  refine (qH (by simp only [go_sem,Int.reduceToNat];omega)).trans ?_
  rw [show nth h.2.1 i (none' UInt8,0,0,())=nth h.2.1 i noF from rfl,qhX]
  refine (qF rfl).trans ?_
  refine (qH (by simp only [go_sem,Int.reduceToNat];omega)).trans ?_
  rw [show qaD (nth h.2.1 i noF,(none' UInt8,0,0,()),())=_ from qcW _ noF]
  refine (qF rfl).trans ?_
  by_cases h1:quG (nth h.2.1 i noF)
  ·rw [D_t h1]
   refine (qF (a:=(true,())) ((qB rfl).trans ((qH (by simp only [go_sem,Int.reduceToNat];omega)).trans ?_))).trans rfl
   have h2:¬ (nth h.1 i false=true∨nth h.2.1 i noF=noF):=fun h2=>hp ⟨h1,h2⟩
   simp only [not_or,Bool.not_eq_true] at h2
   rw [h2.1,D_f h2.2];rfl
  ·rw [D_f h1];rfl
 ·subst hf;exact qB rfl
def fewH (h:THub):Prop:=(nth h.2.1 0 noF).1.length≤1200∧(nth h.2.1 1 noF).1.length≤1200∧(nth h.2.1 2 noF).1.length≤1200∧(nth h.2.1 3 noF).1.length≤1200
theorem qxU (h:THub):qn0 (h,())=some (D (fewH h),()):=by
 unfold qn0 fewH
 rw [show (none' UInt8,0,0,())=noF from rfl]
 refine (qH rfl).trans ?_
 dsimp only
 rw [show nat 0=0 from rfl,show nat 1=1 from rfl,show nat 2=2 from rfl,show nat 3=3 from rfl]
 rw [qH (show inB 1 (ofn 4)=true from rfl),qH (show inB 2 (ofn 4)=true from rfl),qH (show inB 3 (ofn 4)=true from rfl)]
 simp only [go_sem,Int.reduceToNat]
 exact zL (by omega)
theorem qBr (h:THub) (h1:h.1.length=4) (h2:h.2.1.length=4) (h3:h.2.2.1.length=4):qkU (h,h,())=some (true,()):=by
 unfold qkU
 dsimp only
 generalize hf:(fun (x_1:Bool×Int×Unit)=>(_:Option (LS (Bool×Int×Unit) (Bool×Unit))))=f
 have step:∀ i:Nat,i < 4→f (false,(i:Int),())=some (.nx (false,((i+1:Nat):Int),())):=by
  intro i hi
  subst hf
  have hi':i64 (iadd (i:Int) 1)=((i+1:Nat):Int):=i64n (by show (i:Int)+1=_;omega) (by omega)
  refine (qE (by simp (disch:=omega) only [go_sem,Int.reduceToNat];omega)).trans ?_
  dsimp only
  rw [hi']
  simp (disch:=omega) only [go_sem,Int.reduceToNat,qcW]
 have hend:f (false,((4:Nat):Int),())=some (.ex 0 (false,((4:Nat):Int),())):=by subst hf;exact qB rfl
 have hloop:=(qN (f:=f) (fun i=>(false,(i:Int),())) 4 step 0 (Nat.zero_le _)).trans (qV hend)
 refine (zA (show loop f (false,0,())=_ from hloop)).trans ?_
 refine (qH g62).trans ?_
 simp (disch:=omega) only [go_sem,Int.reduceToNat]
def qK4 (e:En'):Prop:=e.queue.length≤8∧(e.queue=[]∨qsU e.ph)∧∀ b∈e.queue,qeL b
theorem qsC (e:En'):qf8 (e.t,())=some (D (qK4 e),()):=by
 unfold qf8 qK4
 dsimp only [En'.t]
 have hq0:(e.queue=[])↔e.queue.length=0:=List.length_eq_zero_iff.symm
 by_cases h1:e.queue.length≤8∧(e.queue=[]∨qsU e.ph)
 ·refine (qF (a:=(false,())) ?_).trans ((qB rfl).trans ?_)
  ·refine (qB (by simp (disch:=first | assumption | omega | (dsimp only;omega) | decide) only [go_sem,Int.reduceToNat];omega)).trans ?_
   by_cases h2:e.queue.length=0
   ·exact qB (by simp (disch:=first | assumption | omega | (dsimp only;omega) | decide) only [go_sem,Int.reduceToNat];omega)
   ·refine (qE (by simp (disch:=first | assumption | omega | (dsimp only;omega) | decide) only [go_sem,Int.reduceToNat];omega)).trans ?_
    rw [qiT,D_t (h1.2.resolve_left (fun h=>h2 (hq0.1 h)))];rfl
  generalize hf:(fun (x_1:Bool×Int×Unit)=>(_:Option (LS (Bool×Int×Unit) (Bool×Unit))))=f
  have key:=qb5 (f:=f) e.queue (fun i=>(false,(i:Int),())) 0 ((false,()):Bool×Unit) qeL (fun i hi hp => ?_) (fun i hi hp => ?_) ?_
  ·rcases key with ⟨hk,hl⟩ | ⟨hk,hl⟩
   ·refine (zA (show loop f (false,0,())=_ from hl)).trans ?_
    refine (qH g62).trans ?_
    rw [D_t ⟨h1.1,h1.2,hk⟩]
   ·refine (zA (show loop f (false,0,())=_ from hl)).trans ?_
    rw [D_f (fun h'=>hk h'.2.2)];rfl
  ·subst hf
   have hi':i64 (iadd (i:Int) 1)=((i+1:Nat):Int):=i64n (by show (i:Int)+1=_;omega) (by omega)
   refine (qE (by simp (disch:=omega) only [go_sem,Int.reduceToNat];omega)).trans ?_
   refine (qH (by simp (disch:=omega) only [go_sem,Int.reduceToNat];omega)).trans ?_
   dsimp only
   rw [hi',qU,qL hi]
   have q1:=hp.1
   have q2:=hp.2
   simp (disch:=omega) only [go_sem,Int.reduceToNat]
  ·subst hf
   refine (qE (by simp (disch:=omega) only [go_sem,Int.reduceToNat];omega)).trans ?_
   refine (qH (by simp (disch:=omega) only [go_sem,Int.reduceToNat];omega)).trans ?_
   dsimp only
   rw [qU,qL hi]
   unfold qeL at hp
   by_cases q1:e.queue[i].length < 1
   ·simp (disch:=omega) only [go_sem,Int.reduceToNat]
   ·simp (disch:=omega) only [go_sem,Int.reduceToNat]
  ·subst hf
   exact qB (by simp (disch:=omega) only [go_sem,Int.reduceToNat];omega)
 ·rw [D_f (fun h=>h1 ⟨h.1,h.2.1⟩)]
  refine (qF (a:=(true,())) ?_).trans rfl
  by_cases h2:e.queue.length≤8
  ·have h3:¬ (e.queue=[]∨qsU e.ph):=fun h3=>h1 ⟨h2,h3⟩
   simp only [not_or] at h3
   have h4:¬ e.queue.length=0:=fun h=>h3.1 (hq0.2 h)
   refine (qB (by simp (disch:=omega) only [go_sem,Int.reduceToNat];omega)).trans ((qE (by simp (disch:=omega) only [go_sem,Int.reduceToNat];omega)).trans ?_)
   rw [qiT,D_f h3.2];rfl
  ·exact qE (by simp (disch:=omega) only [go_sem,Int.reduceToNat];omega)
end Yp
namespace Yp
open Go
set_option maxRecDepth 100000
set_option maxHeartbeats 2000000
theorem qO8 {a b:UInt64}:n64 a=n64 b↔a=b:=by
 constructor
 ·intro h
  unfold n64 at h
  exact UInt64.toNat_inj.1 (by omega)
 ·rintro rfl;rfl
theorem qMI:∀ {l m:List UInt64},l.length=m.length→(all2 (fun (p q:UInt64)=>beq (n64 p) (n64 q)) l m=true↔l=m)
 | [],[],_=>by simp [all2]
 | a :: l,b :: m,h=>by
  have ih:=qMI (l:=l) (m:=m) (by simpa using h)
  unfold all2 at ih ⊢
  rw [List.zip_cons_cons,List.all_cons,Bool.and_eq_true,ih]
  unfold beq
  rw [beq_iff_eq,qO8,List.cons.injEq]
 | [],_ :: _,h=>by simp at h
 | _ :: _,[],h=>by simp at h
def qPO (e:En'):Prop:=e.oth=0∧e.seq=0∧e.win=noW∧e.ring=noR
theorem quI (e:En') (hw:e.win.2.1.length=16):qkN (e.t,())=some (D (qPO e),()):=by
 unfold qkN qPO
 dsimp only [En'.t]
 rw [qbM]
 refine (qF rfl).trans ?_
 have hwin:band (beq e.win.1 0) (band (all2 (fun (p q:UInt64)=>beq (n64 p) (n64 q)) e.win.2.1 [u64 0,u64 0,u64 0,u64 0,u64 0,u64 0,u64 0,u64 0,u64 0,u64 0,u64 0,u64 0,u64 0,u64 0,u64 0,u64 0]) true)=D (e.win=noW):=by
  refine qkB ?_
  generalize e.win=w at hw ⊢
  obtain ⟨t,b,⟨⟩⟩:=w
  unfold noW
  dsimp only at hw ⊢
  unfold band
  rw [Bool.and_true,Bool.and_eq_true,qMI (by rw [hw];rfl)]
  unfold beq
  rw [beq_iff_eq]
  simp only [Prod.mk.injEq,and_true]
 dsimp only
 rw [hwin]
 simp only [go_sem,Int.reduceToNat]
 refine zL ?_
 simp only [and_assoc]
def qNJ (p:Int):Int:=nth [0,1,0,0,101,201,2,0,0] p.toNat 0
def qPe (e:En'):Prop:=(e.ask.1=qNJ e.ph∨e.ph=3∧e.ask.1=301)∧(qO e.ph∧0 < e.own∧0 < e.oth∧0 < e.ring.1.1∧(¬ e.ph=4∨0 < e.ring.2.2.1.1)∨¬ qO e.ph∧qPO e∧(0 < e.own↔e.ph=1))
theorem qp0 (e:En') (hw:e.win.2.1.length=16) (hp:0≤e.ph∧e.ph≤8):qdP (e.t,())=some (D (qPe e),()):=by
 unfold qdP qPe qp1
 rw [show (e.t,()).1.2.2.1=e.ph from rfl]
 dsimp only
 rw [qH (show inB e.ph (len [0,1,0,0,101,201,2,0,0])=true by simp only [go_sem,Int.reduceToNat];simp;omega)]
 refine (qF rfl).trans ?_
 rw [show nth [0,1,0,0,101,201,2,0,0] (nat e.ph) 0=qNJ e.ph from rfl,show e.t.2.2.2.2.2.2.2.2.2.2.2.1.1=e.ask.1 from rfl,show e.t.2.2.2.2.2.1=e.own from rfl,show e.t.2.2.2.2.2.2.1=e.oth from rfl,show e.t.2.2.2.2.2.2.2.2.2.2.1=e.ring from rfl]
 by_cases h1:e.ask.1=qNJ e.ph∨e.ph=3∧e.ask.1=301
 ·refine (qF (a:=(false,())) ?_).trans ((qB rfl).trans ?_)
  ·rcases h1 with h1 | ⟨h1,h2⟩
   ·exact qB (bq_f h1)
   ·by_cases h3:e.ask.1=qNJ e.ph
    ·exact qB (bq_f h3)
    ·refine (qE (bq_t h3)).trans ((qB (bq_f h1)).trans ?_)
     rw [bq_f h2]
  rw [quI e hw]
  refine (qF rfl).trans ?_
  rw [xK]
  refine (qF rfl).trans ?_
  by_cases hl:qO e.ph
  ·rw [D_t hl]
   refine (qE rfl).trans ?_
   simp only [go_sem,Int.reduceToNat]
   refine zL ?_
   simp only [h1,hl,true_and,not_true_eq_false,false_and,or_false,and_assoc]
  ·rw [D_f hl]
   refine (qB rfl).trans ?_
   simp only [go_sem,Int.reduceToNat]
   refine zL ?_
   simp only [h1,hl,true_and,not_false_eq_true,false_and,false_or]
 ·rw [D_f (fun h=>h1 h.1)]
  simp only [not_or,not_and] at h1
  refine (qF (a:=(true,())) ((qE (bq_t h1.1)).trans ?_)).trans rfl
  by_cases h3:e.ph=3
  ·refine (qB (bq_f h3)).trans ?_
   rw [bq_t (h1.2 h3)]
  ·exact qE (bq_t h3)
structure y7 (e:En'):Prop where
 id:0≤e.id∧e.id≤1
 key:e.key.length=32
 ph:0≤e.ph∧e.ph≤8
 stan:0≤e.stan∧e.stan≤999999
 day:0≤e.day∧e.day≤999999
 own:z8 e.own
 oth:z8 e.oth
 seen:z8 e.seen
 seq:z8 e.seq
 store:qIB e.store
 win:qK2 e.win
 ring:y6 e.ring
 ask:qIC e.ask
 hub:qDV e.hub
 queue:qK4 e
 link:qPe e
theorem qRK (a b c d f g h i j k l:Prop):(sel (D a) (sel (D b) (sel (D c) (sel (D d) (sel (D f) (sel (D g) (sel (D h) (sel (D i) (sel (D j) (sel (D k) (some (D l,())) (some (false,()))) (some (false,()))) (some (false,()))) (some (false,()))) (some (false,()))) (some (false,()))) (some (false,()))) (some (false,()))) (some (false,()))) (some (false,())):Option (Bool×Unit)) =
  some (D (a∧b∧c∧d∧f∧g∧h∧i∧j∧k∧l),()):=by
 simp only [go_sem,Int.reduceToNat]
 try (refine zL ?_;simp only [and_assoc])
theorem qhS (e:En') (hw:e.win.2.1.length=16):x4 (e.t,())=some (D (y7 e),()):=by
 unfold x4
 dsimp only
 rw [show e.t.1=e.id from rfl,show e.t.2.1=e.key from rfl,show e.t.2.2.1=e.ph from rfl,show e.t.2.2.2.2.2.2.2.2.2.2.2.2.1=e.stan from rfl,show e.t.2.2.2.2.2.2.2.2.2.2.2.2.2.1=e.day from rfl,show e.t.2.2.2.2.2.1=e.own from rfl,show e.t.2.2.2.2.2.2.1=e.oth from rfl,show e.t.2.2.2.2.2.2.2.1=e.seen from rfl,
  show e.t.2.2.2.2.2.2.2.2.1=e.seq from rfl,show e.t.2.2.2.1=e.store from rfl,show e.t.2.2.2.2.2.2.2.2.2.1=e.win from rfl,show e.t.2.2.2.2.2.2.2.2.2.2.1=e.ring from rfl,show e.t.2.2.2.2.2.2.2.2.2.2.2.1=e.ask from rfl,show e.t.2.2.2.2.2.2.2.2.2.2.2.2.2.2.2.1=e.hub from rfl]
 by_cases h:(0≤e.id∧e.id≤1)∧e.key.length=32∧(0≤e.ph∧e.ph≤8)∧(0≤e.stan∧e.stan≤999999)∧(0≤e.day∧e.day≤999999)
 ·obtain ⟨a1,a2,a3,a4,a5⟩:=h
  refine (qF (a:=(false,())) (by simp only [go_sem,Int.reduceToNat];try exact y2 (by omega))).trans ((qB rfl).trans ?_)
  rw [jD]
  refine (qF rfl).trans ?_
  rw [jD]
  refine (qF rfl).trans ?_
  rw [jD]
  refine (qF rfl).trans ?_
  rw [jD]
  refine (qF rfl).trans ?_
  rw [qsH]
  refine (qF rfl).trans ?_
  rw [qsK _ hw]
  refine (qF rfl).trans ?_
  rw [qsJ]
  refine (qF rfl).trans ?_
  rw [qsE]
  refine (qF rfl).trans ?_
  rw [qsL]
  refine (qF rfl).trans ?_
  rw [qsC]
  refine (qF rfl).trans ?_
  dsimp only
  rw [qp0 e hw a3]
  refine (qa8 (qRK _ _ _ _ _ _ _ _ _ _ _)).trans ?_
  refine (qF rfl).trans ?_
  refine zL ?_
  constructor
  ·rintro ⟨b1,b2,b3,b4,b5,b6,b7,b8,b9,b10,b11⟩
   exact ⟨a1,a2,a3,a4,a5,b1,b2,b3,b4,b5,b6,b7,b8,b9,b10,b11⟩
  ·rintro ⟨_,_,_,_,_,b1,b2,b3,b4,b5,b6,b7,b8,b9,b10,b11⟩
   exact ⟨b1,b2,b3,b4,b5,b6,b7,b8,b9,b10,b11⟩
 ·rw [D_f (fun r=>h ⟨r.id,r.key,r.ph,r.stan,r.day⟩)]
  refine (qF (a:=(true,())) (by simp only [go_sem,Int.reduceToNat];try exact qbV (by omega))).trans ?_
  rfl
end Yp
namespace Yp
open Go
set_option maxRecDepth 100000
set_option maxHeartbeats 2000000
def qJZ (acc:Int):List BB→Int
 | []=>acc
 | x :: r=>if 9000 - acc < (x.length:Int) then 9001 else qJZ (acc+x.length) r
def qLJ (q:List BB):Int:=if 9000 < (q.length:Int) then 9001 else qJZ q.length q
theorem quZ (q:List BB):qk5 (q,9000,())=some (qLJ q,()):=by
 unfold qk5 qLJ
 dsimp only
 by_cases h0:9000 < (q.length:Int)
 ·rw [if_pos h0]
  exact (qE (lt_t h0)).trans rfl
 ·rw [if_neg h0]
  refine (qB (lt_f h0)).trans ?_
  generalize hf:(fun (x_1:Int×Int×Int×Unit)=>(_:Option (LS (Int×Int×Int×Unit) (Int×Unit))))=f
  have hl9:q.length≤9000:=by omega
  have key:∀ (n i:Nat) (acc:Int),q.length - i=n→i≤q.length→0≤acc→acc≤9000→(loop f (0,acc,(i:Int),())=some (.rt (9001,()))∧qJZ acc (q.drop i)=9001)∨(loop f (0,acc,(i:Int),())=some (.ex 0 (0,qJZ acc (q.drop i),(q.length:Int),()))):=by
   intro n
   induction n with
   | zero =>
    intro i acc hn hi ha hb
    have:i=q.length:=by omega
    subst this
    rw [List.drop_length]
    refine .inr (qV ?_)
    subst hf
    exact qB (by simp only [go_sem,Int.reduceToNat];omega)
   | succ n ih =>
    intro i acc hn hi ha hb
    have hil:i < q.length:=by omega
    have hi':i64 (iadd (i:Int) 1)=((i+1:Nat):Int):=i64n (by show (i:Int)+1=_;omega) (by omega)
    rw [List.drop_eq_getElem_cons hil]
    have e1:i64 (isub 9000 acc)=9000 - acc:=zS (by show -9223372036854775808≤9000 - acc;omega) (by show 9000 - acc≤9223372036854775807;omega)
    by_cases hx:9000 - acc < (q[i].length:Int)
    ·refine .inl ⟨qeF ?_,by rw [qJZ,if_pos hx]⟩
     subst hf
     refine (qE (by simp only [go_sem,Int.reduceToNat];omega)).trans ((qH (by simp only [go_sem,Int.reduceToNat];omega)).trans ?_)
     dsimp only
     rw [e1,qU,qL hil]
     exact (qE (lt_t hx)).trans rfl
    ·have e2:i64 (iadd acc (len q[i]))=acc+(q[i].length:Int):=zS (by show -9223372036854775808≤acc+(q[i].length:Int);omega) (by show acc+(q[i].length:Int)≤9223372036854775807;omega)
     have hst:f (0,acc,(i:Int),())=some (.nx (0,acc+(q[i].length:Int),((i+1:Nat):Int),())):=by
      subst hf
      refine (qE (by simp only [go_sem,Int.reduceToNat];omega)).trans ((qH (by simp only [go_sem,Int.reduceToNat];omega)).trans ?_)
      dsimp only
      rw [e1,qU,qL hil,e2,hi']
      refine (qB (lt_f hx)).trans ?_
      exact qH (by simp only [go_sem,Int.reduceToNat];omega)
     rw [jN hst,qJZ,if_neg hx]
     exact ih (i+1) _ (by omega) (by omega) (by omega) (by omega)
  rcases key q.length 0 q.length (by omega) (Nat.zero_le _) (by omega) (by omega) with ⟨h1,h2⟩ | h1
  ·rw [List.drop_zero] at h2
   rw [h2]
   exact (zA (show loop f (0,len q,0,())=_ from h1)).trans rfl
  ·rw [List.drop_zero] at h1
   refine (zA (show loop f (0,len q,0,())=_ from h1)).trans ?_
   exact qH g62
structure fewE (e:En'):Prop where
 store:e.store.1.length≤100∧e.store.2.1.length≤100
 ring:fewR e.ring
 hub:fewH e.hub
 key:e.key.length≤100
 ask:e.ask.2.2.2.2.1.length≤1000
 queue:qLJ e.queue≤9000
 out:e.out.length≤20
 got:e.got.length≤40
 outs:∀ x∈e.out,x.2.1.length≤1100
 gots:∀ x∈e.got,x.2.2.2.1.length≤1000
theorem qxO (e:En'):qiP (e.t,())=some (D (fewE e),()):=by
 unfold qiP
 dsimp only
 rw [show e.t.2.2.2.1=e.store from rfl,show e.t.2.2.2.2.2.2.2.2.2.2.1=e.ring from rfl,show e.t.2.2.2.2.2.2.2.2.2.2.2.2.2.2.2.1=e.hub from rfl,show e.t.2.1=e.key from rfl,show e.t.2.2.2.2.2.2.2.2.2.2.2.1=e.ask from rfl,show e.t.2.2.2.2.2.2.2.2.2.2.2.2.2.2.1=e.queue from rfl,show e.t.2.2.2.2.2.2.2.2.2.2.2.2.2.2.2.2.1=e.out from rfl,show e.t.2.2.2.2.2.2.2.2.2.2.2.2.2.2.2.2.2.1=e.got from rfl]
 rw [qxR]
 refine (qF rfl).trans ?_
 rw [qxT]
 refine (qF rfl).trans ?_
 rw [qxU]
 refine (qF rfl).trans ?_
 dsimp only
 rw [quZ]
 by_cases h:(e.store.1.length≤100∧e.store.2.1.length≤100)∧fewR e.ring∧fewH e.hub∧e.key.length≤100∧e.ask.2.2.2.2.1.length≤1000∧qLJ e.queue≤9000∧e.out.length≤20∧e.got.length≤40
 ·obtain ⟨a1,a2,a3,a4,a5,a6,a7,a8⟩:=h
  rw [D_t a1,D_t a2,D_t a3]
  refine (qF (a:=(false,())) (by simp only [go_sem,Int.reduceToNat];try exact y2 (by omega))).trans ((qB rfl).trans ?_)
  generalize hf:(fun (x_1:Bool×Int×Unit)=>sel (lt x_1.2.1 (len e.out)) _ _)=f
  generalize hg:(fun (x_1:Bool×Int×Unit)=>(_:Option (LS (Bool×Int×Unit) (Bool×Unit))))=g
  have k1:=qb5 (f:=f) e.out (fun i=>(false,(i:Int),())) 0 ((false,()):Bool×Unit) (fun x=>x.2.1.length≤1100) (fun i hi hp => ?_) (fun i hi hp => ?_) ?_
  ·have k2:=qb5 (f:=g) e.got (fun i=>(false,(i:Int),())) 2 ((false,()):Bool×Unit) (fun x=>x.2.2.2.1.length≤1000) (fun i hi hp => ?_) (fun i hi hp => ?_) ?_
   ·rcases k1 with ⟨h1,hl1⟩ | ⟨h1,hl1⟩
    ·refine (zA (show loop f (false,0,())=_ from hl1)).trans ((qH g62).trans ?_)
     rcases k2 with ⟨h2,hl2⟩ | ⟨h2,hl2⟩
     ·refine (zA (show loop g (false,0,())=_ from hl2)).trans ((qH g62).trans ?_)
      rw [D_t ⟨a1,a2,a3,a4,a5,a6,a7,a8,h1,h2⟩]
     ·refine (zA (show loop g (false,0,())=_ from hl2)).trans ?_
      rw [D_f (fun r=>h2 r.gots)];rfl
    ·refine (zA (show loop f (false,0,())=_ from hl1)).trans ?_
     rw [D_f (fun r=>h1 r.outs)];rfl
   ·subst hg
    have hi':i64 (iadd (i:Int) 1)=((i+1:Nat):Int):=i64n (by show (i:Int)+1=_;omega) (by omega)
    refine (qE (by simp only [go_sem,Int.reduceToNat];omega)).trans ((qH (by simp only [go_sem,Int.reduceToNat];omega)).trans ?_)
    dsimp only
    rw [qU,qL hi,hi']
    exact qB (by simp only [go_sem,Int.reduceToNat];omega)
   ·subst hg
    refine (qE (by simp only [go_sem,Int.reduceToNat];omega)).trans ((qH (by simp only [go_sem,Int.reduceToNat];omega)).trans ?_)
    dsimp only
    rw [qU,qL hi]
    exact qE (by simp only [go_sem,Int.reduceToNat];omega)
   ·subst hg;exact qB (by simp only [go_sem,Int.reduceToNat];omega)
  ·subst hf
   have hi':i64 (iadd (i:Int) 1)=((i+1:Nat):Int):=i64n (by show (i:Int)+1=_;omega) (by omega)
   refine (qE (by simp only [go_sem,Int.reduceToNat];omega)).trans ((qH (by simp only [go_sem,Int.reduceToNat];omega)).trans ?_)
   dsimp only
   rw [qU,qL hi,hi']
   exact qB (by simp only [go_sem,Int.reduceToNat];omega)
  ·subst hf
   refine (qE (by simp only [go_sem,Int.reduceToNat];omega)).trans ((qH (by simp only [go_sem,Int.reduceToNat];omega)).trans ?_)
   dsimp only
   rw [qU,qL hi]
   exact qE (by simp only [go_sem,Int.reduceToNat];omega)
  ·subst hf;exact qB (by simp only [go_sem,Int.reduceToNat];omega)
 ·rw [D_f (p:=fewE e) (fun r=>h ⟨r.store,r.ring,r.hub,r.key,r.ask,r.queue,r.out,r.got⟩)]
  refine (qF (a:=(true,())) ?_).trans rfl
  by_cases c1:e.store.1.length≤100∧e.store.2.1.length≤100
  ·rw [D_t c1]
   by_cases c2:fewR e.ring
   ·rw [D_t c2]
    by_cases c3:fewH e.hub
    ·rw [D_t c3]
     have c4:¬ (e.key.length≤100∧e.ask.2.2.2.2.1.length≤1000∧qLJ e.queue≤9000∧e.out.length≤20∧e.got.length≤40):=fun c4=>h ⟨c1,c2,c3,c4⟩
     simp only [go_sem,Int.reduceToNat]
     try exact qbV (by omega)
    ·rw [D_f c3];rfl
   ·rw [D_f c2];rfl
  ·rw [D_f c1];rfl
structure mayS (s:Si):Prop where
 few:fewE s.e
 prov:fewP s.p 40
 right:y7 s.e
structure qCC (e:En'):Prop where
 win:e.win.2.1.length=16
 up:e.hub.1.length=4
 feed:e.hub.2.1.length=4
 life:e.hub.2.2.1.length=4
 cnt:e.cnt.length=4
theorem qlU (s:Si) (hw:qCC s.e):qiO (s.t,())=some (D (mayS s),()):=by
 unfold qiO
 dsimp only
 rw [show qiP (s.t.1,())=_ from qxO s.e]
 refine (qF rfl).trans ?_
 rw [show qiX (s.t.2.1,40,())=_ from qxW s.p 40 (by decide)]
 refine (qF rfl).trans ?_
 rw [show x4 (s.t.1,())=_ from qhS s.e hw.win]
 simp only [go_sem,Int.reduceToNat]
 exact zL ⟨fun h=>⟨h.1,h.2.1,h.2.2⟩,fun h=>⟨h.few,h.prov,h.right⟩⟩
theorem qLs {s:Si} (hw:qCC s.e) (h:mayS s):okS 50 s:=by
 have hr:=h.right
 have hf:=h.few
 refine ⟨⟨by have:=hr.id;omega,by have:=hr.key;omega,hr.ph,hr.store,hr.own,hr.oth,hr.seq,hr.ring,hw.up,⟨hr.hub.2.1,hr.hub.2.2⟩,by have:=hf.out;omega,by have:=hf.got;omega,hw.cnt,hw.win,hw.feed,hw.life,by have:=hr.queue.1;omega⟩, ?_⟩
 have:=h.prov.1
 omega
end Yp
namespace Yp
open Go
set_option maxRecDepth 100000
set_option maxHeartbeats 2000000
theorem wN (a:Int):beq a a=true:=xH rfl
theorem qdM (a:BB):seq a a=true:=qMT rfl
theorem qKY (q:List BB) (hq:q.length≤1000000):qk4 (q,q,())=some (true,()):=by
 unfold qk4
 dsimp only
 rw [wN]
 refine (qB rfl).trans ?_
 generalize hf:(fun (x_1:Bool×Int×Unit)=>(_:Option (LS (Bool×Int×Unit) (Bool×Unit))))=f
 have step:∀ i:Nat,i < q.length→f (false,(i:Int),())=some (.nx (false,((i+1:Nat):Int),())):=by
  intro i hi
  subst hf
  have hi':i64 (iadd (i:Int) 1)=((i+1:Nat):Int):=i64n (by show (i:Int)+1=_;omega) (by omega)
  refine (qE (by simp only [go_sem,Int.reduceToNat];omega)).trans ((qH (by simp only [go_sem,Int.reduceToNat];omega)).trans ((qH (by simp only [go_sem,Int.reduceToNat];omega)).trans ?_))
  dsimp only
  rw [hi',qdM];rfl
 have hend:f (false,(q.length:Int),())=some (.ex 0 (false,(q.length:Int),())):=by subst hf;exact qB (by simp only [go_sem,Int.reduceToNat];omega)
 have hloop:=(qN (f:=f) (fun i=>(false,(i:Int),())) q.length step 0 (Nat.zero_le _)).trans (qV hend)
 exact (zA (show loop f (false,0,())=_ from hloop)).trans (qH g62)
theorem qKO (q:List qPS) (hq:q.length≤1000000):qkM (q,q,())=some (true,()):=by
 unfold qkM
 dsimp only
 rw [wN]
 refine (qB rfl).trans ?_
 generalize hf:(fun (x_1:Bool×Int×Unit)=>(_:Option (LS (Bool×Int×Unit) (Bool×Unit))))=f
 have step:∀ i:Nat,i < q.length→f (false,(i:Int),())=some (.nx (false,((i+1:Nat):Int),())):=by
  intro i hi
  subst hf
  have hi':i64 (iadd (i:Int) 1)=((i+1:Nat):Int):=i64n (by show (i:Int)+1=_;omega) (by omega)
  have hc:inB (i:Int) (len q)=true:=by simp only [go_sem,Int.reduceToNat];omega
  refine (qE (by simp only [go_sem,Int.reduceToNat];omega)).trans ((qH hc).trans ((qH hc).trans ?_))
  dsimp only
  rw [hi',wN,hc]
  refine (qF (a:=(false,())) ((qB rfl).trans ((qH rfl).trans ((qH rfl).trans ?_)))).trans rfl
  rw [qT,qdM];rfl
 have hend:f (false,(q.length:Int),())=some (.ex 0 (false,(q.length:Int),())):=by subst hf;exact qB (by simp only [go_sem,Int.reduceToNat];omega)
 have hloop:=(qN (f:=f) (fun i=>(false,(i:Int),())) q.length step 0 (Nat.zero_le _)).trans (qV hend)
 exact (zA (show loop f (false,0,())=_ from hloop)).trans (qH g62)
theorem qHq (q:List EvT) (hq:q.length≤1000000):qdQ (q,q,())=some (true,()):=by
 unfold qdQ
 dsimp only
 rw [wN]
 refine (qB rfl).trans ?_
 generalize hf:(fun (x_1:Bool×Int×Unit)=>(_:Option (LS (Bool×Int×Unit) (Bool×Unit))))=f
 have step:∀ i:Nat,i < q.length→f (false,(i:Int),())=some (.nx (false,((i+1:Nat):Int),())):=by
  intro i hi
  subst hf
  have hi':i64 (iadd (i:Int) 1)=((i+1:Nat):Int):=i64n (by show (i:Int)+1=_;omega) (by omega)
  have hc:inB (i:Int) (len q)=true:=by simp only [go_sem,Int.reduceToNat];omega
  refine (qE (by simp only [go_sem,Int.reduceToNat];omega)).trans ((qH hc).trans ((qH hc).trans ?_))
  dsimp only
  rw [hi',hc]
  generalize nth q (nat (i:Int)) (0,[0,0],0,none' UInt8,())=e
  rw [wN,wN,wN,wN,qT,qdM]
  rfl
 have hend:f (false,(q.length:Int),())=some (.ex 0 (false,(q.length:Int),())):=by subst hf;exact qB (by simp only [go_sem,Int.reduceToNat];omega)
 have hloop:=(qN (f:=f) (fun i=>(false,(i:Int),())) q.length step 0 (Nat.zero_le _)).trans (qV hend)
 exact (zA (show loop f (false,0,())=_ from hloop)).trans (qH g62)
theorem qFC:∀ l:List UInt64,all2 (fun (p q:UInt64)=>beq (n64 p) (n64 q)) l l=true
 | []=>rfl
 | a :: l=>by
  have ih:=qFC l
  unfold all2 at ih ⊢
  rw [List.zip_cons_cons,List.all_cons,ih,Bool.and_true]
  exact wN _
theorem qqU:∀ l:List Int,all2 (fun (p q:Int)=>beq p q) l l=true
 | []=>rfl
 | a :: l=>by
  have ih:=qqU l
  unfold all2 at ih ⊢
  rw [List.zip_cons_cons,List.all_cons,ih,Bool.and_true]
  exact wN _
theorem qtY {n:Nat} {e:En'} (h:okE n e) (hn:n≤1000000):yM (e.t,e.t,())=some (true,()):=by
 unfold yM
 dsimp only
 rw [quM]
 refine (qF rfl).trans ?_
 rw [qiU]
 refine (qF rfl).trans ?_
 rw [quL]
 refine (qF rfl).trans ?_
 have hq:=h.queue
 have ho:=h.out
 have hg:=h.got
 rw [show e.t.2.2.2.2.2.2.2.2.2.2.2.2.2.2.1=e.queue from rfl,qKY e.queue (by omega)]
 refine (qF rfl).trans ?_
 rw [show e.t.2.2.2.2.2.2.2.2.2.2.2.2.2.2.2.1=e.hub from rfl,qBr e.hub h.up h.feed h.life]
 refine (qF rfl).trans ?_
 rw [show e.t.2.2.2.2.2.2.2.2.2.2.2.2.2.2.2.2.1=e.out from rfl,qKO e.out (by omega)]
 refine (qF rfl).trans ?_
 rw [show e.t.2.2.2.2.2.2.2.2.2.2.2.2.2.2.2.2.2.1=e.got from rfl,qHq e.got (by omega)]
 refine (qF rfl).trans ?_
 dsimp only
 rw [qT,qdM,qFC,qqU]
 simp only [wN]
 rfl
theorem qtT {n:Nat} {s:Si} (h:okS n s) (hn:n≤1000000):zV (s.t,s.t,())=some (true,()):=by
 unfold zV
 dsimp only
 rw [show yM (s.t.1,s.t.1,())=_ from qtY h.e hn]
 refine (qF rfl).trans ?_
 have hp:=h.p
 rw [show qfD (s.t.2.1,s.t.2.1,())=_ from quW s.p (by omega)]
 rfl
theorem qvQ {n:Nat} {s:Si} (h:okS n s):okS n (wQ s):=by
 unfold wQ
 split
 ·exact wD h (yD h.e.ring)
 ·exact h
theorem qBg {n:Nat} {s:Si} (h:okS n s) (nonce:BB):okS (n+1) (newK s nonce).1:=by
 unfold newK
 repeat' split
 all_goals first | exact qaY h (by omega) | exact qD8 (qi6 h _ _) _
theorem qBe {n:Nat} {s:Si} (h:okS n s) (q:z9):okS (n+1) (offK s q):=by
 unfold offK
 repeat' split
 all_goals first | exact qaY (qu9 h 3) (by omega) | exact qs7 h _ | exact qs7 (wD h (jA (yD h.e.ring) _ _)) _ | exact qs7 (qn6 h (jA h.e.ring _ _)) _
theorem qIc {n:Nat} {s:Si} (h:okS n s) (q:z9):okS (n+1) (ansK s q):=by
 unfold ansK
 repeat' split
 all_goals first | exact qaY (qu9 h 3) (by omega) | exact qaY (qvQ h) (by omega) | exact qD8 (wD h (qcO h.e.ring)) _
end Yp
namespace Yp
open Go
set_option maxRecDepth 100000
set_option maxHeartbeats 2000000
theorem qy0 {A B C:BB} {a w:Nat} (hA:A.length=a) (hB:B.length=w):tk (A++(B++C)) a w=B:=by
 unfold tk
 rw [← hA,List.drop_left,← hB,List.take_left]
theorem qJz {b:BB} {A W:Nat} {n:Int} (hW1:1≤W) (hW:W≤8) (hl:A+W≤b.length) (h0:0≤n) (hn:n < 256 ^ W) (hL:n≤4611686018427387904) (ht:tk b A W=bigN W n):qmA b (A:Int) (W:Int)=(n,((A+W:Nat):Int),0,()):=by
 have hv:bev (tk b A W)=n.toNat:=by
  rw [ht];unfold bigN
  rw [qRf,Nat.mod_eq_of_lt]
  have:((n.toNat:Nat):Int) < ((256 ^ W:Nat):Int):=by rw [Int.toNat_of_nonneg h0];push_cast;exact hn
  exact Int.ofNat_lt.1 this
 unfold qmA
 rw [if_neg (by omega),if_neg (by omega),if_neg]
 ·rw [Int.toNat_natCast,Int.toNat_natCast,hv]
  refine Prod.ext (by dsimp only;omega) (Prod.ext (by dsimp only;omega) rfl)
 ·rintro ⟨h8,h127⟩
  have hW8:W=8:=by omega
  subst hW8
  rw [Int.toNat_natCast] at h127
  have hg:nth b A (u8 0)=(bigN 8 n)[0]'(by rw [qR];omega):=by
   have h1:0 < (tk b A 8).length:=by rw [yZ hl];omega
   have h2:(tk b A 8)[0]=b[A]:=qIm h1 (by omega)
   rw [qL (by omega:A < b.length)]
   rw [← h2];simp only [ht]
  rw [hg] at h127
  unfold bigN at h127
  rw [qIK] at h127
  unfold byt at h127
  have hq:n.toNat / 256 ^ 7 % 256≤127:=by
   have:n.toNat≤4611686018427387904:=by omega
   have e:256 ^ 7=72057594037927936:=by decide
   rw [e];omega
  rw [show 8 - 1 - 0=7 from rfl,UInt8.toNat_ofNat_of_lt' (by show _ < 256;omega)] at h127
  omega
def tkI (b:BB) (a w:Int):Int:=if (qmA b a w).2.2.1=0 then (qmA b a w).1 else -1
theorem xL (b:BB) (a w:Int) (hb:b.length≤1000000):v4 (b,a,w,())=some (tkI b a w,()):=by
 unfold v4 tkI
 dsimp only
 rw [qn5 _ _ _ hb]
 refine (qF rfl).trans ?_
 by_cases h:(qmA b a w).2.2.1=0
 ·rw [if_pos h];exact qB (bq_f h)
 ·rw [if_neg h];exact qE (bq_t h)
def noV:TEnv:=(0,0,[0,0],0,0,[],[],())
def rdV0 (b:BB):TEnv:=(tkI b 0 1,tkI b 1 1,[tkI b 2 8,tkI b 10 8],tkI b 18 4,tkI b 22 8,(b.drop 30).take (b.length - 46),b.drop (b.length - 16),())
instance (v:TEnv):Decidable (qdU v):=by unfold qdU;infer_instance
instance (v:TEnv):Decidable (qlT v):=by unfold qlT;infer_instance
def rdV (b:BB):TEnv×Int×Unit:=if b.length < 47 then (noV,3,()) else if 946 < b.length then (noV,4,()) else if qlT (rdV0 b) then (rdV0 b,0,()) else (noV,2,())
theorem quN (b:BB) (hb:b.length≤1000000):qkT (b,())=some (rdV b):=by
 unfold qkT rdV
 dsimp only
 by_cases h1:b.length < 47
 ·rw [if_pos h1];exact qE (by simp only [go_sem,Int.reduceToNat];omega)
 ·rw [if_neg h1]
  refine (qB (by simp only [go_sem,Int.reduceToNat];omega)).trans ?_
  by_cases h2:946 < b.length
  ·rw [if_pos h2];exact qE (by simp only [go_sem,Int.reduceToNat];omega)
  ·rw [if_neg h2]
   refine (qB (by simp only [go_sem,Int.reduceToNat];omega)).trans ?_
   rw [xL _ _ _ hb]
   refine (qF rfl).trans ?_
   rw [xL _ _ _ hb]
   refine (qF rfl).trans ?_
   rw [xL _ _ _ hb]
   refine (qF rfl).trans ?_
   rw [xL _ _ _ hb]
   refine (qF rfl).trans ?_
   rw [xL _ _ _ hb]
   refine (qF rfl).trans ?_
   rw [xL _ _ _ hb]
   refine (qF rfl).trans ?_
   have e:i64 (isub (len b) 16)=((b.length - 16:Nat):Int):=i64n (by show (b.length:Int) - 16=_;omega) (by omega)
   rw [e]
   refine (qH (by simp only [go_sem,Int.reduceToNat];omega)).trans ((qH (by simp only [go_sem,Int.reduceToNat];omega)).trans ?_)
   dsimp only
   have s1:sub b 30 ((b.length - 16:Nat):Int)=(b.drop 30).take (b.length - 46):=by
    unfold sub
    rw [show (30:Int).toNat=30 from rfl,Int.toNat_natCast];congr 1
   have s2:sub b ((b.length - 16:Nat):Int) (len b)=b.drop (b.length - 16):=by
    unfold sub
    rw [Int.toNat_natCast,List.take_of_length_le]
    rw [List.length_drop];show _≤(b.length:Int).toNat - _;omega
   rw [s1,s2,show w8 ((tkI b 0 1,tkI b 1 1,[tkI b 2 8,tkI b 10 8],tkI b 18 4,tkI b 22 8,(b.drop 30).take (b.length - 46),b.drop (b.length - 16),()),())=_ from qhV (rdV0 b)]
   refine (qF rfl).trans ?_
   by_cases h:qlT (rdV0 b)
   ·rw [D_t h,if_pos h];rfl
   ·rw [D_f h,if_neg h];rfl
theorem qy1 {b:BB} {A W:Nat} {n:Int} (hW1:1≤W) (hW:W≤8) (hl:A+W≤b.length) (h0:0≤n) (hn:n < 256 ^ W) (hL:n≤4611686018427387904) (ht:tk b A W=bigN W n):tkI b (A:Int) (W:Int)=n:=by
 unfold tkI
 rw [qJz hW1 hW hl h0 hn hL ht,if_pos rfl]
theorem qLb {v:TEnv} {t:BB} (hv:qdU v) (he:v.2.2.1=[e0 v,e1 v]) (ht:t.length=16):rdV (qZ v++t)=(yA v t,0,()):=by
 have hlen:(qZ v++t).length=46+v.2.2.2.2.2.1.length:=by rw [List.length_append,j8,ht];omega
 have hbody:=hv.2.2.2.2.2.2
 obtain ⟨h1,h2,h3,h4,h5,h6,h7,h8⟩:=hv
 have l1:=qR 1 v.1
 have l2:=qR 1 v.2.1
 have l3:=qR 8 (e0 v)
 have l4:=qR 8 (e1 v)
 have l5:=qR 4 v.2.2.2.1
 have l6:=qR 8 v.2.2.2.2.1
 have n2:=h2.2
 have n3:=h3.2
 have n4:=h4.2
 obtain ⟨rest,hrest⟩:∃ rest,rest=v.2.2.2.2.2.1++t:=⟨_,rfl⟩
 have hE:qZ v++t=bigN 1 v.1++(bigN 1 v.2.1++(bigN 8 (e0 v)++(bigN 8 (e1 v)++(bigN 4 v.2.2.2.1++(bigN 8 v.2.2.2.2.1++rest))))):=by unfold qZ;rw [hrest];simp only [List.append_assoc]
 have t1:tk (qZ v++t) 0 1=bigN 1 v.1:=by rw [hE];exact qy0 (A:=[]) rfl l1
 have t2:tk (qZ v++t) 1 1=bigN 1 v.2.1:=by rw [hE];exact qy0 l1 l2
 have t3:tk (qZ v++t) 2 8=bigN 8 (e0 v):=by rw [hE,← List.append_assoc];exact qy0 (by rw [List.length_append,l1,l2]) l3
 have t4:tk (qZ v++t) 10 8=bigN 8 (e1 v):=by rw [hE,← List.append_assoc,← List.append_assoc];exact qy0 (by simp only [List.length_append,l1,l2,l3]) l4
 have t5:tk (qZ v++t) 18 4=bigN 4 v.2.2.2.1:=by rw [hE,← List.append_assoc,← List.append_assoc,← List.append_assoc];exact qy0 (by simp only [List.length_append,l1,l2,l3,l4]) l5
 have t6:tk (qZ v++t) 22 8=bigN 8 v.2.2.2.2.1:=by rw [hE,← List.append_assoc,← List.append_assoc,← List.append_assoc,← List.append_assoc];exact qy0 (by simp only [List.length_append,l1,l2,l3,l4,l5]) l6
 have hz:rdV0 (qZ v++t)=yA v t:=by
  unfold rdV0 yA
  have q1:tkI (qZ v++t) 0 1=v.1:=qy1 (A:=0) (W:=1) (by omega) (by omega) (by omega) (by omega) (by omega) (by omega) t1
  have q2:tkI (qZ v++t) 1 1=v.2.1:=qy1 (A:=1) (W:=1) (by omega) (by omega) (by omega) (by omega) (by omega) (by omega) t2
  have q3:tkI (qZ v++t) 2 8=e0 v:=qy1 (A:=2) (W:=8) (by omega) (by omega) (by omega) h2.1 (by omega) n2 t3
  have q4:tkI (qZ v++t) 10 8=e1 v:=qy1 (A:=10) (W:=8) (by omega) (by omega) (by omega) h3.1 (by omega) n3 t4
  have q5:tkI (qZ v++t) 18 4=v.2.2.2.1:=qy1 (A:=18) (W:=4) (by omega) (by omega) (by omega) h6.1 (by omega) (by omega) t5
  have q6:tkI (qZ v++t) 22 8=v.2.2.2.2.1:=qy1 (A:=22) (W:=8) (by omega) (by omega) (by omega) h4.1 (by omega) n4 t6
  have hpre:(bigN 1 v.1++bigN 1 v.2.1++bigN 8 (e0 v)++bigN 8 (e1 v)++bigN 4 v.2.2.2.1++bigN 8 v.2.2.2.2.1).length=30:=by simp only [List.length_append,l1,l2,l3,l4,l5,l6]
  have q7:((qZ v++t).drop 30).take ((qZ v++t).length - 46)=v.2.2.2.2.2.1:=by
   rw [hlen]
   unfold qZ
   rw [List.append_assoc,← hpre,List.drop_left,Nat.add_sub_cancel_left,List.take_left]
  have q8:(qZ v++t).drop ((qZ v++t).length - 16)=t:=by
   rw [hlen,show 46+v.2.2.2.2.2.1.length - 16=(qZ v).length by rw [j8];omega,List.drop_left]
  rw [q1,q2,q3,q4,q5,q6,q7,q8,← he]
 unfold rdV
 rw [if_neg (by omega),if_neg (by omega),hz,if_pos]
 exact ⟨⟨h1,h2,h3,h4,h5,h6,h7,h8⟩,ht⟩
end Yp
namespace Yp
open Go
set_option maxRecDepth 100000
set_option maxHeartbeats 2000000
theorem qN4 {a:Int} (h:0≤a):n8 (u8 a)=a % 256:=by
 show (((BitVec.ofNat 8 ((a % 2 ^ 8).toNat)).toNat:Nat):Int)=a % 256
 rw [BitVec.toNat_ofNat];omega
theorem qPn (x:BB) (hx:x.length≤1024):256*n8 (u8 (shrI .i64 (len x) (n64 (u64 8))))+n8 (u8 (len x))=(x.length:Int):=by
 have a2:shrI .i64 (len x) (n64 (u64 8))=((x.length / 256:Nat):Int):=by show Int.fdiv (x.length:Int) (2 ^ 8)=_;rw [Int.fdiv_eq_ediv_of_nonneg _ (by decide)];omega
 rw [a2,qN4 (by omega),qN4 (by show (0:Int)≤(x.length:Int);omega)]
 show 256*(((x.length / 256:Nat):Int) % 256)+(x.length:Int) % 256=_
 omega
theorem qOW {b:BB} {n:Nat} {c:UInt8} (hb1:b.length≤2000) (hn:1≤n∧n≤1024) (hl:b.length+1 < n+2) (hnum:2≤b.length+1→256*n8 (nth (b++[c]) 0 (u8 0))+n8 (nth (b++[c]) 1 (u8 0))=(n:Int)):qfB ((b,0,0,()),c,())=some ((b++[c],0,0,()),[],()):=by
 unfold qfB
 refine (qB rfl).trans ?_
 dsimp only
 rw [show app (app (none' UInt8) b) [c]=b++[c] from rfl,show app (none' UInt8) b=b from rfl]
 refine (qH (by simp only [go_sem,Int.reduceToNat];omega)).trans ((qH (by simp only [go_sem,Int.reduceToNat];simp;omega)).trans ?_)
 have hlen:(b++[c]).length=b.length+1:=by simp
 by_cases h2:b.length+1 < 2
 ·exact qE (by simp only [go_sem,Int.reduceToNat];omega)
 ·refine (qB (by simp only [go_sem,Int.reduceToNat];omega)).trans ?_
  refine (qH (by simp only [go_sem,Int.reduceToNat];omega)).trans ((qH (by simp only [go_sem,Int.reduceToNat];omega)).trans ?_)
  have hnum:=hnum (by omega)
  rw [show nat 0=0 from rfl,show nat 1=1 from rfl]
  have hx:=qzG (nth (b++[c]) 0 (u8 0))
  have hy:=qzG (nth (b++[c]) 1 (u8 0))
  generalize n8 (nth (b++[c]) 0 (u8 0))=x at hx hnum
  generalize n8 (nth (b++[c]) 1 (u8 0))=y at hy hnum
  have e:i64 (iadd (i64 (imul 256 (i64 x))) (i64 y))=(n:Int):=by
   rw [show i64 x=x from zS (by omega) (by omega),show i64 y=y from zS (by omega) (by omega),show i64 (imul 256 x)=256*x from zS (by show -9223372036854775808≤256*x;omega) (by show 256*x≤9223372036854775807;omega)]
   rw [← hnum]
   exact zS (by show -9223372036854775808≤256*x+y;omega) (by show 256*x+y≤9223372036854775807;omega)
  rw [e,show i64 (iadd (n:Int) 2)=((n+2:Nat):Int) from i64n (by show (n:Int)+2=_;omega) (by omega)]
  refine (qF (a:=(false,())) ((qB (vM (by omega))).trans (by rw [lt_f (by omega)]))).trans ((qB rfl).trans ?_)
  exact qE (by simp only [go_sem,Int.reduceToNat];omega)
theorem qOX {b:BB} {n:Nat} {c:UInt8} (hn:1≤n∧n≤1024) (hl:b.length+1=n+2) (hnum:256*n8 (nth (b++[c]) 0 (u8 0))+n8 (nth (b++[c]) 1 (u8 0))=(n:Int)):qfB ((b,0,0,()),c,())=some (noF,(b++[c]).drop 2,()):=by
 unfold qfB
 refine (qB rfl).trans ?_
 dsimp only
 rw [show app (app (none' UInt8) b) [c]=b++[c] from rfl,show app (none' UInt8) b=b from rfl]
 refine (qH (by simp only [go_sem,Int.reduceToNat];omega)).trans ((qH (by simp only [go_sem,Int.reduceToNat];simp;omega)).trans ?_)
 have hlen:(b++[c]).length=b.length+1:=by simp
 refine (qB (by simp only [go_sem,Int.reduceToNat];omega)).trans ?_
 refine (qH (by simp only [go_sem,Int.reduceToNat];omega)).trans ((qH (by simp only [go_sem,Int.reduceToNat];omega)).trans ?_)
 rw [show nat 0=0 from rfl,show nat 1=1 from rfl]
 have hx:=qzG (nth (b++[c]) 0 (u8 0))
 have hy:=qzG (nth (b++[c]) 1 (u8 0))
 generalize n8 (nth (b++[c]) 0 (u8 0))=x at hx hnum
 generalize n8 (nth (b++[c]) 1 (u8 0))=y at hy hnum
 have e:i64 (iadd (i64 (imul 256 (i64 x))) (i64 y))=(n:Int):=by
  rw [show i64 x=x from zS (by omega) (by omega),show i64 y=y from zS (by omega) (by omega),show i64 (imul 256 x)=256*x from zS (by show -9223372036854775808≤256*x;omega) (by show 256*x≤9223372036854775807;omega)]
  rw [← hnum]
  exact zS (by show -9223372036854775808≤256*x+y;omega) (by show 256*x+y≤9223372036854775807;omega)
 rw [e,show i64 (iadd (n:Int) 2)=((n+2:Nat):Int) from i64n (by show (n:Int)+2=_;omega) (by omega)]
 refine (qF (a:=(false,())) ((qB (vM (by omega))).trans (by rw [lt_f (by omega)]))).trans ((qB rfl).trans ?_)
 refine (qB (by simp only [go_sem,Int.reduceToNat];omega)).trans ?_
 refine (qH (by simp only [go_sem,Int.reduceToNat];omega)).trans ?_
 have hc:cut (b++[c]) (nat 2) (nsub (nat (len (b++[c]))) (nat 2))=(b++[c]).drop 2:=by
  unfold cut
  rw [show nat 2=2 from rfl,List.take_of_length_le (by rw [List.length_drop];show _≤((b++[c]).length:Int).toNat - 2;omega)]
 rw [hc];rfl
theorem qL4 (x:BB) (hx:1≤x.length∧x.length≤1024):qkL (kF x,())=some (x,()):=by
 unfold qkL qp5
 dsimp only
 generalize hf:(fun (x_1:List BB×Int×FT×Unit)=>(_:Option (LS (List BB×Int×FT×Unit) (FT×List BB×Unit))))=f
 have hl:(kF x).length=x.length+2:=qq5 x
 have hnum:∀ i,2≤i→256*n8 (nth ((kF x).take i) 0 (u8 0))+n8 (nth ((kF x).take i) 1 (u8 0))=(x.length:Int):=by
  intro i hi
  obtain ⟨j,rfl⟩:∃ j,i=j+2:=⟨i - 2,by omega⟩
  rw [← qPn x hx.2];rfl
 have tk1:∀ i (h:i < (kF x).length),(kF x).take i++[nth (kF x) (nat (i:Int)) (u8 0)]=(kF x).take (i+1):=fun i h=>by rw [qU,qL h,List.take_succ_eq_append_getElem h]
 have step:∀ i:Nat,i < x.length+1→f ([],(i:Int),((kF x).take i,0,0,()),())=some (.nx ([],((i+1:Nat):Int),((kF x).take (i+1),0,0,()),())):=by
  intro i hi
  subst hf
  have hi':i64 (iadd (i:Int) 1)=((i+1:Nat):Int):=i64n (by show (i:Int)+1=_;omega) (by omega)
  have htl:((kF x).take i).length=i:=by rw [List.length_take];omega
  refine (qE (by simp only [go_sem,Int.reduceToNat];omega)).trans ((qH (by simp only [go_sem,Int.reduceToNat];omega)).trans ?_)
  dsimp only
  rw [qOW (n:=x.length) (by omega) hx (by omega) (fun h=>by rw [tk1 i (by omega)];exact hnum _ (by omega)),tk1 i (by omega),hi']
  rfl
 have hlast:f ([],((x.length+1:Nat):Int),((kF x).take (x.length+1),0,0,()),())=some (.nx ([x],((x.length+2:Nat):Int),noF,())):=by
  subst hf
  have hi':i64 (iadd ((x.length+1:Nat):Int) 1)=((x.length+2:Nat):Int):=i64n (by show ((x.length+1:Nat):Int)+1=_;omega) (by omega)
  have htl:((kF x).take (x.length+1)).length=x.length+1:=by rw [List.length_take];omega
  refine (qE (by simp only [go_sem,Int.reduceToNat];omega)).trans ((qH (by simp only [go_sem,Int.reduceToNat];omega)).trans ?_)
  dsimp only
  rw [qOX (n:=x.length) hx (by omega) (by rw [tk1 _ (by omega)];exact hnum _ (by omega)),tk1 _ (by omega),hi',List.take_of_length_le (by omega)]
  rw [show (kF x).drop 2=x from rfl]
  refine (qF rfl).trans ((qE (by simp only [go_sem,Int.reduceToNat];omega)).trans ((qH (by simp only [go_sem,Int.reduceToNat];simp)).trans ?_))
  rfl
 have hend:f ([x],((x.length+2:Nat):Int),noF,())=some (.ex 0 ([x],((x.length+2:Nat):Int),noF,())):=by subst hf;exact qB (by simp only [go_sem,Int.reduceToNat];omega)
 have hloop:=(qN (f:=f) (fun i=>([],(i:Int),((kF x).take i,0,0,()),())) (x.length+1) step 0 (Nat.zero_le _)).trans ((jN hlast).trans (qV hend))
 refine (qa8 (zA (show loop f (none' BB,0,(none' UInt8,0,0,()),())=_ from hloop))).trans ?_
 rfl
theorem qvF {σ ρ:Type} {f:σ→Option (LS σ ρ)} (P:Nat→σ→Prop) (Q:σ→Prop) (n e:Nat) (hs:∀ i,i < n→∀ x,P i x→∃ y,f x=some (.nx y)∧P (i+1) y) (he:∀ x,P n x→∃ y,f x=some (.ex e y)∧Q y) {x:σ} (h0:P 0 x):∃ y,loop f x=some (.ex e y)∧Q y:=by
 have key:∀ k i x,i+k=n→P i x→∃ y,loop f x=some (.ex e y)∧Q y:=by
  intro k
  induction k with
  | zero =>
   intro i x hi hp
   have:i=n:=by omega
   subst this
   obtain ⟨y,h1,h2⟩:=he x hp
   exact ⟨y,qV h1,h2⟩
  | succ k ih =>
   intro i x hi hp
   obtain ⟨y,h1,h2⟩:=hs i (by omega) x hp
   rw [jN h1]
   exact ih (i+1) y (by omega) h2
 exact key n 0 x (by omega) h0
theorem qJy (w:WT) (hw:w.2.1.length=16) (h0:0≤w.1) (hT:w.1≤1000000):∃ l:List Int,qgG (w,())=some (l,())∧(∀ m∈l,0≤m∧m < w.1)∧l.length≤1000000:=by
 unfold qgG
 dsimp only
 obtain ⟨T,hT'⟩:∃ T:Nat,w.1=(T:Int):=⟨w.1.toNat,by omega⟩
 obtain ⟨a,ha⟩:∃ a:Nat,maxI 0 (i64 (isub w.1 1024))=(a:Int)∧a≤T:=by
  rw [show i64 (isub w.1 1024)=w.1 - 1024 from zS (by show -9223372036854775808≤w.1 - 1024;omega) (by show w.1 - 1024≤9223372036854775807;omega),g58]
  exact ⟨(max 0 (w.1 - 1024)).toNat,by omega,by omega⟩
 rw [ha.1]
 generalize hf:(fun (x_1:List Int×Int×Unit)=>(_:Option (LS (List Int×Int×Unit) (List Int×Unit))))=f
 have key:=qvF (f:=f) (fun i x=>x.2.1=((a+i:Nat):Int)∧(∀ m∈x.1,0≤m∧m < w.1)∧x.1.length≤i) (fun x=>(∀ m∈x.1,0≤m∧m < w.1)∧x.1.length≤1000000) (T - a) 0 (fun i hi x hp => ?_) (fun x hp => ?_) (x:=(none' Int,(a:Int),())) ⟨rfl,fun m hm=>(List.not_mem_nil hm).elim,Nat.le_refl _⟩
 ·obtain ⟨⟨l,j,⟨⟩⟩,h1,h2,h3⟩:=key
  exact ⟨l,(zA h1).trans (qH g62),h2,h3⟩
 ·subst hf
  obtain ⟨l,j,⟨⟩⟩:=x
  obtain ⟨p1,p2,p3⟩:=hp
  dsimp only at p1 p2 p3
  subst p1
  have hi':i64 (iadd ((a+i:Nat):Int) 1)=((a+(i+1):Nat):Int):=i64n (by show ((a+i:Nat):Int)+1=_;omega) (by omega)
  have hm:imod ((a+i:Nat):Int) 1024=(((a+i) % 1024:Nat):Int):=by rw [g32 (by omega)];omega
  have e1:∀ (A B:Option (LS (List Int×Int×Unit) (List Int×Unit))),sel (lt ((a+i:Nat):Int) w.1) A B=A:=fun A B=>qE (lt_t (by omega))
  dsimp only
  rw [e1,hm,qaX w hw _ (by omega),hi']
  cases hb:bitW w ((a+i) % 1024)
  ·exact ⟨(l,((a+(i+1):Nat):Int),()),rfl,rfl,p2,by dsimp only;omega⟩
  ·refine ⟨(l++[((a+i:Nat):Int)],((a+(i+1):Nat):Int),()),(qF rfl).trans ((qE rfl).trans (qH (by simp only [go_sem,Int.reduceToNat];simp;omega))),rfl,fun m hm => ?_,by simp;omega⟩
   rcases List.mem_append.1 hm with h | h
   ·exact p2 m h
   ·rw [List.mem_singleton] at h;omega
 ·subst hf
  obtain ⟨l,j,⟨⟩⟩:=x
  obtain ⟨p1,p2,p3⟩:=hp
  dsimp only at p1 p2 p3
  refine ⟨(l,j,()),qB (lt_f (by dsimp only;omega)),p2,by dsimp only;omega⟩
theorem qJV (w:WT) (hw:w.2.1.length=16) (h0:0≤w.1) (n:Int) (hn:w.1≤n) (hn2:n≤900000):∃ bs:List UInt64,qfA (w,n,())=some ((n+1,bs,()),0,())∧bs.length=16:=by
  unfold qfA
  dsimp only
  obtain ⟨l,hl,hm,hll⟩:=qJy w hw h0 (by omega)
  have e0:i64 (isub w.1 1024)=w.1 - 1024:=zS (by show -9223372036854775808≤w.1 - 1024;omega) (by show w.1 - 1024≤9223372036854775807;omega)
  have hfresh:qgI (w,n,())=some (true,()):=by
    unfold qgI
    dsimp only
    rw [e0]
    refine (qF (a:=(false,())) (by simp only [go_sem,Int.reduceToNat];try exact y2 (by omega))).trans ((qB rfl).trans ?_)
    refine (qF (a:=(true,())) (qE (le_t hn))).trans rfl
  have e1:i64 (iadd n 1)=n+1:=zS (by show -9223372036854775808≤n+1;omega) (by show n+1≤9223372036854775807;omega)
  have e2:i64 (isub (n+1) 1024)=n+1 - 1024:=zS (by show -9223372036854775808≤n+1 - 1024;omega) (by show n+1 - 1024≤9223372036854775807;omega)
  generalize hf:(fun (x_1:List Int×Int×Unit)=>(1:Nat))=dummy
  have main:∃ bs:List UInt64,(lc (loop (fun (x_1:Int×(Int×List UInt64×Unit)×Unit) =>
    sel (lt x_1.1 (len (app l [n])))
    (ck (inB x_1.1 (len (app l [n])))
    (ck (inB x_1.1 (len (app l [n])))
    (sel (le (n+1 - 1024) (nth (app l [n]) (nat x_1.1) 0))
    (ck (inB (i64 (idiv (imod (nth (app l [n]) (nat x_1.1) 0) 1024) 64)) (ofn 16))
    (ob (qaC (imod (imod (nth (app l [n]) (nat x_1.1) 0) 1024) 64,()))
    fun (a:UInt64×Unit) =>
    ck (inB (i64 (idiv (imod (nth (app l [n]) (nat x_1.1) 0) 1024) 64)) (ofn 16))
    (some (LS.nx (i64 (iadd x_1.1 1),(x_1.2.1.1,upd x_1.2.1.2.1 (nat (i64 (idiv (imod (nth (app l [n]) (nat x_1.1) 0) 1024) 64)))
    (u64 (iadd (n64 (nth x_1.2.1.2.1 (nat (i64 (idiv (imod (nth (app l [n]) (nat x_1.1) 0) 1024) 64))) (u64 0))) (n64 a.1))),x_1.2.1.2.2),())))))
    (some (LS.nx (i64 (iadd x_1.1 1),x_1.2.1,()))))))
    (some (LS.ex 0 (x_1.1,x_1.2.1,()))))
   (0,(n+1,noW.2.1,()),()))
   (fun (a:Int×(Int×List UInt64×Unit)×Unit)=>none)
   (fun (i:Nat) (a:Int×(Int×List UInt64×Unit)×Unit)=>ck (neb i 0) (some (a.2.1,0,())))
   (fun (r:(Int×List UInt64×Unit)×Int×Unit)=>some r))=some ((n+1,bs,()),0,())∧bs.length=16:=by
    rw [show app l [n]=l++[n] from rfl]
    have hall:∀ m∈l++[n],0≤m:=by
      intro m h
      rcases List.mem_append.1 h with h | h
      · exact (hm m h).1
      · rw [List.mem_singleton] at h;omega
    have hlen:(l++[n]).length=l.length+1:=by simp
    generalize l++[n]=q at hall hlen
    generalize hg:(fun (x_1:Int×(Int×List UInt64×Unit)×Unit)=>(_:Option (LS (Int×(Int×List UInt64×Unit)×Unit) ((Int×List UInt64×Unit)×Int×Unit))))=g
    have key:=qvF (f:=g) (fun i x=>x.1=(i:Int)∧x.2.1.1=n+1∧x.2.1.2.1.length=16) (fun x=>x.2.1.1=n+1∧x.2.1.2.1.length=16) q.length 0 (fun i hi x hp => ?_) (fun x hp => ?_) (x:=(0,(n+1,noW.2.1,()),())) ⟨rfl,rfl,rfl⟩
    · obtain ⟨⟨j,⟨t,bs,⟨⟩⟩,⟨⟩⟩,h1,h2,h3⟩:=key
      dsimp only at h2 h3
      subst h2
      exact ⟨bs,(zA h1).trans (qH g62),h3⟩
    · subst hg
      obtain ⟨j,⟨t,bs,⟨⟩⟩,⟨⟩⟩:=x
      obtain ⟨p1,p2,p3⟩:=hp
      dsimp only at p1 p2 p3
      subst p1
      have hi':i64 (iadd (i:Int) 1)=((i+1:Nat):Int):=i64n (by show (i:Int)+1=_;omega) (by omega)
      have hq:=hall q[i] (List.getElem_mem hi)
      dsimp only
      have e3:nth q (nat (i:Int)) 0=q[i]:=by rw [qU,qL hi]
      rw [hi',e3]
      generalize q[i]=m at hq
      have e4:imod m 1024=((m.toNat % 1024:Nat):Int):=by rw [g32 hq];omega
      have e5:i64 (idiv (((m.toNat % 1024:Nat):Int)) 64)=((m.toNat % 1024 / 64:Nat):Int):=by rw [g31 (by omega)];exact i64n (by omega) (by omega)
      have e6:imod (((m.toNat % 1024:Nat):Int)) 64=((m.toNat % 1024 % 64:Nat):Int):=by rw [g32 (by omega)];omega
      rw [e4,e5,e6,qhW _ (by omega)]
      by_cases hc:n+1 - 1024≤m
      · exact ⟨_,(qE (by simp only [go_sem,Int.reduceToNat];omega)).trans ((qH (by simp only [go_sem,Int.reduceToNat];omega)).trans ((qH (by simp only [go_sem,Int.reduceToNat];omega)).trans ((qE (le_t hc)).trans ((qH (by simp only [go_sem,Int.reduceToNat];omega)).trans ((qF rfl).trans (qH (by simp only [go_sem,Int.reduceToNat];omega))))))),rfl,p2,by show (upd bs _ _).length=16;unfold upd;rw [List.length_set];exact p3⟩
      · exact ⟨_,(qE (by simp only [go_sem,Int.reduceToNat];omega)).trans ((qH (by simp only [go_sem,Int.reduceToNat];omega)).trans ((qH (by simp only [go_sem,Int.reduceToNat];omega)).trans (qB (le_f hc)))),rfl,p2,p3⟩
    · subst hg
      obtain ⟨j,⟨t,bs,⟨⟩⟩,⟨⟩⟩:=x
      obtain ⟨p1,p2,p3⟩:=hp
      dsimp only at p1 p2 p3
      exact ⟨_,qB (lt_f (by dsimp only;rw [p1];show ¬ (q.length:Int) < (q.length:Int);omega)),p2,p3⟩
  obtain ⟨bs,hmain,hbs⟩:=main
  refine ⟨bs, ?_,hbs⟩
  refine (qF (a:=(false,())) (by simp only [go_sem,Int.reduceToNat];try exact y2 (by omega))).trans ((qB rfl).trans ?_)
  rw [hfresh]
  refine (qF rfl).trans ((qB rfl).trans ?_)
  refine (qF (a:=(n+1,())) ((qE (le_t hn)).trans (by rw [e1]))).trans ?_
  rw [hl]
  refine (qF rfl).trans ((qH (by simp only [go_sem,Int.reduceToNat];simp;omega)).trans ?_)
  dsimp only
  rw [e2]
  exact hmain
end Yp
namespace Yp
open Go
set_option maxRecDepth 100000
set_option maxHeartbeats 2000000
structure hears (a:En') (r:En'):Prop where
 id:r.id=1 - a.id
 pair:wC r=wC a
 ph:qO r.ph
 gen:1≤a.ring.1.1
 find:qvW r.ring a.ring.1.1=(a.ring.1.2.1,true,())
 win:r.win.1≤a.seq∧0≤r.win.1
 seq:a.seq≤900000
theorem qM9 (e:En'):wC e=[nth (wC e) 0 0,nth (wC e) 1 0]:=by
 unfold wC
 split
 ·rfl
 ·split <;> rfl
theorem qRv {i:Int} (h:i=0∨i=1):i64 (isub 1 i)=1 - i:=zS (by show -9223372036854775808≤1 - i;omega) (by show 1 - i≤9223372036854775807;omega)
theorem qMR {n m:Nat} {a r:En'} (ha:okE n a) (hr:okE m r) (h:hears a r) (b t:BB):qf7 (r.t,yA (jQ a b) t,())=some (false,()):=by
 unfold qf7
 dsimp only
 rw [show r.t.1=r.id from rfl,show r.t.2.2.1=r.ph from rfl,show (yA (jQ a b) t).2.1=a.id from rfl,show (yA (jQ a b) t).1=2 from rfl,show (yA (jQ a b) t).2.2.1=wC a from rfl,show (yA (jQ a b) t).2.2.2.1=a.ring.1.1 from rfl,show r.t.2.2.2.2.2.2.2.2.2.2.1=r.ring from rfl,qRv hr.id]
 have h7:=h.ph
 have hid:=h.id
 have hrid:=hr.id
 unfold qO at h7
 refine (qF (a:=(false,())) ((qB (bq_f (by omega))).trans ((qB (vM (by omega))).trans (by rw [vM (by omega)])))).trans ((qB rfl).trans ((qB rfl).trans ?_))
 rw [vR,h.pair]
 refine (qF rfl).trans ?_
 rw [xK,D_t h.ph]
 refine (qF rfl).trans ?_
 rw [qiV,h.find]
 refine (qF rfl).trans ?_
 dsimp only
 refine (qF (a:=(false,())) ?_).trans rfl
 refine (qB rfl).trans ((qB rfl).trans ((qH rfl).trans ((qH rfl).trans ((qB (bq_f rfl)).trans ((qH rfl).trans ((qH rfl).trans ?_))))))
 rw [bq_f rfl]
def qoK (r:En') (g:Int):z6:=if r.ring.2.2.1.1=g∧¬ r.ph=4 then (qbI r.ring).1 else r.ring
theorem qM8 (p:qbH) (k b:BB):pchk (ptag p k b) k b (kB k b)=(ptag p k b,true,()):=by
 unfold pchk
 rw [if_pos rfl,if_pos]
 unfold ptag
 split
 ·assumption
 ·simp
theorem qKE {n m:Nat} {a r:En'} {p:qbH} (ha:okE n a) (hr:okE m r) (hp:p.2.1.length≤900000) (h:hears a r) {b:BB} (hb:qeL b):∃ bs:List UInt64,bs.length=16 ∧
  qe3 ((r.t,ptag p a.ring.1.2.1 (qZ (jQ a b)),()),qZ (jQ a b)++kB a.ring.1.2.1 (qZ (jQ a b)),()) =
   some (({ r with win:=(a.seq+1,bs,()),ring:=qoK r a.ring.1.1 }.t,ptag p a.ring.1.2.1 (qZ (jQ a b)),()),yA (jQ a b) (kB a.ring.1.2.1 (qZ (jQ a b))),0,()):=by
 have hv:=qmF ha hb
 have ht:=qbZ a.ring.1.2.1 (qZ (jQ a b))
 have hl:=j8 (jQ a b)
 have hbl:(jQ a b).2.2.2.2.2.1=b:=rfl
 have hb2:=hb.2
 have hkey:=hr.key
 have hrk:=qkK ha.ring
 obtain ⟨bs,hm,hbs⟩:=qJV r.win hr.win h.win.2 a.seq h.win.1 h.seq
 refine ⟨bs,hbs, ?_⟩
 unfold qe3
 dsimp only
 rw [quN _ (by rw [List.length_append,ht,hl,hbl];omega),qLb hv (show (jQ a b).2.2.1=_ from qM9 a) ht]
 refine (qF rfl).trans ((qB rfl).trans ?_)
 dsimp only
 generalize htg:kB a.ring.1.2.1 (qZ (jQ a b))=t at ht
 rw [qMR ha hr h b t]
 refine (qF rfl).trans ((qB rfl).trans ?_)
 rw [show r.t.2.1=r.key from rfl,qcQ _ (by omega)]
 refine (qF rfl).trans ((qE rfl).trans ?_)
 rw [show r.t.2.2.2.2.2.2.2.2.2.2.1=r.ring from rfl,show (yA (jQ a b) t).2.2.2.1=a.ring.1.1 from rfl,qiV,h.find]
 refine (qF rfl).trans ?_
 rw [qbK (yA (jQ a b) t) hv,show qZ (yA (jQ a b) t)=qZ (jQ a b) from rfl]
 refine (qF rfl).trans ?_
 dsimp only
 have hpl:(ptag p a.ring.1.2.1 (qZ (jQ a b))).2.1.length≤900001:=by
  unfold ptag;split
  ·omega
  ·dsimp only;rw [List.length_append,List.length_singleton];omega
 rw [qsQ _ _ _ _ (by omega) (by omega) (by rw [hl,hbl];omega),show (yA (jQ a b) t).2.2.2.2.2.2.1=t from rfl,← htg,qM8]
 refine (qF rfl).trans ((qB rfl).trans ((qB rfl).trans ?_))
 rw [show r.t.2.2.2.2.2.2.2.2.2.1=r.win from rfl,show (yA (jQ a b) (kB a.ring.1.2.1 (qZ (jQ a b)))).2.2.2.2.1=a.seq from rfl,hm]
 refine (qF rfl).trans ((qB rfl).trans ?_)
 rw [show r.t.2.2.1=r.ph from rfl]
 unfold qoK
 by_cases h1:r.ring.2.2.1.1=a.ring.1.1
 ·by_cases h2:r.ph=4
  ·rw [if_neg (fun q=>q.2 h2)]
   refine (qF (a:=(false,())) ((qE (xH h1)).trans (by rw [bq_f h2]))).trans ((qB rfl).trans rfl)
  ·rw [if_pos ⟨h1,h2⟩]
   refine (qF (a:=(true,())) ((qE (xH h1)).trans (by rw [bq_t h2]))).trans ((qE rfl).trans ?_)
   rw [qcV _ (quF hr.ring)]
   rfl
 ·rw [if_neg (fun q=>h1 q.1)]
  refine (qF (a:=(false,())) (qB (vM h1))).trans ((qB rfl).trans rfl)
theorem qIx {s:Si} {b:BB} (hb:qeL b) (hl:qO s.e.ph) (hq:s.e.seq≤900000) (hh:(v5 s.e.hub).2.2.1=0):qa4 s b =
  (⟨{ s.e with hub:=(v5 s.e.hub).1,out:=s.e.out++[((v5 s.e.hub).2.1,kF (qZ (jQ s.e b)++kB s.e.ring.1.2.1 (qZ (jQ s.e b))),())],seq:=s.e.seq+1 },ptag s.p s.e.ring.1.2.1 (qZ (jQ s.e b))⟩,0):=by
 unfold qa4 qhB
 rw [if_neg (not_not_intro hb),if_neg (not_not_intro hl),if_neg (by omega),if_pos hh]
 rfl
theorem qKm {n m:Nat} {s r:Si} (hs:okS n s) (hr:okS m r) (hn:n≤900000) (h:hears s.e r.e) {b:BB} (hb:qeL b) (hl:qO s.e.ph) (hh:(v5 s.e.hub).2.2.1=0) {k:z9} (hk:rdN b=(k,0,())):∃ bs:List UInt64,bs.length=16 ∧
  qW ((qa4 s b).1.t,r.t,())=some ((⟨{ r.e with win:=(s.e.seq+1,bs,()),ring:=qoK r.e s.e.ring.1.1 },(qa4 s b).1.p⟩:Si).t,k,true,()):=by
 have hp:=hs.p
 obtain ⟨bs,hbs,ht⟩:=qKE (p:=s.p) hs.e hr.e (by omega) h hb
 refine ⟨bs,hbs, ?_⟩
 rw [qIx hb hl h.seq hh]
 have ho:=hs.e.out
 generalize hx:qZ (jQ s.e b)++kB s.e.ring.1.2.1 (qZ (jQ s.e b))=x at ht
 have hxl:x.length=46+b.length:=by rw [← hx,List.length_append,qbZ,j8,show (jQ s.e b).2.2.2.2.2.1=b from rfl];omega
 have hb1:=hb.1
 have hb2:=hb.2
 unfold qW
 dsimp only
 rw [show (⟨{ s.e with hub:=(v5 s.e.hub).1,out:=s.e.out++[((v5 s.e.hub).2.1,kF x,())],seq:=s.e.seq+1 },ptag s.p s.e.ring.1.2.1 (qZ (jQ s.e b))⟩:Si).t.1.2.2.2.2.2.2.2.2.2.2.2.2.2.2.2.2.1=s.e.out++[((v5 s.e.hub).2.1,kF x,())] from rfl]
 have e1:i64 (isub (len (s.e.out++[((v5 s.e.hub).2.1,kF x,())])) 1)=(s.e.out.length:Int):=i64n (by show (((s.e.out++[_]).length:Nat):Int) - 1=_;rw [List.length_append,List.length_singleton];omega) (by omega)
 rw [e1]
 refine (qB (vM (by show ¬ (((s.e.out++[_]).length:Nat):Int)=0;rw [List.length_append,List.length_singleton];omega))).trans ((qH (by simp only [go_sem,Int.reduceToNat];simp;omega)).trans ?_)
 rw [show nth (s.e.out++[((v5 s.e.hub).2.1,kF x,())]) (nat (s.e.out.length:Int)) (0,none' UInt8,())=((v5 s.e.hub).2.1,kF x,()) by rw [qU,qL (by simp)];simp]
 dsimp only
 rw [qL4 x (by omega)]
 refine (qF rfl).trans ?_
 dsimp only
 refine (qF (show qe3 ((r.e.t,ptag s.p s.e.ring.1.2.1 (qZ (jQ s.e b)),()),x,())=_ from ht)).trans ?_
 dsimp only
 rw [show (yA (jQ s.e b) (kB s.e.ring.1.2.1 (qZ (jQ s.e b)))).2.2.2.2.2.1=b from rfl,quJ _ (by omega),hk]
 rfl
end Yp
namespace Yp
open Go
set_option maxRecDepth 100000
set_option maxHeartbeats 2000000
def twK (fill:UInt8):BB:=upd (rep 32 (u8 0)) 0 fill
def twN (g:Nat):BB:=if g=1 then [] else [u8 (g:Int)]
def twG (fill:UInt8) (g:Nat):BB:=keyD (twK fill) [3,4] (g:Int) (twN g)
def twR (fill:UInt8):Nat→z6
 | 0=>noR
 | 1=>((1,twG fill 1,()),noG,noG,0,1,())
 | g+2=>(((g+2:Nat),twG fill (g+2),()),((g+1:Nat),twG fill (g+1),()),noG,16,(g+2:Nat),())
def hub1:THub:=([true,false,false,false],[noF,noF,noF,noF],[1,0,0,0],0,())
def twE (i:Int) (fill:UInt8) (g:Nat):En':=⟨i,twK fill,3,newS, -1,3+i,4 - i,4,0,noW,twR fill g,noA,0,0,[],hub1,[],[],[0,0,0,0]⟩
def tw (i:Int) (fill:UInt8) (g:Nat):Si:=⟨twE i fill g,(true,[],false,())⟩
theorem qkE (fill:UInt8):(twK fill).length=32:=by unfold twK upd;rw [List.length_set];rfl
theorem qeU (fill:UInt8) {g:Nat} (hg:g≤2147483647):(twG fill g).length=32:=qg1 ⟨by decide,by decide,by omega,by omega⟩
theorem jC (fill:UInt8) {g:Nat} (hg:1≤g):(twR fill g).1=((g:Int),twG fill g,()):=by
 match g,hg with
 | 1,_=>rfl
 | g+2,_=>rfl
theorem qFJ (fill:UInt8) {g:Nat} (hg:1≤g):(twR fill g).2.2.2.2.1=(g:Int):=by
 match g,hg with
 | 1,_=>rfl
 | g+2,_=>rfl
theorem qs3 (fill:UInt8) {g:Nat} (hg:1≤g):(twR fill g).2.2.1=noG:=by
 match g,hg with
 | 1,_=>rfl
 | g+2,_=>rfl
theorem qKA (fill:UInt8) {g:Nat} (hg:1≤g):¬ twR fill g=noR:=fun h=>by
 have:=jC fill hg
 rw [h] at this
 have:(0:Int)=(g:Int):=congrArg Prod.fst this
 omega
theorem qD9 (fill:UInt8) {g:Nat} (hg:1≤g) {n:Int} (hn:(g:Int) < n) (hn2:n≤2147483647) {k:BB} (hk:k.length=32):qQ (twR fill g) n k=(((twR fill g).1,(twR fill g).2.1,(n,k,()),(twR fill g).2.2.2.1,n,()),0,()):=by
 unfold qQ
 rw [if_neg (not_not_intro ⟨by show 1≤n;omega,hn2,hk⟩),if_neg,qFJ fill hg,show max (g:Int) n=n by omega]
 rw [jC fill hg,qs3 fill hg]
 rintro (h | h | h)
 ·exact qKA fill hg h
 ·dsimp only at h;omega
 ·have h:n < (0:Int):=h
  omega
theorem qJN {a b:Int} {x y:BB} (h1:1≤b) (h2:b < a) (h3:a≤2147483647) (hx:x.length=32) (hy:y.length=32):y6 ((a,x,()),(b,y,()),noG,16,a,()):=by
 have hb:¬ (b,y,())=noG:=fun h=>by
  have:b=0:=congrArg Prod.fst h
  omega
 refine .inr ⟨⟨by dsimp only;omega,h3,hx⟩,h3,Int.le_refl _, ?_, .inr ⟨hb,⟨h1,by dsimp only;omega,hy⟩,h2, ?_, ?_⟩, .inl rfl⟩
 ·show (0:Int)≤a;omega
 ·show (1:Int)≤16;omega
 ·show (16:Int)≤16;omega
theorem qJP {x:BB} (hx:x.length=32):y6 ((1,x,()),noG,noG,0,1,()):=by
 refine .inr ⟨⟨?_, ?_,hx⟩, ?_, ?_, ?_, .inl ⟨rfl,rfl⟩, .inl rfl⟩
 ·show (1:Int)≤1;omega
 ·show (1:Int)≤2147483647;omega
 ·show (1:Int)≤2147483647;omega
 ·show (1:Int)≤1;omega
 ·show (0:Int)≤1;omega
theorem qK3 (fill:UInt8) {g:Nat} (hg:1≤g) (hg2:g≤100):y6 (twR fill g):=by
 match g,hg with
 | 1,_=>exact qJP (qeU fill (by omega))
 | g+2,_=>exact qJN (b:=((g+1:Nat):Int)) (by omega) (by omega) (by omega) (qeU fill (by omega)) (qeU fill (by omega))
theorem ql0 (i:Int) (hi:i=0∨i=1) (fill:UInt8) {g:Nat} (hg:1≤g) (hg2:g≤100):okS 0 (tw i fill g) where
 e:={
  id:=hi
  key:=by show (twK fill).length≤1000;rw [qkE];omega
  ph:=⟨by show (0:Int)≤3;omega,by show (3:Int)≤8;omega⟩
  store:=⟨qG0 1,List.length_replicate ..⟩
  own:=by show z8 (3+i);rcases hi with rfl | rfl <;> decide
  oth:=by show z8 (4 - i);rcases hi with rfl | rfl <;> decide
  seq:=by show z8 0;decide
  ring:=qK3 fill hg hg2
  up:=rfl
  next:=by show (0:Int)≤0∧(0:Int) < 4;omega
  out:=Nat.le_refl _
  got:=Nat.le_refl _
  cnt:=rfl
  win:=rfl
  feed:=rfl
  life:=rfl
  queue:=by show ([]:List BB).length≤1000;simp }
 p:=Nat.le_refl _
theorem qQp:qmM (([false,false,false,false],[(none' UInt8,0,0,()),(none' UInt8,0,0,()),(none' UInt8,0,0,()),(none' UInt8,0,0,())],[0,0,0,0],0,()),0,())=some (hub1,0,()):=by kernel_rfl
theorem qkD (fill:UInt8) {g:Nat} (hg:1≤g) (hg2:g≤100):vT (fill,(g:Int),())=some ((tw 0 fill g).t,(tw 1 fill g).t,()):=by
 unfold vT
 refine (qH rfl).trans ((qH rfl).trans ?_)
 dsimp only
 rw [show upd (rep (nat 32) (u8 0)) (nat 0) fill=twK fill from rfl,show qa5 (twK fill,[3,4],1,none' UInt8,())=_ from qd8 (twK fill) [3,4] 1 [] (by rw [qkE];omega) (by simp)]
 refine (qF rfl).trans ?_
 dsimp only
 rw [show keyD (twK fill) [3,4] 1 []=twG fill 1 from rfl,qxS,show newR (twG fill 1)=(twR fill 1,0,()) by unfold newR;rw [if_pos (qeU fill (by omega))];rfl]
 refine (qF rfl).trans ?_
 dsimp only
 generalize hf:(fun (x_1:Int×z6×Unit)=>(_:Option (LS (Int×z6×Unit) (vY×vY×Unit))))=f
 have step:∀ j:Nat,j < g - 1→f (((j+2:Nat):Int),twR fill (j+1),())=some (.nx (((j+1+2:Nat):Int),twR fill (j+1+1),())):=by
  intro j hj
  subst hf
  have hi':i64 (iadd ((j+2:Nat):Int) 1)=((j+1+2:Nat):Int):=i64n (by show ((j+2:Nat):Int)+1=_;omega) (by omega)
  refine (qE (le_t (by show ((j+2:Nat):Int)≤(g:Int);omega))).trans ?_
  dsimp only
  rw [qd8 _ _ _ _ (by rw [qkE];omega) (by simp)]
  refine (qF rfl).trans ?_
  dsimp only
  rw [show keyD (twK fill) [3,4] ((j+2:Nat):Int) [u8 ((j+2:Nat):Int)]=twG fill (j+2) by unfold twG twN;rw [if_neg (by omega)],qbL,qD9 fill (g:=j+1) (by omega) (by omega) (by omega) (qeU fill (by omega))]
  refine (qF rfl).trans ?_
  dsimp only
  rw [qcV _ (.inr (by show ¬ ((j+2:Nat):Int)=0;omega))]
  refine (qF rfl).trans ?_
  rw [hi']
  unfold qbI
  rw [if_neg,jC fill (by omega:1≤j+1)]
  ·rfl
  ·intro h
   have:((j+2:Nat):Int)=0:=congrArg Prod.fst h
   omega
 have hend:f (((g+1:Nat):Int),twR fill g,())=some (.ex 0 (((g+1:Nat):Int),twR fill g,())):=by subst hf;exact qB (le_f (by show ¬ ((g+1:Nat):Int)≤(g:Int);omega))
 have hloop:=qN (f:=f) (fun j=>(((j+2:Nat):Int),twR fill (j+1),())) (g - 1) step 0 (Nat.zero_le _)
 rw [show g - 1+2=g+1 by omega,show g - 1+1=g by omega,qV hend] at hloop
 refine (zA (show loop f (2,twR fill 1,())=_ from hloop)).trans ((qH g62).trans ?_)
 dsimp only
 rw [qQp]
 refine (qF rfl).trans ?_
 rw [qxQ]
 refine (qF rfl).trans ?_
 rfl
end Yp
namespace Yp
open Go
set_option maxRecDepth 100000
set_option maxHeartbeats 2000000
def upH (h:THub):Prop:=h.1=[true,false,false,false]∧0≤h.2.2.2.1∧h.2.2.2.1 < 4
theorem qCs:upH hub1:=⟨rfl,by show (0:Int)≤0;omega,by show (0:Int) < 4;omega⟩
theorem qG4 {h:THub} (hu:upH h):(v5 h).2.2.1=0∧upH (v5 h).1:=by
 refine ⟨?_,(qA8 h).trans hu.1,qp6 hu.2⟩
 obtain ⟨u,f,l,n,⟨⟩⟩:=h
 obtain ⟨h1,h2,h3⟩:=hu
 dsimp only at h1 h2 h3
 subst h1
 have hc:qQs [true,false,false,false] n.toNat=some 0:=by
  have:n=0∨n=1∨n=2∨n=3:=by omega
  rcases this with rfl | rfl | rfl | rfl <;> decide
 unfold v5
 dsimp only
 rw [hc]
def qCG (s:Si) (b:BB):Si:=⟨{ s.e with hub:=(v5 s.e.hub).1,out:=s.e.out++[((v5 s.e.hub).2.1,kF (qZ (jQ s.e b)++kB s.e.ring.1.2.1 (qZ (jQ s.e b))),())],seq:=s.e.seq+1 },ptag s.p s.e.ring.1.2.1 (qZ (jQ s.e b))⟩
theorem qnC {s:Si} {b:BB} (hb:qeL b) (hl:qO s.e.ph) (hq:s.e.seq≤900000) (hu:upH s.e.hub):qa4 s b=(qCG s b,0):=qIx hb hl hq (qG4 hu).1
def qhP (n:z9):BB:=wrM (msgN n)
theorem wM {n:z9} (h:z4 n):qeL (qhP n):=⟨by
 unfold qhP wrM
 rw [List.length_append,List.length_append,v9]
 split <;> omega,qOn h⟩
theorem qMA {n:z9} (h:z4 n):rdN (qhP n)=(n,0,()):=qQn h
theorem qeW (n:Int):1≤vL n∧vL n≤999999:=by unfold vL;split <;> omega
def stN (s:Si) (q:z9):z9:=(q.1,q.2.1,vL s.e.stan,q.2.2.2)
theorem qCf {s:Si} {q:z9} (hr:z4 (stN s q)):ql8 q.2.1 (vL s.e.stan) (qhP (stN s q))=((q.2.1,vL s.e.stan,8,3,qhP (stN s q),()),0,()):=by
 unfold ql8
 rw [if_pos]
 have h:=qeW s.e.stan
 exact ⟨hr.1,h.1,h.2,(wM hr).1,(wM hr).2⟩
def askS (s:Si) (q:z9):Si:=⟨{ s.e with stan:=vL s.e.stan,ask:=(q.2.1,vL s.e.stan,8,3,qhP (stN s q),()) },s.p⟩
theorem qFA {s:Si} {q:z9} (hr:z4 (stN s q)):qwY s q=askS s q:=by
 unfold qwY askS
 have e:wrN (q.1,q.2.1,vL s.e.stan,q.2.2.2)=(qhP (stN s q),0,()):=qML hr
 rw [e,qCf hr]
theorem qD1 {s:Si} {q:z9} (hr:z4 (stN s q)) (h1:¬ q.2.1=1) (hl:qO s.e.ph) (hq:s.e.seq≤900000) (hu:upH s.e.hub):qhZ s q=qCG (askS s q) (qhP (stN s q)):=by
 have e:wrN (q.1,q.2.1,vL s.e.stan,q.2.2.2)=(qhP (stN s q),0,()):=qML hr
 unfold qhZ
 rw [e,qFA hr,qCf hr,if_pos ⟨rfl,rfl⟩,if_neg h1]
 exact congrArg Prod.fst (qnC (s:=askS s q) (wM hr) hl hq hu)
theorem qlC {s:Si} {g:Int} (h1:1≤g) (h2:g≤2147483647) {nonce k:BB} (h8:nonce.length=8):z4 (stN s (keyQ g nonce k)):=by
 have h:=qeW s.e.stan
 refine ⟨.inr (.inr (.inl rfl)),h.1,h.2,by show (0:Int)≤0;omega,by show (0:Int)≤99;omega,fun _=>rfl, ?_⟩
 unfold qvH
 rw [if_pos ⟨rfl,rfl⟩]
 exact ⟨h1,h2,h8,qvK _,rfl⟩
theorem qhC {s:Si}:z4 (stN s (qsZ 301)):=by
 have h:=qeW s.e.stan
 refine ⟨.inr (.inr (.inr (.inr rfl))),h.1,h.2,by show (0:Int)≤0;omega,by show (0:Int)≤99;omega,fun _=>rfl, ?_⟩
 unfold qvH
 rw [if_neg (fun q=>absurd q.2 (by show ¬ (301:Int)=101;omega))]
 refine ⟨rfl,rfl,rfl, ?_⟩
 rw [if_neg (fun q=>absurd q.2 (by show ¬ (301:Int)=201;omega))];rfl
def offN (s:Si) (g:Int) (nonce:BB):z9:=stN s (keyQ g nonce (derD s.e g nonce))
def offS (s:Si) (g:Int) (nonce:BB):Si:=qCG (askS ⟨{ s.e with ph:=4,ring:=(qQ s.e.ring g (derD s.e g nonce)).1 },s.p⟩ (keyQ g nonce (derD s.e g nonce))) (qhP (offN s g nonce))
theorem qG8 {s:Si} {g:Int} {nonce:BB} (h8:nonce.length=8) (hp:s.e.ph=3) (ha:s.e.ask.1=0) (hpd:s.e.ring.2.2.1.1=0) (hx:qh8 s.e.ring=(g,0,())) (h1:1≤g) (h2:g≤2147483647) (hq:s.e.seq≤900000) (hu:upH s.e.hub):newK s nonce=(offS s g nonce,0):=by
 unfold newK
 rw [if_neg (not_not_intro h8),if_neg (not_not_intro (by rw [hp];exact .inl rfl)),if_neg (by omega),hx,if_neg (not_not_intro rfl)]
 refine Prod.ext ?_ rfl
 exact qD1 (s:=⟨{ s.e with ph:=4,ring:=(qQ s.e.ring g (derD s.e g nonce)).1 },s.p⟩) (qlC h1 h2 h8) (by show ¬ (101:Int)=1;omega) (by show qO 4;unfold qO;omega) hq hu
def ackN (n:z9) (res:Int):z9:=(false,n.2.1,n.2.2.1,res,0,[],[],0,())
theorem qfX {n:z9} (h:z4 n) {res:Int} (h0:0≤res) (h9:res≤99):z4 (ackN n res):=by
 refine ⟨h.1,h.2.1,h.2.2.1,h0,h9,(fun h=>by cases h), ?_⟩
 unfold qvH
 rw [if_neg (fun q=>by cases q.1)]
 refine ⟨rfl,rfl,rfl, ?_⟩
 rw [if_neg (fun q=>by cases q.1)];rfl
theorem qDW {n:z9} (h:z4 n) (hq:n.1=true) {res:Int} (h0:0≤res) (h9:res≤99):qiL n res=qhP (ackN n res):=by
 unfold qiL ansN
 rw [if_neg (by rw [hq];intro h;cases h),if_neg (by omega)]
 exact congrArg Prod.fst (qML (qfX h h0 h9))
def qJw (s:Si):Si:=qCG (askS ⟨qm4 s.e (qbI s.e.ring).1,s.p⟩ (qsZ 301)) (qhP (stN s (qsZ 301)))
theorem qMH {s:Si} {n:z9} (hp:s.e.ph=4) (hm:ql1 s.e.ask n.2.1 n.2.2.1) (hr:n.2.2.2.1=0) (hq:s.e.seq≤900000) (hu:upH s.e.hub):ansK s n=qJw s:=by
 unfold ansK
 rw [if_neg (by rintro (h | h);exact h hp;exact h hm),if_neg (not_not_intro hr)]
 exact qD1 (s:=⟨qm4 s.e (qbI s.e.ring).1,s.p⟩) qhC (by show ¬ (301:Int)=1;omega) (by show qO 3;unfold qO;omega) hq hu
end Yp