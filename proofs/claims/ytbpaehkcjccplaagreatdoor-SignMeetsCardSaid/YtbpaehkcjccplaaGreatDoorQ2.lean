/- A part of the proof of the statements of this seat: plain functions, and laws on them. No condition of its own. -/
import Derived.Test.YtbpaehkcjccplaaGreatDoorQ1
import Derived.Test.YtbpaehkcjccplaaGreatDoorProg
import Derived.KernelRfl
set_option linter.unusedVariables false
set_option linter.unusedSimpArgs false
namespace Yp
open Go Go.Proofs
abbrev yT22:Ty := .unit
abbrev yT19:Ty := .int .u32
abbrev yT14:Ty := .bool
abbrev yT11:Ty := .int .u8
abbrev yT5:Ty := .sl yT11
abbrev yT10:Ty := .pair yT5 (.pair yT5 yT22)
abbrev yT9:Ty := .pair yT14 (.pair (.sl yT10) (.pair yT14 yT22))
abbrev yT4:Ty := .int .i64
abbrev yT16:Ty := .pair yT4 (.pair (.ar 16 (.int .u64)) yT22)
abbrev yT15:Ty := .pair yT4 (.pair yT4 yT22)
abbrev yT20:Ty := .pair yT5 yT15
abbrev yT8:Ty := .pair yT4 (.pair yT4 (.pair (.ar 2 yT4) (.pair yT4 (.pair yT4 yT10))))
abbrev yT7:Ty := .pair (.ar 4 yT14) (.pair (.ar 4 yT20) (.pair (.ar 4 yT4) (.pair yT4 yT22)))
abbrev yT3:Ty := .pair yT14 (.pair yT4 (.pair yT4 (.pair yT4 (.pair yT4 (.pair yT5 (.pair yT5 (.pair yT4 yT22)))))))
abbrev yT2:Ty := .pair yT4 (.pair yT5 yT22)
abbrev yT21:Ty := .pair (.sl yT2) (.pair (.fn [350]) yT22)
abbrev yT18:Ty := .pair yT4 (.pair (.ar 2 yT4) yT2)
abbrev yT17:Ty := .pair (.ar 8 yT19) yT2
abbrev yT13:Ty := .pair yT4 (.pair (.sl yT2) yT22)
abbrev yT12:Ty := .pair yT4 (.pair yT4 (.pair yT4 yT2))
abbrev yT6:Ty := .pair yT2 (.pair yT2 (.pair yT2 yT15))
abbrev yT0:Ty := .pair yT4 (.pair yT5 (.pair yT4 (.pair yT10 (.pair yT4 (.pair yT4 (.pair yT4 (.pair yT4 (.pair yT4 (.pair yT16 (.pair yT6 (.pair yT12 (.pair yT4 (.pair yT4 (.pair (.sl yT5) (.pair yT7 (.pair (.sl yT2) (.pair (.sl yT18) (.pair (.ar 4 yT4) yT22))))))))))))))))))
abbrev yT1:Ty := .pair yT0 (.pair yT9 yT22)
noncomputable abbrev qE2:qI:=⟨[yT4,yT4],[.im (.str), .im yT4],y9⟩
theorem qk7:FOK Tryz.prog 180 qE2:=mkC qE qD Tryz.func180 8 (by kernel_rfl) (by kernel_rfl) (fun x=>by kernel_rfl)
noncomputable abbrev qES:qI:=⟨[yT4,yT4],[.im yT4],qcL⟩
theorem qGF:FOK Tryz.prog 344 qES:=mkC qE qD Tryz.func344 5 (by kernel_rfl) (by kernel_rfl) (fun x=>by kernel_rfl)
noncomputable abbrev qKU:qI:=⟨[yT4],[.im yT14],quJ⟩
theorem qLz:FOK Tryz.prog 271 qKU:=mkC (qA qE qGF) qD Tryz.func271 4 (by kernel_rfl) (by kernel_rfl) (fun x=>by kernel_rfl)
noncomputable abbrev qvI:qI:=⟨[yT4],[.im yT4],wU⟩
theorem qxZ:FOK Tryz.prog 382 qvI:=mkC qE qD Tryz.func382 3 (by kernel_rfl) (by kernel_rfl) (fun x=>by kernel_rfl)
noncomputable def qfC:Inl:=inlF (eN [] []) Tryz.f383 3
theorem qe1:yE Tryz.prog 383 qfC:=mkI qE qD Tryz.func383 3 (by kernel_rfl) (by kernel_rfl)
noncomputable abbrev qEY:qI:=⟨[yT4,yT4],[.im yT4],qaW⟩
theorem qGJ:FOK Tryz.prog 346 qEY:=mkC (qA qE qxZ) (zI qD qe1) Tryz.func346 5 (by kernel_rfl) (by kernel_rfl) (fun x=>by kernel_rfl)
noncomputable abbrev qKW:qI:=⟨[yT4],[.im yT15, .im yT14],qhR⟩
theorem qrU:FOK Tryz.prog 273 qKW:=mkC (qA qE qGJ) qD Tryz.func273 6 (by kernel_rfl) (by kernel_rfl) (fun x=>by kernel_rfl)
noncomputable abbrev qEX:qI:=⟨[yT4],[.im yT4],qU⟩
theorem qs2:FOK Tryz.prog 347 qEX:=mkC qE qD Tryz.func347 3 (by kernel_rfl) (by kernel_rfl) (fun x=>by kernel_rfl)
noncomputable def qqF:Inl:=inlF (eN [] [(383,qfC)]) Tryz.f384 7
theorem qpH:yE Tryz.prog 384 qqF:=mkI qE (zI qD qe1) Tryz.func384 7 (by kernel_rfl) (by kernel_rfl)
noncomputable def qJs:Inl:=inlF (eN [] [(383,qfC),(384,qqF)]) Tryz.f349 3
theorem qIw:yE Tryz.prog 349 qJs:=mkI qE (zI (zI qD qpH) qe1) Tryz.func349 3 (by kernel_rfl) (by kernel_rfl)
noncomputable abbrev qqT:qI:=⟨[yT3],[.im yT14],qdK⟩
theorem kJ:FOK Tryz.prog 363 qqT:=mkC qE qD Tryz.func363 3 (by kernel_rfl) (by kernel_rfl) (fun x=>by kernel_rfl)
noncomputable abbrev qs8:qI:=⟨[yT3],[.im yT14],qa8⟩
theorem vM:FOK Tryz.prog 365 qs8:=mkC qE qD Tryz.func365 3 (by kernel_rfl) (by kernel_rfl) (fun x=>by kernel_rfl)
noncomputable abbrev qqU:qI:=⟨[yT3],[.im yT14],qdL⟩
theorem kK:FOK Tryz.prog 364 qqU:=mkC (qA qE vM) qD Tryz.func364 4 (by kernel_rfl) (by kernel_rfl) (fun x=>by kernel_rfl)
noncomputable abbrev qBE:qI:=⟨[yT3],[.im yT14],qnR⟩
theorem qcA:FOK Tryz.prog 366 qBE:=mkC qE qD Tryz.func366 3 (by kernel_rfl) (by kernel_rfl) (fun x=>by kernel_rfl)
noncomputable abbrev qEZ:qI:=⟨[yT4,yT5],[.im yT14],qcM⟩
theorem qk6:FOK Tryz.prog 277 qEZ:=mkC (qA (qA (qA (qA (qA (qA qE qcA) vM) kK) kJ) qs2) qrU) (zI (zI qD qIw) qpH) Tryz.func277 8 (by kernel_rfl) (by kernel_rfl) (fun x=>by kernel_rfl)
noncomputable abbrev qHW:qI:=⟨[yT13],[.im yT14],qpG⟩
theorem qJh:FOK Tryz.prog 280 qHW:=mkC (qA (qA qE qk6) qLz) qD Tryz.func280 6 (by kernel_rfl) (by kernel_rfl) (fun x=>by kernel_rfl)
noncomputable abbrev qE1:qI:=⟨[(.int .i32)],[.im yT4, .im yT14],qaY⟩
theorem qGL:FOK Tryz.prog 343 qE1:=mkC qE qD Tryz.func343 4 (by kernel_rfl) (by kernel_rfl) (fun x=>by kernel_rfl)
noncomputable abbrev qMe:qI:=⟨[.str],[.ow yT11, .im yT4],qe4⟩
theorem qGM:FOK Tryz.prog 281 qMe:=mkC (qA qE qGL) qD Tryz.func281 10 (by kernel_rfl) (by kernel_rfl) (fun x=>by kernel_rfl)
noncomputable abbrev qyT:qI:=⟨[(.sl yT4)],[.im yT14],qeJ⟩
theorem qz0:FOK Tryz.prog 352 qyT:=mkC qE qD Tryz.func352 6 (by kernel_rfl) (by kernel_rfl) (fun x=>by kernel_rfl)
noncomputable abbrev qyS:qI:=⟨[(.sl yT4)],[.ow yT11, .im yT4],qeI⟩
theorem qzZ:FOK Tryz.prog 282 qyS:=mkC (qA (qA qE qz1) qz0) qD Tryz.func282 9 (by kernel_rfl) (by kernel_rfl) (fun x=>by kernel_rfl)
noncomputable abbrev qBJ:qI:=⟨[yT4,yT5],[.ow yT11, .im yT4],qdR⟩
theorem qCY:FOK Tryz.prog 283 qBJ:=mkC (qA (qA (qA (qA (qA (qA (qA (qA (qA qE qcA) vM) kK) kJ) qs2) qGM) qk6) qrU) qk7) qD Tryz.func283 14 (by kernel_rfl) (by kernel_rfl) (fun x=>by kernel_rfl)
noncomputable abbrev qHV:qI:=⟨[yT13],[.ow yT11, .im yT4],qpF⟩
theorem qJg:FOK Tryz.prog 182 qHV:=mkC (qA (qA (qA (qA (qA qE qCY) qzZ) qGM) qJh) qk7) qD Tryz.func182 17 (by kernel_rfl) (by kernel_rfl) (fun x=>by kernel_rfl)
noncomputable abbrev qHN:qI:=⟨[yT3],[.im (.fn [363,364,365,366])],qwO⟩
theorem qJd:FOK Tryz.prog 315 qHN:=mkC (qA (qA (qA (qA qE qcA) vM) kK) kJ) qD Tryz.func315 3 (by kernel_rfl) (by kernel_rfl) (fun x=>by kernel_rfl)
noncomputable abbrev qEN:qI:=⟨[yT3],[.im yT14],ql9⟩
theorem qGC:FOK Tryz.prog 232 qEN:=mkC (qA (qA (qA (qA (qA qE qcA) vM) kK) kJ) qJd) qD Tryz.func232 3 (by kernel_rfl) (by kernel_rfl) (fun x=>by kernel_rfl)
noncomputable abbrev qmQ:qI:=⟨[yT2],[.im yT4],qbJ⟩
theorem xG:FOK Tryz.prog 350 qmQ:=mkC qE qD Tryz.func350 3 (by kernel_rfl) (by kernel_rfl) (fun x=>by kernel_rfl)
noncomputable abbrev qET:qI:=⟨[yT13],[.im yT21],qrE⟩
theorem qGG:FOK Tryz.prog 278 qET:=mkC (qA qE xG) qD Tryz.func278 3 (by kernel_rfl) (by kernel_rfl) (fun x=>by kernel_rfl)
noncomputable abbrev qgN:qI:=⟨[yT21,yT4],[.im yT4, .im yT14],j5⟩
theorem qh5:FOK Tryz.prog 348 qgN:=mkC (qA qE xG) qD Tryz.func348 9 (by kernel_rfl) (by kernel_rfl) (fun x=>by kernel_rfl)
noncomputable def vQ:Inl:=inlF (eN [] []) Tryz.f385 5
theorem vJ:yE Tryz.prog 385 vQ:=mkI qE qD Tryz.func385 5 (by kernel_rfl) (by kernel_rfl)
noncomputable abbrev qBL:qI:=⟨[yT5,yT5],[.im yT14],qa2⟩
theorem qh6:FOK Tryz.prog 333 qBL:=mkC qE qD Tryz.func333 5 (by kernel_rfl) (by kernel_rfl) (fun x=>by kernel_rfl)
noncomputable abbrev qEV:qI:=⟨[yT2,yT2],[.im yT14],qLf⟩
theorem qGH:FOK Tryz.prog 359 qEV:=mkC (qA qE qh6) qD Tryz.func359 5 (by kernel_rfl) (by kernel_rfl) (fun x=>by kernel_rfl)
noncomputable abbrev qaD:qI:=⟨[(.sl (.sl yT2))],[.ow yT2],zK⟩
theorem qa0:FOK Tryz.prog 351 qaD:=mkC (qA qE qGH) (zI qD vJ) Tryz.func351 9 (by kernel_rfl) (by kernel_rfl) (fun x=>by kernel_rfl)
noncomputable abbrev qgM:qI:=⟨[yT21,yT2],[.ow yT2],j3⟩
theorem qh4:FOK Tryz.prog 279 qgM:=mkC (qA (qA (qA qE xG) qa0) qh5) qD Tryz.func279 8 (by kernel_rfl) (by kernel_rfl) (fun x=>by kernel_rfl)
noncomputable abbrev qEU:qI:=⟨[yT13,yT4,yT5],[.im yT13, .im yT4],vD⟩
theorem qNY:FOK Tryz.prog 181 qEU:=mkC (qA (qA (qA (qA (qA qE xG) qh4) qGG) qk6) qrU) qD Tryz.func181 10 (by kernel_rfl) (by kernel_rfl) (fun x=>by kernel_rfl)
noncomputable def qt5:Inl:=inlF (eN [(181,qEU)] []) Tryz.f316 4
theorem qt1:yE Tryz.prog 316 qt5:=mkI (qA qE qNY) qD Tryz.func316 4 (by kernel_rfl) (by kernel_rfl)
noncomputable abbrev qyR:qI:=⟨[yT4,yT4],[.ow yT11],z8⟩
theorem qzY:FOK Tryz.prog 317 qyR:=mkC (qA qE qk7) qD Tryz.func317 7 (by kernel_rfl) (by kernel_rfl) (fun x=>by kernel_rfl)
noncomputable abbrev qMd:qI:=⟨[yT5],[.im (.str)],qCn⟩
theorem qNZ:FOK Tryz.prog 318 qMd:=mkC qE qD Tryz.func318 6 (by kernel_rfl) (by kernel_rfl) (fun x=>by kernel_rfl)
noncomputable abbrev qyQ:qI:=⟨[yT3],[.im yT13],qeB⟩
theorem qzX:FOK Tryz.prog 233 qyQ:=mkC (qA (qA qE qNZ) qzY) (zI qD qt1) Tryz.func233 5 (by kernel_rfl) (by kernel_rfl) (fun x=>by kernel_rfl)
noncomputable abbrev qEM:qI:=⟨[yT3],[.ow yT11, .im yT4],qcJ⟩
theorem qk4:FOK Tryz.prog 123 qEM:=mkC (qA (qA (qA qE qzX) qGC) qJg) qD Tryz.func123 4 (by kernel_rfl) (by kernel_rfl) (fun x=>by kernel_rfl)
noncomputable abbrev qBI:qI:=⟨[yT4,(.sl yT4)],[.im yT14],vC⟩
theorem qh3:FOK Tryz.prog 263 qBI:=mkC qE qD Tryz.func263 7 (by kernel_rfl) (by kernel_rfl) (fun x=>by kernel_rfl)
noncomputable abbrev qHS:qI:=⟨[yT0],[.im (.ar 2 yT4)],xS⟩
theorem qdW:FOK Tryz.prog 228 qHS:=mkC (qA qE qh3) qD Tryz.func228 4 (by kernel_rfl) (by kernel_rfl) (fun x=>by kernel_rfl)
noncomputable abbrev qHP:qI:=⟨[yT5],[.im yT14],qkD⟩
theorem qxV:FOK Tryz.prog 234 qHP:=mkC qE qD Tryz.func234 3 (by kernel_rfl) (by kernel_rfl) (fun x=>by kernel_rfl)
noncomputable abbrev qEJ:qI:=⟨[yT4],[.im yT4],qaR⟩
theorem qk3:FOK Tryz.prog 225 qEJ:=mkC qE qD Tryz.func225 3 (by kernel_rfl) (by kernel_rfl) (fun x=>by kernel_rfl)
noncomputable abbrev qyP:qI:=⟨[yT4],[.im yT14],y3⟩
theorem qe9:FOK Tryz.prog 235 qyP:=mkC (qA qE qk3) qD Tryz.func235 3 (by kernel_rfl) (by kernel_rfl) (fun x=>by kernel_rfl)
noncomputable abbrev qKV:qI:=⟨[yT7],[.im yT7, .im yT4, .im yT4],quK⟩
theorem qLA:FOK Tryz.prog 319 qKV:=mkC qE qD Tryz.func319 7 (by kernel_rfl) (by kernel_rfl) (fun x=>by kernel_rfl)
noncomputable abbrev qE0:qI:=⟨[yT4,yT4],[.im yT14],qcN⟩
theorem qGK:FOK Tryz.prog 389 qE0:=mkC qE qD Tryz.func389 5 (by kernel_rfl) (by kernel_rfl) (fun x=>by kernel_rfl)
noncomputable abbrev qHX:qI:=⟨[yT8],[.im yT14],qkP⟩
theorem qx0:FOK Tryz.prog 367 qHX:=mkC (qA qE qGK) qD Tryz.func367 5 (by kernel_rfl) (by kernel_rfl) (fun x=>by kernel_rfl)
noncomputable abbrev qE3:qI:=⟨[yT4,yT4],[.ow yT11, .im yT4],wV⟩
theorem qx2:FOK Tryz.prog 308 qE3:=mkC qE qD Tryz.func308 8 (by kernel_rfl) (by kernel_rfl) (fun x=>by kernel_rfl)
noncomputable def qDk:Inl:=inlF (eN [(308,qE3)] []) Tryz.f368 8
theorem qCc:yE Tryz.prog 368 qDk:=mkI (qA qE qx2) qD Tryz.func368 8 (by kernel_rfl) (by kernel_rfl)
noncomputable abbrev qH0:qI:=⟨[yT8],[.ow yT11, .im yT4],qkQ⟩
theorem qx1:FOK Tryz.prog 320 qH0:=mkC (qA qE qx0) (zI qD qCc) Tryz.func320 6 (by kernel_rfl) (by kernel_rfl) (fun x=>by kernel_rfl)
theorem qLw:FOK Tryz.prog 369 qAd:=qLi qLx
noncomputable abbrev wG:qI:=⟨[(.sl yT10)],[.cl yT10],zU⟩
theorem wX:FOK Tryz.prog 370 wG:=mkC qE qD Tryz.func370 3 (by kernel_rfl) (by kernel_rfl) (fun x=>by kernel_rfl)
theorem qC0:FOK Tryz.prog 371 qoI:=qCf
noncomputable abbrev qfL:qI:=⟨[yT19,yT4],[.im yT19],qJ⟩
theorem wA:FOK Tryz.prog 388 qfL:=mkC qE qD Tryz.func388 6 (by kernel_rfl) (by kernel_rfl) (fun x=>by kernel_rfl)
noncomputable abbrev qDO:qI:=⟨[yT5],[.im (.ar 64 yT19)],qlD⟩
theorem qF0:FOK Tryz.prog 387 qDO:=mkC (qA qE wA) qD Tryz.func387 9 (by kernel_rfl) (by kernel_rfl) (fun x=>by kernel_rfl)
noncomputable abbrev qHk:qI:=⟨[(.ar 8 yT19),yT5],[.im (.ar 8 yT19), .im yT4],qjB⟩
theorem qxJ:FOK Tryz.prog 362 qHk:=mkC (qA (qA qE wA) qF0) qD Tryz.func362 16 (by kernel_rfl) (by kernel_rfl) (fun x=>by kernel_rfl)
noncomputable abbrev qDP:qI:=⟨[yT17,yT5],[.im yT17],qgL⟩
theorem qxI:FOK Tryz.prog 312 qDP:=mkC (qA qE qxJ) qD Tryz.func312 6 (by kernel_rfl) (by kernel_rfl) (fun x=>by kernel_rfl)
noncomputable abbrev qDQ:qI:=⟨[],[.im yT17],qu5⟩
theorem qF2:FOK Tryz.prog 313 qDQ:=mkC qE qD Tryz.func313 1 (by kernel_rfl) (by kernel_rfl) (fun x=>by kernel_rfl)
noncomputable abbrev qMb:qI:=⟨[yT17],[.ow yT11],qnL⟩
theorem qF1:FOK Tryz.prog 314 qMb:=mkC (qA qE qxJ) qD Tryz.func314 9 (by kernel_rfl) (by kernel_rfl) (fun x=>by kernel_rfl)
noncomputable abbrev qOk:qI:=⟨[yT5],[.ow yT11],qDz⟩
theorem qKz:FOK Tryz.prog 361 qOk:=mkC (qA (qA (qA (qA qE xG) qF1) qF2) qxI) qD Tryz.func361 3 (by kernel_rfl) (by kernel_rfl) (fun x=>by kernel_rfl)
noncomputable abbrev qHO:qI:=⟨[yT5],[.ow yT11],qpA⟩
theorem qJe:FOK Tryz.prog 310 qHO:=mkC (qA qE qKz) qD Tryz.func310 4 (by kernel_rfl) (by kernel_rfl) (fun x=>by kernel_rfl)
noncomputable def qJr:Inl:=inlF (eN [(312,qDP),(313,qDQ),(350,qmQ)] []) Tryz.f311 6
theorem qIv:yE Tryz.prog 311 qJr:=mkI (qA (qA (qA qE xG) qF2) qxI) qD Tryz.func311 6 (by kernel_rfl) (by kernel_rfl)
noncomputable abbrev qMc:qI:=⟨[yT5,yT5],[.ow yT11],qwQ⟩
theorem qGD:FOK Tryz.prog 231 qMc:=mkC (qA (qA (qA (qA qE xG) qF1) qxI) qJe) (zI qD qIv) Tryz.func231 7 (by kernel_rfl) (by kernel_rfl) (fun x=>by kernel_rfl)
noncomputable abbrev qEI:qI:=⟨[yT5,yT5],[.ow yT11],qf2⟩
theorem qGA:FOK Tryz.prog 372 qEI:=mkC (qA qE qGD) qD Tryz.func372 5 (by kernel_rfl) (by kernel_rfl) (fun x=>by kernel_rfl)
noncomputable abbrev qKS:qI:=⟨[yT9,yT5,yT5],[.im yT9, .ow yT11],quA⟩
theorem qLv:FOK Tryz.prog 321 qKS:=mkC (qA (qA (qA (qA qE qGA) qC0) wX) qLw) qD Tryz.func321 8 (by kernel_rfl) (by kernel_rfl) (fun x=>by kernel_rfl)
noncomputable abbrev qHZ:qI:=⟨[yT8],[.im yT14],qpR⟩
theorem qJj:FOK Tryz.prog 373 qHZ:=mkC (qA qE qx0) qD Tryz.func373 3 (by kernel_rfl) (by kernel_rfl) (fun x=>by kernel_rfl)
noncomputable abbrev qHY:qI:=⟨[yT8],[.ow yT11, .im yT4],qpQ⟩
theorem qJi:FOK Tryz.prog 322 qHY:=mkC (qA (qA qE qJj) qx1) qD Tryz.func322 6 (by kernel_rfl) (by kernel_rfl) (fun x=>by kernel_rfl)
noncomputable abbrev qEW:qI:=⟨[yT5],[.ow yT11, .im yT4],qmD⟩
theorem qGI:FOK Tryz.prog 323 qEW:=mkC qE qD Tryz.func323 4 (by kernel_rfl) (by kernel_rfl) (fun x=>by kernel_rfl)
noncomputable abbrev qaE:qI:=⟨[(.sl yT2)],[.cl yT2],z2⟩
theorem qa1:FOK Tryz.prog 324 qaE:=mkC qE qD Tryz.func324 3 (by kernel_rfl) (by kernel_rfl) (fun x=>by kernel_rfl)
noncomputable abbrev qHQ:qI:=⟨[yT1,yT8,yT5],[.im yT1, .im yT4],qkE⟩
theorem qxW:FOK Tryz.prog 236 qHQ:=mkC (qA (qA (qA (qA (qA (qA qE qa1) qGI) qJi) qLv) qx1) qLA) qD Tryz.func236 17 (by kernel_rfl) (by kernel_rfl) (fun x=>by kernel_rfl)
noncomputable abbrev qHR:qI:=⟨[yT1,yT5],[.im yT1, .im yT4],qkG⟩
theorem qxX:FOK Tryz.prog 124 qHR:=mkC (qA (qA (qA (qA qE qxW) qe9) qxV) qdW) qD Tryz.func124 9 (by kernel_rfl) (by kernel_rfl) (fun x=>by kernel_rfl)
noncomputable abbrev qKZ:qI:=⟨[yT4],[.im yT4],quO⟩
theorem qLD:FOK Tryz.prog 167 qKZ:=mkC qE qD Tryz.func167 3 (by kernel_rfl) (by kernel_rfl) (fun x=>by kernel_rfl)
noncomputable abbrev qH2:qI:=⟨[yT4],[.im yT14],qqB⟩
theorem qJk:FOK Tryz.prog 338 qH2:=mkC qE qD Tryz.func338 3 (by kernel_rfl) (by kernel_rfl) (fun x=>by kernel_rfl)
noncomputable abbrev qKY:qI:=⟨[yT4,yT4,yT5],[.im yT14],quN⟩
theorem qLC:FOK Tryz.prog 262 qKY:=mkC (qA qE qJk) qD Tryz.func262 7 (by kernel_rfl) (by kernel_rfl) (fun x=>by kernel_rfl)
noncomputable abbrev qH3:qI:=⟨[yT4,yT4,yT5],[.im yT12, .im yT4],qqC⟩
theorem qJl:FOK Tryz.prog 168 qH3:=mkC (qA qE qLC) qD Tryz.func168 8 (by kernel_rfl) (by kernel_rfl) (fun x=>by kernel_rfl)
noncomputable abbrev qEO:qI:=⟨[yT5, .str,(.sl yT5)],[.ow yT11, .im yT4],qgA⟩
theorem qs0:FOK Tryz.prog 309 qEO:=mkC (qA qE qGD) qD Tryz.func309 11 (by kernel_rfl) (by kernel_rfl) (fun x=>by kernel_rfl)
noncomputable abbrev qHU:qI:=⟨[yT5],[.ow yT11],qkH⟩
theorem qJf:FOK Tryz.prog 264 qHU:=mkC (qA qE qs0) qD Tryz.func264 5 (by kernel_rfl) (by kernel_rfl) (fun x=>by kernel_rfl)
noncomputable abbrev qEQ:qI:=⟨[yT1,yT4,yT5],[.im yT1, .im yT4],qgB⟩
theorem qs1:FOK Tryz.prog 169 qEQ:=mkC (qA (qA (qA (qA (qA qE qJf) qh3) qxW) qxV) qdW) qD Tryz.func169 9 (by kernel_rfl) (by kernel_rfl) (fun x=>by kernel_rfl)
noncomputable abbrev qvA:qI:=⟨[yT1,yT3],[.im yT1],wD⟩
theorem qkV:FOK Tryz.prog 63 qvA:=mkC (qA (qA (qA (qA (qA qE qs1) qJl) qLD) qxX) qk4) qD Tryz.func63 9 (by kernel_rfl) (by kernel_rfl) (fun x=>by kernel_rfl)
noncomputable abbrev qEL:qI:=⟨[yT4],[.im yT14],ql7⟩
theorem qGB:FOK Tryz.prog 105 qEL:=mkC (qA qE qk3) qD Tryz.func105 3 (by kernel_rfl) (by kernel_rfl) (fun x=>by kernel_rfl)
noncomputable abbrev qKT:qI:=⟨[yT5,(.ar 2 yT4),yT4,yT5],[.ow yT11],qpD⟩
theorem qLy:FOK Tryz.prog 227 qKT:=mkC (qA (qA (qA qE qs0) qx2) qh3) qD Tryz.func227 17 (by kernel_rfl) (by kernel_rfl) (fun x=>by kernel_rfl)
noncomputable def qGV:Inl:=inlF (eN [] []) Tryz.f230 3
theorem qFE:yE Tryz.prog 230 qGV:=mkI qE qD Tryz.func230 3 (by kernel_rfl) (by kernel_rfl)
noncomputable abbrev qEK:qI:=⟨[yT4,yT4],[.im yT4, .im yT14],qf3⟩
theorem qsZ:FOK Tryz.prog 110 qEK:=mkC (qA qE qk3) (zI qD qFE) Tryz.func110 9 (by kernel_rfl) (by kernel_rfl) (fun x=>by kernel_rfl)
noncomputable abbrev qvB:qI:=⟨[yT6],[.im yT6],qoP⟩
theorem qxK:FOK Tryz.prog 118 qvB:=mkC qE qD Tryz.func118 3 (by kernel_rfl) (by kernel_rfl) (fun x=>by kernel_rfl)
noncomputable abbrev qBF:qI:=⟨[yT3,yT4],[.im yT3, .im yT4],qdN⟩
theorem qp4:FOK Tryz.prog 122 qBF:=mkC qE qD Tryz.func122 6 (by kernel_rfl) (by kernel_rfl) (fun x=>by kernel_rfl)
noncomputable abbrev qER:qI:=⟨[yT1,yT4],[.im yT1],qmA⟩
theorem qGE:FOK Tryz.prog 125 qER:=mkC qE qD Tryz.func125 7 (by kernel_rfl) (by kernel_rfl) (fun x=>by kernel_rfl)
noncomputable abbrev qK0:qI:=⟨[yT12,yT12],[.im yT14],qDa⟩
theorem qLE:FOK Tryz.prog 325 qK0:=mkC (qA qE qh6) qD Tryz.func325 5 (by kernel_rfl) (by kernel_rfl) (fun x=>by kernel_rfl)
noncomputable abbrev qKX:qI:=⟨[yT12],[.im yT14],quM⟩
theorem qLB:FOK Tryz.prog 237 qKX:=mkC (qA qE qLE) qD Tryz.func237 3 (by kernel_rfl) (by kernel_rfl) (fun x=>by kernel_rfl)
noncomputable abbrev qH1:qI:=⟨[yT12,yT4,yT4],[.im yT14],qdZ⟩
theorem qx3:FOK Tryz.prog 129 qH1:=mkC (qA qE qLB) qD Tryz.func129 7 (by kernel_rfl) (by kernel_rfl) (fun x=>by kernel_rfl)
noncomputable abbrev qBo:qI:=⟨[yT7,yT4],[.im yT7, .im yT4],qnO⟩
theorem qCN:FOK Tryz.prog 87 qBo:=mkC qE qD Tryz.func87 6 (by kernel_rfl) (by kernel_rfl) (fun x=>by kernel_rfl)
noncomputable abbrev qEi:qI:=⟨[yT2],[.im yT14],y2⟩
theorem qsT:FOK Tryz.prog 173 qEi:=mkC qE qD Tryz.func173 3 (by kernel_rfl) (by kernel_rfl) (fun x=>by kernel_rfl)
noncomputable abbrev qBi:qI:=⟨[yT6],[.im yT14],yN⟩
theorem qh0:FOK Tryz.prog 67 qBi:=mkC (qA qE qsT) qD Tryz.func67 6 (by kernel_rfl) (by kernel_rfl) (fun x=>by kernel_rfl)
noncomputable abbrev qEj:qI:=⟨[yT6],[.im yT6, .im yT4],qq4⟩
theorem qGj:FOK Tryz.prog 132 qEj:=mkC qE qD Tryz.func132 4 (by kernel_rfl) (by kernel_rfl) (fun x=>by kernel_rfl)
noncomputable abbrev qyE:qI:=⟨[yT4],[.im yT14],x3⟩
theorem qnD:FOK Tryz.prog 133 qyE:=mkC qE qD Tryz.func133 3 (by kernel_rfl) (by kernel_rfl) (fun x=>by kernel_rfl)
noncomputable abbrev qBB:qI:=⟨[yT4,yT4],[.im yT4],vA⟩
theorem qh1:FOK Tryz.prog 202 qBB:=mkC qE qD Tryz.func202 7 (by kernel_rfl) (by kernel_rfl) (fun x=>by kernel_rfl)
noncomputable abbrev qHL:qI:=⟨[yT4,yT4],[.ow yT11, .im yT4],qjZ⟩
theorem qxT:FOK Tryz.prog 246 qHL:=mkC (qA qE qh1) qD Tryz.func246 8 (by kernel_rfl) (by kernel_rfl) (fun x=>by kernel_rfl)
noncomputable abbrev qHI:qI:=⟨[yT4],[.ow yT11],qo1⟩
theorem qJa:FOK Tryz.prog 374 qHI:=mkC qE qD Tryz.func374 6 (by kernel_rfl) (by kernel_rfl) (fun x=>by kernel_rfl)
noncomputable abbrev qED:qI:=⟨[],[.ow yT19],ql4⟩
theorem qsY:FOK Tryz.prog 375 qED:=mkC qE qD Tryz.func375 1 (by kernel_rfl) (by kernel_rfl) (fun x=>by kernel_rfl)
noncomputable abbrev qEB:qI:=⟨[yT19,yT19],[.im yT19],jV⟩
theorem qGw:FOK Tryz.prog 392 qEB:=mkC qE qD Tryz.func392 5 (by kernel_rfl) (by kernel_rfl) (fun x=>by kernel_rfl)
noncomputable abbrev qEC:qI:=⟨[(.ar 8 yT19),yT5,yT4,(.sl yT19)],[.im (.ar 8 yT19)],qfY⟩
theorem qsX:FOK Tryz.prog 376 qEC:=mkC (qA qE qGw) qD Tryz.func376 30 (by kernel_rfl) (by kernel_rfl) (fun x=>by kernel_rfl)
noncomputable abbrev qHG:qI:=⟨[yT17],[.ow yT11],qjV⟩
theorem qI8:FOK Tryz.prog 327 qHG:=mkC (qA (qA (qA qE qsX) qsY) qJa) qD Tryz.func327 9 (by kernel_rfl) (by kernel_rfl) (fun x=>by kernel_rfl)
noncomputable abbrev qHH:qI:=⟨[yT17,yT5],[.im yT17],qjW⟩
theorem qI9:FOK Tryz.prog 328 qHH:=mkC (qA (qA qE qsX) qsY) qD Tryz.func328 8 (by kernel_rfl) (by kernel_rfl) (fun x=>by kernel_rfl)
noncomputable abbrev qHJ:qI:=⟨[],[.im yT17],qv9⟩
theorem qJb:FOK Tryz.prog 329 qHJ:=mkC qE qD Tryz.func329 1 (by kernel_rfl) (by kernel_rfl) (fun x=>by kernel_rfl)
noncomputable abbrev qKR:qI:=⟨[yT5],[.ow yT11],qhA⟩
theorem qrP:FOK Tryz.prog 250 qKR:=mkC (qA (qA (qA qE qJb) qI9) qI8) qD Tryz.func250 3 (by kernel_rfl) (by kernel_rfl) (fun x=>by kernel_rfl)
noncomputable abbrev qBz:qI:=⟨[yT5],[.ow yT11],qg9⟩
theorem qCV:FOK Tryz.prog 249 qBz:=mkC (qA qE qrP) qD Tryz.func249 4 (by kernel_rfl) (by kernel_rfl) (fun x=>by kernel_rfl)
noncomputable abbrev qHF:qI:=⟨[yT5,yT5],[.ow yT11],qjT⟩
theorem qxS:FOK Tryz.prog 150 qHF:=mkC (qA (qA qE qrP) qCV) qD Tryz.func150 9 (by kernel_rfl) (by kernel_rfl) (fun x=>by kernel_rfl)
noncomputable abbrev qEA:qI:=⟨[.str,(.sl yT5)],[.ow yT11],ql3⟩
theorem qGv:FOK Tryz.prog 326 qEA:=mkC qE qD Tryz.func326 7 (by kernel_rfl) (by kernel_rfl) (fun x=>by kernel_rfl)
noncomputable abbrev qyM:qI:=⟨[yT5, .str,(.sl yT5)],[.ow yT11, .im yT4],qd7⟩
theorem qzV:FOK Tryz.prog 247 qyM:=mkC (qA (qA qE qGv) qxS) qD Tryz.func247 9 (by kernel_rfl) (by kernel_rfl) (fun x=>by kernel_rfl)
noncomputable abbrev qyK:qI:=⟨[yT4],[.ow yT11, .im yT4],yZ⟩
theorem qe7:FOK Tryz.prog 248 qyK:=mkC (qA (qA qE qrP) qxT) qD Tryz.func248 7 (by kernel_rfl) (by kernel_rfl) (fun x=>by kernel_rfl)
noncomputable abbrev qHr:qI:=⟨[],[.im yT10],qoV⟩
theorem qIX:FOK Tryz.prog 142 qHr:=mkC (qA qE qe7) qD Tryz.func142 3 (by kernel_rfl) (by kernel_rfl) (fun x=>by kernel_rfl)
noncomputable abbrev qHC:qI:=⟨[.bool],[.im yT9],qv7⟩
theorem qI6:FOK Tryz.prog 143 qHC:=mkC qE qD Tryz.func143 3 (by kernel_rfl) (by kernel_rfl) (fun x=>by kernel_rfl)
noncomputable abbrev qHy:qI:=⟨[yT20,yT11],[.im yT20, .ow yT11],qfV⟩
theorem qI3:FOK Tryz.prog 292 qHy:=mkC qE qD Tryz.func292 7 (by kernel_rfl) (by kernel_rfl) (fun x=>by kernel_rfl)
noncomputable abbrev qEq:qI:=⟨[yT20,yT5],[.im yT20, .ow yT5],qq7⟩
theorem qGn:FOK Tryz.prog 196 qEq:=mkC (qA qE qI3) qD Tryz.func196 10 (by kernel_rfl) (by kernel_rfl) (fun x=>by kernel_rfl)
noncomputable abbrev qDS:qI:=⟨[yT5],[.im yT5],qlK⟩
theorem qF3:FOK Tryz.prog 89 qDS:=mkC (qA qE qGn) qD Tryz.func89 5 (by kernel_rfl) (by kernel_rfl) (fun x=>by kernel_rfl)
noncomputable abbrev qvF:qI:=⟨[yT5,yT4,yT4],[.im yT4, .im yT4, .im yT4],wL⟩
theorem qk0:FOK Tryz.prog 266 qvF:=mkC qE qD Tryz.func266 11 (by kernel_rfl) (by kernel_rfl) (fun x=>by kernel_rfl)
noncomputable abbrev qEf:qI:=⟨[yT5,yT4,yT4],[.im yT4],kG⟩
theorem qGg:FOK Tryz.prog 194 qEf:=mkC (qA qE qk0) qD Tryz.func194 10 (by kernel_rfl) (by kernel_rfl) (fun x=>by kernel_rfl)
noncomputable abbrev qyL:qI:=⟨[yT4],[.im yT14],y0⟩
theorem qzU:FOK Tryz.prog 360 qyL:=mkC qE qD Tryz.func360 3 (by kernel_rfl) (by kernel_rfl) (fun x=>by kernel_rfl)
noncomputable abbrev qBd:qI:=⟨[yT8],[.im yT14],qc7⟩
theorem qpY:FOK Tryz.prog 291 qBd:=mkC (qA qE qzU) qD Tryz.func291 6 (by kernel_rfl) (by kernel_rfl) (fun x=>by kernel_rfl)
noncomputable abbrev qBf:qI:=⟨[yT8],[.im yT14],qaM⟩
theorem qpZ:FOK Tryz.prog 195 qBf:=mkC (qA qE qpY) qD Tryz.func195 4 (by kernel_rfl) (by kernel_rfl) (fun x=>by kernel_rfl)
noncomputable abbrev qEg:qI:=⟨[yT5],[.im yT8, .im yT4],qlU⟩
theorem qGh:FOK Tryz.prog 88 qEg:=mkC (qA (qA qE qpZ) qGg) qD Tryz.func88 7 (by kernel_rfl) (by kernel_rfl) (fun x=>by kernel_rfl)
noncomputable abbrev qA5:qI:=⟨[yT1,yT4],[.im yT1],xE⟩
theorem qpV:FOK Tryz.prog 212 qA5:=mkC qE qD Tryz.func212 7 (by kernel_rfl) (by kernel_rfl) (fun x=>by kernel_rfl)
noncomputable abbrev qyJ:qI:=⟨[yT4],[.im yT14],x7⟩
theorem yB:FOK Tryz.prog 28 qyJ:=mkC qE qD Tryz.func28 3 (by kernel_rfl) (by kernel_rfl) (fun x=>by kernel_rfl)
noncomputable abbrev qD2:qI:=⟨[yT0],[.im (.ar 2 yT4)],jN⟩
theorem qbN:FOK Tryz.prog 36 qD2:=mkC qE qD Tryz.func36 3 (by kernel_rfl) (by kernel_rfl) (fun x=>by kernel_rfl)
noncomputable abbrev qEl:qI:=⟨[yT6,yT4],[.im yT5, .im yT14],qq5⟩
theorem qsU:FOK Tryz.prog 215 qEl:=mkC qE qD Tryz.func215 6 (by kernel_rfl) (by kernel_rfl) (fun x=>by kernel_rfl)
noncomputable abbrev qA1:qI:=⟨[yT0,yT8],[.im yT14],qgT⟩
theorem qCA:FOK Tryz.prog 213 qA1:=mkC (qA (qA (qA qE qsU) qbN) yB) qD Tryz.func213 9 (by kernel_rfl) (by kernel_rfl) (fun x=>by kernel_rfl)
noncomputable abbrev qD4:qI:=⟨[yT5],[.ow yT11],yY⟩
theorem qsP:FOK Tryz.prog 214 qD4:=mkC (qA qE qzV) qD Tryz.func214 5 (by kernel_rfl) (by kernel_rfl) (fun x=>by kernel_rfl)
noncomputable abbrev qHt:qI:=⟨[yT4,yT4],[.ow yT11],jO⟩
theorem qIZ:FOK Tryz.prog 300 qHt:=mkC (qA qE qxT) qD Tryz.func300 7 (by kernel_rfl) (by kernel_rfl) (fun x=>by kernel_rfl)
noncomputable abbrev qBg:qI:=⟨[yT8],[.ow yT11, .im yT4],yM⟩
theorem qhZ:FOK Tryz.prog 216 qBg:=mkC (qA (qA qE qIZ) qpY) qD Tryz.func216 6 (by kernel_rfl) (by kernel_rfl) (fun x=>by kernel_rfl)
noncomputable abbrev qEF:qI:=⟨[yT5,yT5],[.im yT14],zL⟩
theorem z9:FOK Tryz.prog 39 qEF:=mkC qE qD Tryz.func39 5 (by kernel_rfl) (by kernel_rfl) (fun x=>by kernel_rfl)
noncomputable abbrev qBx:qI:=⟨[yT5,yT5],[.ow yT11],qaP⟩
theorem qp3:FOK Tryz.prog 301 qBx:=mkC (qA qE qxS) qD Tryz.func301 5 (by kernel_rfl) (by kernel_rfl) (fun x=>by kernel_rfl)
noncomputable abbrev qHD:qI:=⟨[yT9,yT5,yT5],[.im yT14],qjR⟩
theorem qxR:FOK Tryz.prog 302 qHD:=mkC (qA qE z9) qD Tryz.func302 8 (by kernel_rfl) (by kernel_rfl) (fun x=>by kernel_rfl)
noncomputable abbrev qBy:qI:=⟨[yT9,yT5,yT5,yT5],[.im yT9, .im yT14],qdF⟩
theorem qCU:FOK Tryz.prog 217 qBy:=mkC (qA (qA (qA qE qxR) qp3) z9) qD Tryz.func217 11 (by kernel_rfl) (by kernel_rfl) (fun x=>by kernel_rfl)
noncomputable abbrev qBj:qI:=⟨[yT4],[.im (.int .u64)],qdA⟩
theorem qp0:FOK Tryz.prog 305 qBj:=mkC qE qD Tryz.func305 5 (by kernel_rfl) (by kernel_rfl) (fun x=>by kernel_rfl)
noncomputable abbrev qHv:qI:=⟨[yT16,yT4],[.im yT14],qbE⟩
theorem qnZ:FOK Tryz.prog 240 qHv:=mkC (qA qE qp0) qD Tryz.func240 5 (by kernel_rfl) (by kernel_rfl) (fun x=>by kernel_rfl)
noncomputable abbrev qBm:qI:=⟨[yT16,yT4],[.im yT14],qvX⟩
theorem qCL:FOK Tryz.prog 303 qBm:=mkC (qA qE qnZ) qD Tryz.func303 5 (by kernel_rfl) (by kernel_rfl) (fun x=>by kernel_rfl)
noncomputable abbrev qBk:qI:=⟨[yT16],[.ow yT4],qvW⟩
theorem qCJ:FOK Tryz.prog 304 qBk:=mkC (qA qE qnZ) qD Tryz.func304 6 (by kernel_rfl) (by kernel_rfl) (fun x=>by kernel_rfl)
noncomputable abbrev qEm:qI:=⟨[yT16,yT4],[.im yT16, .im yT4],qq6⟩
theorem qGk:FOK Tryz.prog 218 qEm:=mkC (qA (qA (qA qE qp0) qCJ) qCL) qD Tryz.func218 12 (by kernel_rfl) (by kernel_rfl) (fun x=>by kernel_rfl)
noncomputable abbrev qDZ:qI:=⟨[yT1,yT5],[.im yT1, .im yT8, .im yT4],qfP⟩
theorem qF9:FOK Tryz.prog 101 qDZ:=mkC (qA (qA (qA (qA (qA (qA (qA (qA (qA qE qGk) qCU) qhZ) qsU) qsP) qCA) qpV) qGj) qGh) qD Tryz.func101 21 (by kernel_rfl) (by kernel_rfl) (fun x=>by kernel_rfl)
noncomputable abbrev qvH:qI:=⟨[.str],[.im yT14],wM⟩
theorem qk2:FOK Tryz.prog 201 qvH:=mkC qE qD Tryz.func201 4 (by kernel_rfl) (by kernel_rfl) (fun x=>by kernel_rfl)
noncomputable abbrev qBC:qI:=⟨[.str],[.im yT4, .im yT4],yP⟩
theorem qh2:FOK Tryz.prog 92 qBC:=mkC (qA (qA qE qh1) qk2) qD Tryz.func92 6 (by kernel_rfl) (by kernel_rfl) (fun x=>by kernel_rfl)
noncomputable abbrev qEt:qI:=⟨[yT4],[.im yT14],qfW⟩
theorem qsW:FOK Tryz.prog 95 qEt:=mkC qE qD Tryz.func95 3 (by kernel_rfl) (by kernel_rfl) (fun x=>by kernel_rfl)
noncomputable abbrev qvG:qI:=⟨[yT5,yT4,yT4],[.im (.str), .im yT4, .im yT4],j0⟩
theorem qk1:FOK Tryz.prog 197 qvG:=mkC qE qD Tryz.func197 13 (by kernel_rfl) (by kernel_rfl) (fun x=>by kernel_rfl)
noncomputable abbrev qBu:qI:=⟨[yT4],[.im yT4, .im yT11],yO⟩
theorem qp1:FOK Tryz.prog 298 qBu:=mkC qE qD Tryz.func298 6 (by kernel_rfl) (by kernel_rfl) (fun x=>by kernel_rfl)
noncomputable abbrev qHA:qI:=⟨[yT5,yT4],[.im yT14],wK⟩
theorem qI4:FOK Tryz.prog 293 qHA:=mkC (qA qE qp1) qD Tryz.func293 7 (by kernel_rfl) (by kernel_rfl) (fun x=>by kernel_rfl)
noncomputable abbrev qEv:qI:=⟨[yT5,yT4],[.ow yT4, .im yT4, .im yT4],ql0⟩
theorem qGr:FOK Tryz.prog 198 qEv:=mkC (qA qE qI4) qD Tryz.func198 12 (by kernel_rfl) (by kernel_rfl) (fun x=>by kernel_rfl)
noncomputable abbrev qKP:qI:=⟨[(.sl yT4),yT4],[.im yT14],qoZ⟩
theorem qLu:FOK Tryz.prog 294 qKP:=mkC qE qD Tryz.func294 6 (by kernel_rfl) (by kernel_rfl) (fun x=>by kernel_rfl)
noncomputable abbrev qKQ:qI:=⟨[yT4],[.im yT15, .im yT14],qg8⟩
theorem qmH:FOK Tryz.prog 199 qKQ:=mkC (qA qE qLu) qD Tryz.func199 7 (by kernel_rfl) (by kernel_rfl) (fun x=>by kernel_rfl)
noncomputable abbrev qBv:qI:=⟨[yT4],[.im yT4],qaO⟩
theorem qp2:FOK Tryz.prog 295 qBv:=mkC qE qD Tryz.func295 3 (by kernel_rfl) (by kernel_rfl) (fun x=>by kernel_rfl)
noncomputable abbrev qEw:qI:=⟨[yT15,yT5],[.im yT14],xQ⟩
theorem qkZ:FOK Tryz.prog 296 qEw:=mkC qE qD Tryz.func296 6 (by kernel_rfl) (by kernel_rfl) (fun x=>by kernel_rfl)
noncomputable abbrev qEx:qI:=⟨[yT4,yT5,yT4],[.ow yT11, .im yT4, .im yT4],ql1⟩
theorem qGs:FOK Tryz.prog 200 qEx:=mkC (qA (qA (qA (qA (qA qE qkZ) qp2) qmH) qk1) qh2) qD Tryz.func200 23 (by kernel_rfl) (by kernel_rfl) (fun x=>by kernel_rfl)
noncomputable abbrev qEu:qI:=⟨[yT5],[.im yT13, .im yT4],qlZ⟩
theorem qGq:FOK Tryz.prog 90 qEu:=mkC (qA (qA (qA (qA (qA (qA qE qGs) qmH) qGr) qk1) qsW) qh2) qD Tryz.func90 20 (by kernel_rfl) (by kernel_rfl) (fun x=>by kernel_rfl)
noncomputable abbrev qHz:qI:=⟨[yT13,yT4],[.im yT5, .im yT14],qdD⟩
theorem qxQ:FOK Tryz.prog 91 qHz:=mkC qE qD Tryz.func91 7 (by kernel_rfl) (by kernel_rfl) (fun x=>by kernel_rfl)
noncomputable abbrev qBa:qI:=⟨[yT4],[.im yT14],qc4⟩
theorem qpX:FOK Tryz.prog 120 qBa:=mkC qE qD Tryz.func120 3 (by kernel_rfl) (by kernel_rfl) (fun x=>by kernel_rfl)
noncomputable abbrev qA7:qI:=⟨[yT3],[.im yT14],qc3⟩
theorem qpW:FOK Tryz.prog 30 qA7:=mkC (qA qE qpX) qD Tryz.func30 4 (by kernel_rfl) (by kernel_rfl) (fun x=>by kernel_rfl)
noncomputable abbrev qEy:qI:=⟨[yT4,yT5],[.im yT14],ql2⟩
theorem qGt:FOK Tryz.prog 285 qEy:=mkC (qA (qA qE qkZ) qmH) qD Tryz.func285 8 (by kernel_rfl) (by kernel_rfl) (fun x=>by kernel_rfl)
noncomputable abbrev qBr:qI:=⟨[yT13],[.im yT14],qg5⟩
theorem qCQ:FOK Tryz.prog 203 qBr:=mkC (qA (qA qE qGt) qsW) qD Tryz.func203 5 (by kernel_rfl) (by kernel_rfl) (fun x=>by kernel_rfl)
noncomputable abbrev qyN:qI:=⟨[yT4,yT4],[.im (.str), .im yT4],x8⟩
theorem qe8:FOK Tryz.prog 96 qyN:=mkC (qA qE qh1) qD Tryz.func96 8 (by kernel_rfl) (by kernel_rfl) (fun x=>by kernel_rfl)
noncomputable abbrev qHM:qI:=⟨[.str],[.ow yT11, .im yT4],kW⟩
theorem qxU:FOK Tryz.prog 206 qHM:=mkC (qA qE qk2) qD Tryz.func206 6 (by kernel_rfl) (by kernel_rfl) (fun x=>by kernel_rfl)
noncomputable abbrev qBw:qI:=⟨[yT4,yT5],[.ow yT11, .im yT4],qdE⟩
theorem qCT:FOK Tryz.prog 204 qBw:=mkC (qA (qA (qA (qA (qA qE qkZ) qp2) qxU) qmH) qe8) qD Tryz.func204 16 (by kernel_rfl) (by kernel_rfl) (fun x=>by kernel_rfl)
noncomputable abbrev qBt:qI:=⟨[(.sl yT4)],[.im yT14],qg7⟩
theorem qCS:FOK Tryz.prog 297 qBt:=mkC qE qD Tryz.func297 4 (by kernel_rfl) (by kernel_rfl) (fun x=>by kernel_rfl)
noncomputable abbrev qBs:qI:=⟨[(.sl yT4)],[.ow yT11, .im yT4],qg6⟩
theorem qCR:FOK Tryz.prog 205 qBs:=mkC (qA (qA qE qp1) qCS) qD Tryz.func205 11 (by kernel_rfl) (by kernel_rfl) (fun x=>by kernel_rfl)
noncomputable abbrev qEs:qI:=⟨[yT4],[.im (.str)],qlY⟩
theorem qGp:FOK Tryz.prog 207 qEs:=mkC (qA qE qe8) qD Tryz.func207 5 (by kernel_rfl) (by kernel_rfl) (fun x=>by kernel_rfl)
noncomputable abbrev qBq:qI:=⟨[yT13],[.ow yT11, .im yT4],qg4⟩
theorem qCP:FOK Tryz.prog 97 qBq:=mkC (qA (qA (qA (qA (qA qE qGp) qxU) qCR) qCT) qCQ) qD Tryz.func97 14 (by kernel_rfl) (by kernel_rfl) (fun x=>by kernel_rfl)
noncomputable abbrev qvC:qI:=⟨[yT4,yT4],[.ow yT11],q9⟩
theorem qxN:FOK Tryz.prog 339 qvC:=mkC (qA qE qe8) qD Tryz.func339 7 (by kernel_rfl) (by kernel_rfl) (fun x=>by kernel_rfl)
noncomputable abbrev qEE:qI:=⟨[yT11],[.im yT11],qfZ⟩
theorem qGx:FOK Tryz.prog 379 qEE:=mkC qE qD Tryz.func379 3 (by kernel_rfl) (by kernel_rfl) (fun x=>by kernel_rfl)
noncomputable abbrev qHK:qI:=⟨[yT5],[.im (.str)],qjY⟩
theorem qJc:FOK Tryz.prog 340 qHK:=mkC (qA qE qGx) qD Tryz.func340 5 (by kernel_rfl) (by kernel_rfl) (fun x=>by kernel_rfl)
noncomputable abbrev qvD:qI:=⟨[yT3],[.im yT13],qb4⟩
theorem qxO:FOK Tryz.prog 265 qvD:=mkC (qA (qA qE qJc) qxN) qD Tryz.func265 4 (by kernel_rfl) (by kernel_rfl) (fun x=>by kernel_rfl)
noncomputable abbrev qA6:qI:=⟨[yT3],[.ow yT11, .im yT4],qaI⟩
theorem qhX:FOK Tryz.prog 171 qA6:=mkC (qA (qA (qA qE qxO) qCP) qpW) qD Tryz.func171 7 (by kernel_rfl) (by kernel_rfl) (fun x=>by kernel_rfl)
noncomputable abbrev qBA:qI:=⟨[yT11],[.im yT4],qhB⟩
theorem qCW:FOK Tryz.prog 306 qBA:=mkC qE qD Tryz.func306 3 (by kernel_rfl) (by kernel_rfl) (fun x=>by kernel_rfl)
noncomputable abbrev qBD:qI:=⟨[.str],[.ow yT11, .im yT4],qdG⟩
theorem qCX:FOK Tryz.prog 219 qBD:=mkC (qA qE qCW) qD Tryz.func219 8 (by kernel_rfl) (by kernel_rfl) (fun x=>by kernel_rfl)
noncomputable abbrev qyH:qI:=⟨[yT13,yT4],[.im yT4],x5⟩
theorem qzS:FOK Tryz.prog 220 qyH:=mkC (qA (qA qE qh2) qxQ) qD Tryz.func220 9 (by kernel_rfl) (by kernel_rfl) (fun x=>by kernel_rfl)
noncomputable abbrev qD5:qI:=⟨[yT5],[.im yT3, .im yT4],qlP⟩
theorem qGa:FOK Tryz.prog 102 qD5:=mkC (qA (qA (qA (qA (qA (qA qE qzS) qCX) qhX) qxQ) qGq) z9) qD Tryz.func102 15 (by kernel_rfl) (by kernel_rfl) (fun x=>by kernel_rfl)
noncomputable abbrev qBc:qI:=⟨[yT10],[.im yT14],yL⟩
theorem qhY:FOK Tryz.prog 65 qBc:=mkC qE qD Tryz.func65 3 (by kernel_rfl) (by kernel_rfl) (fun x=>by kernel_rfl)
noncomputable abbrev qBl:qI:=⟨[yT16],[.im yT14],qg1⟩
theorem qCK:FOK Tryz.prog 134 qBl:=mkC (qA qE qnZ) qD Tryz.func134 5 (by kernel_rfl) (by kernel_rfl) (fun x=>by kernel_rfl)
noncomputable abbrev qEh:qI:=⟨[yT2],[.im yT14],qcI⟩
theorem qGi:FOK Tryz.prog 241 qEh:=mkC qE qD Tryz.func241 3 (by kernel_rfl) (by kernel_rfl) (fun x=>by kernel_rfl)
noncomputable abbrev qBh:qI:=⟨[yT6],[.im yT14],qg0⟩
theorem qCI:FOK Tryz.prog 135 qBh:=mkC (qA (qA (qA qE qGi) qsT) qh0) qD Tryz.func135 9 (by kernel_rfl) (by kernel_rfl) (fun x=>by kernel_rfl)
noncomputable abbrev qD6:qI:=⟨[yT4,yT4,yT5],[.im yT14],qfS⟩
theorem qsQ:FOK Tryz.prog 208 qD6:=mkC (qA qE qpX) qD Tryz.func208 8 (by kernel_rfl) (by kernel_rfl) (fun x=>by kernel_rfl)
noncomputable abbrev qD9:qI:=⟨[yT12],[.im yT14],qfT⟩
theorem qsR:FOK Tryz.prog 239 qD9:=mkC qE qD Tryz.func239 3 (by kernel_rfl) (by kernel_rfl) (fun x=>by kernel_rfl)
noncomputable abbrev qA8:qI:=⟨[yT12],[.im yT14],qgW⟩
theorem qCE:FOK Tryz.prog 136 qA8:=mkC (qA (qA qE qsR) qsQ) qD Tryz.func136 5 (by kernel_rfl) (by kernel_rfl) (fun x=>by kernel_rfl)
noncomputable abbrev qBp:qI:=⟨[yT20],[.im yT14],qg3⟩
theorem qCO:FOK Tryz.prog 242 qBp:=mkC qE qD Tryz.func242 4 (by kernel_rfl) (by kernel_rfl) (fun x=>by kernel_rfl)
noncomputable abbrev qEp:qI:=⟨[yT20,yT20],[.im yT14],qaN⟩
theorem qsV:FOK Tryz.prog 243 qEp:=mkC (qA qE z9) qD Tryz.func243 5 (by kernel_rfl) (by kernel_rfl) (fun x=>by kernel_rfl)
noncomputable abbrev qBn:qI:=⟨[yT7],[.im yT14],qg2⟩
theorem qCM:FOK Tryz.prog 137 qBn:=mkC (qA (qA qE qsV) qCO) qD Tryz.func137 6 (by kernel_rfl) (by kernel_rfl) (fun x=>by kernel_rfl)
noncomputable abbrev qEa:qI:=⟨[yT4],[.im yT14],qfU⟩
theorem qsS:FOK Tryz.prog 112 qEa:=mkC qE qD Tryz.func112 3 (by kernel_rfl) (by kernel_rfl) (fun x=>by kernel_rfl)
noncomputable abbrev qA2:qI:=⟨[yT0],[.im yT14],qgU⟩
theorem qCB:FOK Tryz.prog 138 qA2:=mkC (qA qE qsS) qD Tryz.func138 4 (by kernel_rfl) (by kernel_rfl) (fun x=>by kernel_rfl)
noncomputable abbrev qDY:qI:=⟨[yT4],[.im yT4],qq1⟩
theorem qF8:FOK Tryz.prog 244 qDY:=mkC qE qD Tryz.func244 4 (by kernel_rfl) (by kernel_rfl) (fun x=>by kernel_rfl)
noncomputable abbrev qDX:qI:=⟨[yT0],[.im yT14],qlO⟩
theorem qF7:FOK Tryz.prog 245 qDX:=mkC (qA qE qh0) qD Tryz.func245 4 (by kernel_rfl) (by kernel_rfl) (fun x=>by kernel_rfl)
noncomputable abbrev qyF:qI:=⟨[yT0],[.im yT14],qd5⟩
theorem qzQ:FOK Tryz.prog 139 qyF:=mkC (qA (qA (qA qE qF7) qF8) yB) qD Tryz.func139 5 (by kernel_rfl) (by kernel_rfl) (fun x=>by kernel_rfl)
noncomputable abbrev qA4:qI:=⟨[yT0],[.im yT14],qc1⟩
theorem qCD:FOK Tryz.prog 35 qA4:=mkC (qA (qA (qA (qA (qA (qA (qA (qA qE qzQ) qCB) qCM) qCE) qCI) qCK) qnD) qhY) qD Tryz.func35 13 (by kernel_rfl) (by kernel_rfl) (fun x=>by kernel_rfl)
noncomputable abbrev qHs:qI:=⟨[yT10],[.im yT14],qoW⟩
theorem qIY:FOK Tryz.prog 221 qHs:=mkC qE qD Tryz.func221 3 (by kernel_rfl) (by kernel_rfl) (fun x=>by kernel_rfl)
noncomputable abbrev qHu:qI:=⟨[yT6],[.im yT14],qoX⟩
theorem qI0:FOK Tryz.prog 222 qHu:=mkC qE qD Tryz.func222 3 (by kernel_rfl) (by kernel_rfl) (fun x=>by kernel_rfl)
noncomputable abbrev qHw:qI:=⟨[yT7],[.im yT14],qoY⟩
theorem qI1:FOK Tryz.prog 223 qHw:=mkC qE qD Tryz.func223 3 (by kernel_rfl) (by kernel_rfl) (fun x=>by kernel_rfl)
noncomputable abbrev qEH:qI:=⟨[(.sl yT5),yT4],[.im yT4],ql6⟩
theorem qGz:FOK Tryz.prog 224 qEH:=mkC qE qD Tryz.func224 7 (by kernel_rfl) (by kernel_rfl) (fun x=>by kernel_rfl)
noncomputable abbrev qHo:qI:=⟨[yT0],[.im yT14],qjM⟩
theorem qIU:FOK Tryz.prog 103 qHo:=mkC (qA (qA (qA (qA qE qGz) qI1) qI0) qIY) qD Tryz.func103 8 (by kernel_rfl) (by kernel_rfl) (fun x=>by kernel_rfl)
noncomputable abbrev qHE:qI:=⟨[yT9,yT4],[.im yT14],qjS⟩
theorem qI7:FOK Tryz.prog 104 qHE:=mkC qE qD Tryz.func104 6 (by kernel_rfl) (by kernel_rfl) (fun x=>by kernel_rfl)
noncomputable abbrev qHm:qI:=⟨[yT1],[.im yT14],qjK⟩
theorem qxL:FOK Tryz.prog 22 qHm:=mkC (qA (qA (qA qE qI7) qIU) qCD) qD Tryz.func22 5 (by kernel_rfl) (by kernel_rfl) (fun x=>by kernel_rfl)
noncomputable abbrev qBb:qI:=⟨[yT4,yT4,yT5],[.im yT12, .im yT4],qgY⟩
theorem qCG:FOK Tryz.prog 98 qBb:=mkC (qA qE qsQ) qD Tryz.func98 9 (by kernel_rfl) (by kernel_rfl) (fun x=>by kernel_rfl)
noncomputable abbrev qHx:qI:=⟨[yT7],[.im yT14],qvZ⟩
theorem qI2:FOK Tryz.prog 378 qHx:=mkC qE qD Tryz.func378 3 (by kernel_rfl) (by kernel_rfl) (fun x=>by kernel_rfl)
noncomputable abbrev qEo:qI:=⟨[yT7],[.im yT7, .im yT4, .im yT4],qlW⟩
theorem qGm:FOK Tryz.prog 334 qEo:=mkC (qA qE qI2) qD Tryz.func334 7 (by kernel_rfl) (by kernel_rfl) (fun x=>by kernel_rfl)
noncomputable abbrev qHB:qI:=⟨[yT9,yT5,yT5],[.im yT9, .ow yT11],qo0⟩
theorem qI5:FOK Tryz.prog 335 qHB:=mkC (qA (qA qE qxR) qp3) qD Tryz.func335 9 (by kernel_rfl) (by kernel_rfl) (fun x=>by kernel_rfl)
noncomputable abbrev qBe:qI:=⟨[yT8],[.ow yT11, .im yT4],qgZ⟩
theorem qCH:FOK Tryz.prog 336 qBe:=mkC (qA (qA qE qhZ) qpZ) qD Tryz.func336 7 (by kernel_rfl) (by kernel_rfl) (fun x=>by kernel_rfl)
noncomputable abbrev qEr:qI:=⟨[yT5],[.ow yT11, .im yT4],qlX⟩
theorem qGo:FOK Tryz.prog 337 qEr:=mkC qE qD Tryz.func337 4 (by kernel_rfl) (by kernel_rfl) (fun x=>by kernel_rfl)
noncomputable abbrev qDW:qI:=⟨[yT1,yT8,yT5],[.im yT1, .im yT4],qcG⟩
theorem qsL:FOK Tryz.prog 260 qDW:=mkC (qA (qA (qA (qA (qA qE qGo) qCH) qI5) qGm) qhZ) qD Tryz.func260 19 (by kernel_rfl) (by kernel_rfl) (fun x=>by kernel_rfl)
noncomputable abbrev qD0:qI:=⟨[yT1,yT5],[.im yT1, .im yT4],qcH⟩
theorem qsM:FOK Tryz.prog 165 qD0:=mkC (qA (qA (qA qE qsL) qbN) yB) qD Tryz.func165 9 (by kernel_rfl) (by kernel_rfl) (fun x=>by kernel_rfl)
noncomputable abbrev qD7:qI:=⟨[yT4],[.im yT4],qlQ⟩
theorem qGb:FOK Tryz.prog 170 qD7:=mkC qE qD Tryz.func170 3 (by kernel_rfl) (by kernel_rfl) (fun x=>by kernel_rfl)
noncomputable abbrev qA3:qI:=⟨[yT1,yT4,yT5],[.im yT1, .im yT4],qgV⟩
theorem qCC:FOK Tryz.prog 172 qA3:=mkC (qA (qA (qA qE qsL) qsP) qnD) qD Tryz.func172 10 (by kernel_rfl) (by kernel_rfl) (fun x=>by kernel_rfl)
noncomputable abbrev qs5:qI:=⟨[yT1,yT3],[.im yT1],kU⟩
theorem qiN:FOK Tryz.prog 64 qs5:=mkC (qA (qA (qA (qA (qA qE qCC) qhX) qGb) qsM) qCG) qD Tryz.func64 13 (by kernel_rfl) (by kernel_rfl) (fun x=>by kernel_rfl)
noncomputable abbrev qvE:qI:=⟨[yT2,yT2],[.im yT14],wI⟩
theorem qxP:FOK Tryz.prog 144 qvE:=mkC (qA qE z9) qD Tryz.func144 5 (by kernel_rfl) (by kernel_rfl) (fun x=>by kernel_rfl)
noncomputable abbrev qEk:qI:=⟨[yT6,yT6],[.im yT14],vU⟩
theorem qkY:FOK Tryz.prog 40 qEk:=mkC (qA qE qxP) qD Tryz.func40 8 (by kernel_rfl) (by kernel_rfl) (fun x=>by kernel_rfl)
noncomputable abbrev qEG:qI:=⟨[(.sl yT5),(.sl yT5)],[.im yT14],ql5⟩
theorem qGy:FOK Tryz.prog 86 qEG:=mkC qE qD Tryz.func86 6 (by kernel_rfl) (by kernel_rfl) (fun x=>by kernel_rfl)
noncomputable abbrev qEc:qI:=⟨[yT10,yT10],[.im yT14],qlT⟩
theorem qGe:FOK Tryz.prog 145 qEc:=mkC (qA qE z9) qD Tryz.func145 5 (by kernel_rfl) (by kernel_rfl) (fun x=>by kernel_rfl)
noncomputable abbrev qD8:qI:=⟨[yT12,yT12],[.im yT14],qlR⟩
theorem qGc:FOK Tryz.prog 146 qD8:=mkC (qA qE z9) qD Tryz.func146 5 (by kernel_rfl) (by kernel_rfl) (fun x=>by kernel_rfl)
noncomputable abbrev qEn:qI:=⟨[yT7,yT7],[.im yT14],qlV⟩
theorem qGl:FOK Tryz.prog 147 qEn:=mkC (qA qE qsV) qD Tryz.func147 7 (by kernel_rfl) (by kernel_rfl) (fun x=>by kernel_rfl)
noncomputable abbrev qDV:qI:=⟨[(.sl yT2),(.sl yT2)],[.im yT14],qlN⟩
theorem qF6:FOK Tryz.prog 148 qDV:=mkC (qA qE z9) qD Tryz.func148 6 (by kernel_rfl) (by kernel_rfl) (fun x=>by kernel_rfl)
noncomputable abbrev qyG:qI:=⟨[(.sl yT18),(.sl yT18)],[.im yT14],qd6⟩
theorem qzR:FOK Tryz.prog 149 qyG:=mkC (qA qE z9) qD Tryz.func149 6 (by kernel_rfl) (by kernel_rfl) (fun x=>by kernel_rfl)
noncomputable abbrev qD1:qI:=⟨[yT0,yT0],[.im yT14],kE⟩
theorem qsN:FOK Tryz.prog 42 qD1:=mkC (qA (qA (qA (qA (qA (qA (qA (qA qE qzR) qF6) qGl) qGc) qGe) qGy) qkY) z9) qD Tryz.func42 12 (by kernel_rfl) (by kernel_rfl) (fun x=>by kernel_rfl)
noncomputable abbrev qEz:qI:=⟨[yT9,yT9],[.im yT14],qfX⟩
theorem qGu:FOK Tryz.prog 115 qEz:=mkC (qA qE z9) qD Tryz.func115 6 (by kernel_rfl) (by kernel_rfl) (fun x=>by kernel_rfl)
noncomputable abbrev qs6:qI:=⟨[yT1,yT1],[.im yT14],zT⟩
theorem qiO:FOK Tryz.prog 25 qs6:=mkC (qA (qA qE qGu) qsN) qD Tryz.func25 7 (by kernel_rfl) (by kernel_rfl) (fun x=>by kernel_rfl)
noncomputable abbrev qs7:qI:=⟨[yT6],[.im yT6],qmY⟩
theorem qt4:FOK Tryz.prog 119 qs7:=mkC qE qD Tryz.func119 3 (by kernel_rfl) (by kernel_rfl) (fun x=>by kernel_rfl)
noncomputable abbrev qHq:qI:=⟨[yT3],[.im yT14],qfR⟩
theorem qIW:FOK Tryz.prog 29 qHq:=mkC qE qD Tryz.func29 3 (by kernel_rfl) (by kernel_rfl) (fun x=>by kernel_rfl)
noncomputable abbrev qAV:qI:=⟨[yT1],[.im yT1],qaF⟩
theorem qCv:FOK Tryz.prog 127 qAV:=mkC (qA qE qpV) qD Tryz.func127 3 (by kernel_rfl) (by kernel_rfl) (fun x=>by kernel_rfl)
noncomputable abbrev qyI:qI:=⟨[yT3,yT4],[.im yT3, .im yT4],qjN⟩
theorem qzT:FOK Tryz.prog 261 qyI:=mkC qE qD Tryz.func261 6 (by kernel_rfl) (by kernel_rfl) (fun x=>by kernel_rfl)
noncomputable abbrev qAW:qI:=⟨[yT3,yT4],[.ow yT11],qcZ⟩
theorem qCw:FOK Tryz.prog 166 qAW:=mkC (qA (qA qE qzT) qhX) qD Tryz.func166 9 (by kernel_rfl) (by kernel_rfl) (fun x=>by kernel_rfl)
noncomputable abbrev qA9:qI:=⟨[yT12,yT4,yT4],[.im yT14],qgX⟩
theorem qCF:FOK Tryz.prog 131 qA9:=mkC (qA qE qsR) qD Tryz.func131 8 (by kernel_rfl) (by kernel_rfl) (fun x=>by kernel_rfl)
noncomputable abbrev qHp:qI:=⟨[yT0],[.im yT0],kV⟩
theorem qIV:FOK Tryz.prog 43 qHp:=mkC qE qD Tryz.func43 3 (by kernel_rfl) (by kernel_rfl) (fun x=>by kernel_rfl)
noncomputable abbrev wF:qI:=⟨[(.sl yT18)],[.cl yT18],zH⟩
theorem j9:FOK Tryz.prog 253 wF:=mkC qE qD Tryz.func253 3 (by kernel_rfl) (by kernel_rfl) (fun x=>by kernel_rfl)
noncomputable abbrev qHT:qI:=⟨[yT0,yT4],[.im yT0],qdO⟩
theorem qxY:FOK Tryz.prog 157 qHT:=mkC (qA (qA (qA qE j9) qe9) qdW) qD Tryz.func157 5 (by kernel_rfl) (by kernel_rfl) (fun x=>by kernel_rfl)
noncomputable abbrev qDN:qI:=⟨[yT1],[.im yT1],yV⟩
theorem qeG:FOK Tryz.prog 53 qDN:=mkC (qA qE qxY) qD Tryz.func53 4 (by kernel_rfl) (by kernel_rfl) (fun x=>by kernel_rfl)
noncomputable abbrev qAR:qI:=⟨[yT4],[.ow yT11, .im yT4],qcS⟩
theorem qpS:FOK Tryz.prog 330 qAR:=mkC (qA (qA qE qKz) qx2) qD Tryz.func330 6 (by kernel_rfl) (by kernel_rfl) (fun x=>by kernel_rfl)
noncomputable abbrev qBK:qI:=⟨[yT5,yT4,yT4],[.im yT4, .im yT4, .im yT4],qhT⟩
theorem qCZ:FOK Tryz.prog 332 qBK:=mkC qE qD Tryz.func332 12 (by kernel_rfl) (by kernel_rfl) (fun x=>by kernel_rfl)
noncomputable abbrev qHe:qI:=⟨[yT5],[.im yT4, .im yT14],qi1⟩
theorem qIR:FOK Tryz.prog 254 qHe:=mkC (qA (qA (qA qE qh6) qCZ) qpS) qD Tryz.func254 8 (by kernel_rfl) (by kernel_rfl) (fun x=>by kernel_rfl)
noncomputable abbrev qqS:qI:=⟨[yT4,yT4, .bool, .bool],[.im yT4, .im yT14],qcR⟩
theorem qrO:FOK Tryz.prog 255 qqS:=mkC qE qD Tryz.func255 10 (by kernel_rfl) (by kernel_rfl) (fun x=>by kernel_rfl)
noncomputable abbrev qHf:qI:=⟨[yT10],[.im yT4, .im yT4, .im yT14],qi2⟩
theorem qxE:FOK Tryz.prog 159 qHf:=mkC (qA (qA qE qrO) qIR) qD Tryz.func159 11 (by kernel_rfl) (by kernel_rfl) (fun x=>by kernel_rfl)
noncomputable def qiB:Inl:=inlF (eN [] [(385,vQ)]) Tryz.f377 5
theorem qhL:yE Tryz.prog 377 qiB:=mkI qE (zI qD vJ) Tryz.func377 5 (by kernel_rfl) (by kernel_rfl)
noncomputable abbrev qeP:qI:=⟨[(.sl yT5)],[.ow yT11],jB⟩
theorem qe6:FOK Tryz.prog 331 qeP:=mkC qE (zI qD qhL) Tryz.func331 9 (by kernel_rfl) (by kernel_rfl) (fun x=>by kernel_rfl)
noncomputable abbrev qHd:qI:=⟨[yT10,yT4],[.im yT10, .im yT4, .im yT4],qn8⟩
theorem qIQ:FOK Tryz.prog 251 qHd:=mkC (qA (qA (qA qE qe6) qpS) qxE) qD Tryz.func251 13 (by kernel_rfl) (by kernel_rfl) (fun x=>by kernel_rfl)
noncomputable abbrev qDH:qI:=⟨[yT1],[.im yT1, .im yT4, .im yT4],qfG⟩
theorem qsI:FOK Tryz.prog 151 qDH:=mkC (qA (qA qE qIQ) qeG) qD Tryz.func151 8 (by kernel_rfl) (by kernel_rfl) (fun x=>by kernel_rfl)
noncomputable abbrev qr3:qI:=⟨[yT1,yT4],[.im yT1],xL⟩
theorem qbM:FOK Tryz.prog 152 qr3:=mkC (qA qE qxY) qD Tryz.func152 5 (by kernel_rfl) (by kernel_rfl) (fun x=>by kernel_rfl)
noncomputable abbrev qHh:qI:=⟨[yT1,yT4],[.im yT1],qcU⟩
theorem qhW:FOK Tryz.prog 153 qHh:=mkC (qA qE qkV) qD Tryz.func153 5 (by kernel_rfl) (by kernel_rfl) (fun x=>by kernel_rfl)
noncomputable abbrev qMa:qI:=⟨[yT1],[.im yT1, .im yT4],qaC⟩
theorem qpT:FOK Tryz.prog 47 qMa:=mkC (qA (qA (qA qE qhW) qbM) qsI) qD Tryz.func47 6 (by kernel_rfl) (by kernel_rfl) (fun x=>by kernel_rfl)
noncomputable abbrev qKM:qI:=⟨[yT1],[.im yT1, .im yT4],qoB⟩
theorem qAD:FOK Tryz.prog 49 qKM:=mkC (qA (qA (qA (qA qE qhW) qbM) qxK) qsZ) qD Tryz.func49 6 (by kernel_rfl) (by kernel_rfl) (fun x=>by kernel_rfl)
noncomputable abbrev qHi:qI:=⟨[yT1],[.im yT1, .im yT4],qjA⟩
theorem qxH:FOK Tryz.prog 51 qHi:=mkC (qA (qA qE qhW) qGB) qD Tryz.func51 4 (by kernel_rfl) (by kernel_rfl) (fun x=>by kernel_rfl)
noncomputable abbrev qL9:qI:=⟨[yT1,yT4],[.im yT1],qcT⟩
theorem qxF:FOK Tryz.prog 160 qL9:=mkC (qA qE qsZ) qD Tryz.func160 5 (by kernel_rfl) (by kernel_rfl) (fun x=>by kernel_rfl)
noncomputable abbrev qHj:qI:=⟨[yT1],[.im yT1],qfI⟩
theorem qnY:FOK Tryz.prog 55 qHj:=mkC (qA (qA qE qxF) qxE) qD Tryz.func55 6 (by kernel_rfl) (by kernel_rfl) (fun x=>by kernel_rfl)
noncomputable abbrev qDG:qI:=⟨[yT1,yT4],[.im yT1],qfF⟩
theorem qsH:FOK Tryz.prog 161 qDG:=mkC (qA (qA qE j9) qdW) qD Tryz.func161 5 (by kernel_rfl) (by kernel_rfl) (fun x=>by kernel_rfl)
noncomputable abbrev qDM:qI:=⟨[yT1],[.im yT1],yU⟩
theorem qkW:FOK Tryz.prog 57 qDM:=mkC (qA (qA qE qsH) qxF) qD Tryz.func57 3 (by kernel_rfl) (by kernel_rfl) (fun x=>by kernel_rfl)
noncomputable abbrev qDL:qI:=⟨[yT1],[.im yT1],qfH⟩
theorem qsK:FOK Tryz.prog 59 qDL:=mkC (qA qE qbM) qD Tryz.func59 3 (by kernel_rfl) (by kernel_rfl) (fun x=>by kernel_rfl)
noncomputable def qbA:Inl:=inlF (eN [(152,qr3)] []) Tryz.f256 3
theorem qa9:yE Tryz.prog 256 qbA:=mkI (qA qE qbM) qD Tryz.func256 3 (by kernel_rfl) (by kernel_rfl)
noncomputable abbrev qjE:qI:=⟨[yT1,yT3],[.im yT1],qfE⟩
theorem qkU:FOK Tryz.prog 257 qjE:=mkC (qA (qA (qA qE qxX) qk4) qp4) qD Tryz.func257 9 (by kernel_rfl) (by kernel_rfl) (fun x=>by kernel_rfl)
noncomputable def qfB:Inl:=inlF (eN [] [(256,qbA)]) Tryz.f258 3
theorem qe0:yE Tryz.prog 258 qfB:=mkI qE (zI qD qa9) Tryz.func258 3 (by kernel_rfl) (by kernel_rfl)
noncomputable def qnH:Inl:=inlF (eN [(257,qjE)] [(256,qbA),(258,qfB)]) Tryz.f259 5
theorem qm9:yE Tryz.prog 259 qnH:=mkI (qA qE qkU) (zI (zI qD qe0) qa9) Tryz.func259 5 (by kernel_rfl) (by kernel_rfl)
noncomputable def qGU:Inl:=inlF (eN [(257,qjE)] [(256,qbA),(258,qfB),(259,qnH)]) Tryz.f163 2
theorem qFD:yE Tryz.prog 163 qGU:=mkI (qA qE qkU) (zI (zI (zI qD qm9) qe0) qa9) Tryz.func163 2 (by kernel_rfl) (by kernel_rfl)
noncomputable abbrev qDE:qI:=⟨[yT1],[.im yT1],jU⟩
theorem qkT:FOK Tryz.prog 164 qDE:=mkC (qA qE qGE) qD Tryz.func164 3 (by kernel_rfl) (by kernel_rfl) (fun x=>by kernel_rfl)
noncomputable abbrev qDJ:qI:=⟨[yT1,yT3],[.im yT1],qcE⟩
theorem qsJ:FOK Tryz.prog 61 qDJ:=mkC (qA (qA (qA qE qkU) qkT) qx3) (zI (zI (zI (zI qD qFD) qm9) qe0) qa9) Tryz.func61 7 (by kernel_rfl) (by kernel_rfl) (fun x=>by kernel_rfl)
noncomputable abbrev qEP:qI:=⟨[],[.im yT1, .im yT1],qcK⟩
theorem qk5:FOK Tryz.prog 66 qEP:=mkC (qA (qA (qA qE qI6) qIX) qCN) qD Tryz.func66 6 (by kernel_rfl) (by kernel_rfl) (fun x=>by kernel_rfl)
noncomputable abbrev qHg:qI:=⟨[yT1,yT3,yT4],[.im yT1],qi3⟩
theorem qIS:FOK Tryz.prog 341 qHg:=mkC (qA (qA (qA qE qs1) qk4) qp4) qD Tryz.func341 11 (by kernel_rfl) (by kernel_rfl) (fun x=>by kernel_rfl)
noncomputable abbrev qKN:qI:=⟨[yT5],[.im yT6, .im yT4],qt8⟩
theorem qLs:FOK Tryz.prog 380 qKN:=mkC qE qD Tryz.func380 4 (by kernel_rfl) (by kernel_rfl) (fun x=>by kernel_rfl)
noncomputable abbrev qDF:qI:=⟨[yT1,yT4,yT4],[.im yT1],qcC⟩
theorem qsG:FOK Tryz.prog 342 qDF:=mkC (qA (qA (qA qE qLs) qdW) qLy) qD Tryz.func342 7 (by kernel_rfl) (by kernel_rfl) (fun x=>by kernel_rfl)
noncomputable abbrev qDI:qI:=⟨[yT1,yT3,yT4],[.im yT1],qcD⟩
theorem qFY:FOK Tryz.prog 267 qDI:=mkC (qA (qA (qA (qA (qA (qA qE qsG) qIS) qe9) qkT) qbM) qsI) qD Tryz.func267 10 (by kernel_rfl) (by kernel_rfl) (fun x=>by kernel_rfl)
noncomputable abbrev qu9:qI:=⟨[yT1,yT4],[.im yT1],qb0⟩
theorem qxG:FOK Tryz.prog 268 qu9:=mkC (qA (qA (qA (qA qE qsG) qsH) qxF) qhW) qD Tryz.func268 5 (by kernel_rfl) (by kernel_rfl) (fun x=>by kernel_rfl)
noncomputable abbrev qDK:qI:=⟨[yT1,yT8,yT3],[.im yT1],xM⟩
theorem qFZ:FOK Tryz.prog 175 qDK:=mkC (qA (qA (qA (qA qE qxG) qFY) qkT) qx3) qD Tryz.func175 9 (by kernel_rfl) (by kernel_rfl) (fun x=>by kernel_rfl)
noncomputable abbrev qBH:qI:=⟨[yT1,yT1],[.im yT1, .im yT1, .im yT14],zD⟩
theorem qp5:FOK Tryz.prog 69 qBH:=mkC (qA (qA (qA (qA qE qFZ) qGa) qF9) qF3) qD Tryz.func69 13 (by kernel_rfl) (by kernel_rfl) (fun x=>by kernel_rfl)
noncomputable abbrev qBG:qI:=⟨[],[.im yT14],jQ⟩
theorem qcB:FOK Tryz.prog 46 qBG:=mkC (qA (qA (qA (qA (qA (qA (qA (qA (qA (qA (qA (qA qE qp5) qk5) qsJ) qsK) qkW) qnY) qeG) qxH) qAD) qpT) qkY) qbN) qD Tryz.func46 14 (by kernel_rfl) (by kernel_rfl) (fun x=>by kernel_rfl)
noncomputable abbrev qHn:qI:=⟨[yT0,yT4,(.ar 2 yT4),yT4,yT5],[.im yT0],qfQ⟩
theorem qxM:FOK Tryz.prog 189 qHn:=mkC qE qD Tryz.func189 11 (by kernel_rfl) (by kernel_rfl) (fun x=>by kernel_rfl)
noncomputable abbrev qD3:qI:=⟨[yT0,yT4],[.im yT0],qaH⟩
theorem qsO:FOK Tryz.prog 158 qD3:=mkC (qA (qA (qA qE qxM) qbN) yB) qD Tryz.func158 6 (by kernel_rfl) (by kernel_rfl) (fun x=>by kernel_rfl)
noncomputable abbrev qA0:qI:=⟨[yT1],[.im yT1],qaG⟩
theorem qpU:FOK Tryz.prog 54 qA0:=mkC (qA qE qsO) qD Tryz.func54 4 (by kernel_rfl) (by kernel_rfl) (fun x=>by kernel_rfl)
noncomputable abbrev qEd:qI:=⟨[yT5],[.im yT4, .im yT14],qaK⟩
theorem qGf:FOK Tryz.prog 174 qEd:=mkC (qA (qA (qA qE qk0) qe7) z9) qD Tryz.func174 9 (by kernel_rfl) (by kernel_rfl) (fun x=>by kernel_rfl)
noncomputable abbrev qEe:qI:=⟨[yT10],[.im yT4, .im yT4, .im yT14],xO⟩
theorem qeH:FOK Tryz.prog 68 qEe:=mkC (qA qE qGf) qD Tryz.func68 9 (by kernel_rfl) (by kernel_rfl) (fun x=>by kernel_rfl)
noncomputable abbrev qEb:qI:=⟨[yT10,yT4],[.im yT10, .im yT4, .im yT4],qlS⟩
theorem qGd:FOK Tryz.prog 252 qEb:=mkC (qA (qA qE qe7) qeH) qD Tryz.func252 15 (by kernel_rfl) (by kernel_rfl) (fun x=>by kernel_rfl)
noncomputable abbrev qAU:qI:=⟨[yT1],[.im yT1, .im yT4, .im yT4],qgP⟩
theorem qCu:FOK Tryz.prog 154 qAU:=mkC (qA (qA qE qGd) qpU) qD Tryz.func154 8 (by kernel_rfl) (by kernel_rfl) (fun x=>by kernel_rfl)
noncomputable abbrev qAS:qI:=⟨[yT1,yT4],[.im yT1],v4⟩
theorem qb9:FOK Tryz.prog 155 qAS:=mkC (qA qE qsO) qD Tryz.func155 5 (by kernel_rfl) (by kernel_rfl) (fun x=>by kernel_rfl)
noncomputable abbrev qDR:qI:=⟨[yT1,yT4],[.im yT1],qcF⟩
theorem qkX:FOK Tryz.prog 156 qDR:=mkC (qA qE qiN) qD Tryz.func156 5 (by kernel_rfl) (by kernel_rfl) (fun x=>by kernel_rfl)
noncomputable abbrev qKO:qI:=⟨[yT1],[.im yT1, .im yT4],qt9⟩
theorem qLt:FOK Tryz.prog 48 qKO:=mkC (qA (qA (qA qE qkX) qb9) qCu) qD Tryz.func48 7 (by kernel_rfl) (by kernel_rfl) (fun x=>by kernel_rfl)
noncomputable abbrev qHl:qI:=⟨[yT1],[.im yT1, .im yT4],qoT⟩
theorem qIT:FOK Tryz.prog 50 qHl:=mkC (qA (qA (qA qE qkX) qb9) qt4) qD Tryz.func50 5 (by kernel_rfl) (by kernel_rfl) (fun x=>by kernel_rfl)
noncomputable abbrev qDT:qI:=⟨[yT1],[.im yT1, .im yT4],qlL⟩
theorem qF4:FOK Tryz.prog 52 qDT:=mkC (qA (qA qE qkX) qsS) qD Tryz.func52 5 (by kernel_rfl) (by kernel_rfl) (fun x=>by kernel_rfl)
noncomputable abbrev qDU:qI:=⟨[yT1],[.im yT1],qlM⟩
theorem qF5:FOK Tryz.prog 56 qDU:=mkC (qA qE qeH) qD Tryz.func56 6 (by kernel_rfl) (by kernel_rfl) (fun x=>by kernel_rfl)
noncomputable abbrev qAT:qI:=⟨[yT1,yT4],[.im yT1],qgO⟩
theorem qCt:FOK Tryz.prog 162 qAT:=mkC (qA (qA qE qxM) qbN) qD Tryz.func162 5 (by kernel_rfl) (by kernel_rfl) (fun x=>by kernel_rfl)
noncomputable abbrev qAZ:qI:=⟨[yT1],[.im yT1],qgS⟩
theorem qCz:FOK Tryz.prog 58 qAZ:=mkC (qA qE qCt) qD Tryz.func58 3 (by kernel_rfl) (by kernel_rfl) (fun x=>by kernel_rfl)
noncomputable abbrev qAY:qI:=⟨[yT1],[.im yT1],qgR⟩
theorem qCy:FOK Tryz.prog 60 qAY:=mkC (qA qE qb9) qD Tryz.func60 4 (by kernel_rfl) (by kernel_rfl) (fun x=>by kernel_rfl)
noncomputable abbrev qqV:qI:=⟨[yT1],[.im yT14],wR⟩
theorem qrQ:FOK Tryz.prog 10 qqV:=mkC (qA (qA (qA (qA (qA (qA (qA (qA (qA (qA (qA (qA (qA (qA (qA (qA (qA qE qCy) qsK) qCz) qkW) qF5) qnY) qpU) qeG) qF4) qxH) qIT) qAD) qLt) qpT) qcB) qiO) qxL) qD Tryz.func10 16 (by kernel_rfl) (by kernel_rfl) (fun x=>by kernel_rfl)
noncomputable abbrev qAX:qI:=⟨[yT1,yT3],[.im yT1],qgQ⟩
theorem qCx:FOK Tryz.prog 62 qAX:=mkC (qA (qA (qA (qA (qA qE qCw) qsM) qb9) qCF) qCv) qD Tryz.func62 10 (by kernel_rfl) (by kernel_rfl) (fun x=>by kernel_rfl)
noncomputable abbrev qqW:qI:=⟨[yT1,yT3,yT3],[.im yT14],wS⟩
theorem qrR:FOK Tryz.prog 11 qqW:=mkC (qA (qA (qA (qA (qA (qA (qA (qA (qA (qA qE qiN) qkV) qCx) qsJ) qcB) qpW) qIW) yB) qiO) qxL) qD Tryz.func11 8 (by kernel_rfl) (by kernel_rfl) (fun x=>by kernel_rfl)
noncomputable abbrev qqY:qI:=⟨[yT10,(.sl yT4)],[.im yT14],wT⟩
theorem qrT:FOK Tryz.prog 12 qqY:=mkC (qA (qA (qA (qA (qA (qA (qA (qA qE qeH) qh0) qk5) qhY) qnY) qeG) qpT) qcB) qD Tryz.func12 15 (by kernel_rfl) (by kernel_rfl) (fun x=>by kernel_rfl)
noncomputable abbrev qqX:qI:=⟨[yT10,yT10, .bool],[.im yT14],zR⟩
theorem qrS:FOK Tryz.prog 13 qqX:=mkC (qA (qA (qA (qA (qA (qA (qA (qA (qA (qA (qA qE qp5) qeH) qk5) qhY) qkW) qpT) qcB) qIV) qsN) qkY) z9) qD Tryz.func13 26 (by kernel_rfl) (by kernel_rfl) (fun x=>by kernel_rfl)
end Yp
namespace Yp
open Go
set_option maxRecDepth 100000
set_option maxHeartbeats 2000000
def tn (x n:UInt32):UInt32:=u32 (orI .u32 (n32 (u32 (shrI .u32 (n32 x) (n32 n)))) (n32 (u32 (shlI .u32 (n32 x) (n32 (u32 (isub (n32 (u32 32)) (n32 n))))))))
theorem qeL (x n:UInt32):jV (x,n,())=some (tn x n,()):=rfl
theorem qMK (a b:UInt32):u32 (orI .u32 (n32 a) (n32 b))=u32 (orI .u32 (n32 b) (n32 a)):=by rw [or32,or32,UInt32.or_comm]
theorem qmT {x:UInt32} {k:Int} {n:UInt32} (h1:n64 (u64 (andI .u64 (n64 (u64 k)) (n64 (u64 31))))=n32 (u32 (isub (n32 (u32 32)) (n32 n)))) (h2:n64 (u64 (isub (n64 (u64 32)) (n64 (u64 (andI .u64 (n64 (u64 k)) (n64 (u64 31)))))))=n32 n) :
  qJ (x,k,())=some (tn x n,()):=by
 unfold qJ tn
 dsimp only
 rw [qMK,h2,h1]
theorem r2 (x:UInt32):qJ (x, -2,())=some (tn x (u32 2),()):=qmT (by decide +kernel) (by decide +kernel)
theorem r3 (x:UInt32):qJ (x, -13,())=some (tn x (u32 13),()):=qmT (by decide +kernel) (by decide +kernel)
theorem r4 (x:UInt32):qJ (x, -22,())=some (tn x (u32 22),()):=qmT (by decide +kernel) (by decide +kernel)
theorem r6 (x:UInt32):qJ (x, -6,())=some (tn x (u32 6),()):=qmT (by decide +kernel) (by decide +kernel)
theorem r11 (x:UInt32):qJ (x, -11,())=some (tn x (u32 11),()):=qmT (by decide +kernel) (by decide +kernel)
theorem r25 (x:UInt32):qJ (x, -25,())=some (tn x (u32 25),()):=qmT (by decide +kernel) (by decide +kernel)
theorem r7 (x:UInt32):qJ (x, -7,())=some (tn x (u32 7),()):=qmT (by decide +kernel) (by decide +kernel)
theorem r18 (x:UInt32):qJ (x, -18,())=some (tn x (u32 18),()):=qmT (by decide +kernel) (by decide +kernel)
theorem r17 (x:UInt32):qJ (x, -17,())=some (tn x (u32 17),()):=qmT (by decide +kernel) (by decide +kernel)
theorem r19 (x:UInt32):qJ (x, -19,())=some (tn x (u32 19),()):=qmT (by decide +kernel) (by decide +kernel)
def qPP (a b c d:UInt8):UInt32 :=
 u32 (iadd (n32 (u32 (iadd (n32 (u32 (iadd (n32 (u32 (imul (n32 (u32 (n8 a))) (n32 (u32 16777216))))) (n32 (u32 (imul (n32 (u32 (n8 b))) (n32 (u32 65536)))))))) (n32 (u32 (imul (n32 (u32 (n8 c))) (n32 (u32 256)))))))) (n32 (u32 (n8 d))))
def qRp (a b c d:UInt8):UInt32 :=
 u32 (orI .u32 (n32 (u32 (orI .u32 (n32 (u32 (orI .u32 (n32 (u32 (shlI .u32 (n32 (u32 (n8 a))) (n64 (u64 24))))) (n32 (u32 (shlI .u32 (n32 (u32 (n8 b))) (n64 (u64 16)))))))) (n32 (u32 (shlI .u32 (n32 (u32 (n8 c))) (n64 (u64 8)))))))) (n32 (u32 (n8 d))))
theorem wP {a:Int} (h:0≤a∧a < 4294967296):n32 (u32 a)=a:=by
 show (((BitVec.ofNat 32 ((a % 2 ^ 32).toNat)).toNat:Nat):Int)=a
 rw [BitVec.toNat_ofNat];omega
theorem qiW {a:Nat} (h:a < 4294967296):(u32 (a:Int)).toNat=a:=by
 have:=wP (a:=(a:Int)) (by omega)
 unfold n32 at this;omega
theorem qPO (a b c d:UInt8):qRp a b c d=qPP a b c d:=by
 have ha:=a.toNat_lt;have hb:=b.toNat_lt;have hc:=c.toNat_lt;have hd:=d.toNat_lt
 unfold qRp qPP
 have e1:∀ x:UInt8,n32 (u32 (n8 x))=(x.toNat:Int):=fun x=>by
  have:=x.toNat_lt
  exact wP (a:=(x.toNat:Int)) (by omega)
 have s1:∀ (x:UInt8),shlI .u32 (n32 (u32 (n8 x))) (n64 (u64 24))=((x.toNat*16777216:Nat):Int):=fun x=>by rw [e1];show (x.toNat:Int)*2 ^ 24=_;omega
 have s2:∀ (x:UInt8),shlI .u32 (n32 (u32 (n8 x))) (n64 (u64 16))=((x.toNat*65536:Nat):Int):=fun x=>by rw [e1];show (x.toNat:Int)*2 ^ 16=_;omega
 have s3:∀ (x:UInt8),shlI .u32 (n32 (u32 (n8 x))) (n64 (u64 8))=((x.toNat*256:Nat):Int):=fun x=>by rw [e1];show (x.toNat:Int)*2 ^ 8=_;omega
 have m1:∀ (x:UInt8),imul (n32 (u32 (n8 x))) (n32 (u32 16777216))=((x.toNat*16777216:Nat):Int):=fun x=>by rw [e1,wP (by decide)];show (x.toNat:Int)*16777216=_;omega
 have m2:∀ (x:UInt8),imul (n32 (u32 (n8 x))) (n32 (u32 65536))=((x.toNat*65536:Nat):Int):=fun x=>by rw [e1,wP (by decide)];show (x.toNat:Int)*65536=_;omega
 have m3:∀ (x:UInt8),imul (n32 (u32 (n8 x))) (n32 (u32 256))=((x.toNat*256:Nat):Int):=fun x=>by rw [e1,wP (by decide)];show (x.toNat:Int)*256=_;omega
 rw [s1,s2,s3,m1,m2,m3,or32,or32,or32]
 have d1:(u32 (n8 d)).toNat=d.toNat:=qiW (by omega)
 apply UInt32.toNat_inj.1
 rw [UInt32.toNat_or,UInt32.toNat_or,UInt32.toNat_or,qiW (by omega),qiW (by omega),qiW (by omega),d1]
 have o3:(c.toNat*256) ||| d.toNat=c.toNat*256+d.toNat:=by
  have:=Nat.two_pow_add_eq_or_of_lt (i:=8) (b:=d.toNat) (by omega) c.toNat
  rw [Nat.mul_comm];exact this.symm
 have o2:(b.toNat*65536) ||| (c.toNat*256+d.toNat)=b.toNat*65536+(c.toNat*256+d.toNat):=by
  have:=Nat.two_pow_add_eq_or_of_lt (i:=16) (b:=c.toNat*256+d.toNat) (by omega) b.toNat
  rw [Nat.mul_comm b.toNat];exact this.symm
 have o1:(a.toNat*16777216) ||| (b.toNat*65536+(c.toNat*256+d.toNat))=a.toNat*16777216+(b.toNat*65536+(c.toNat*256+d.toNat)):=by
  have:=Nat.two_pow_add_eq_or_of_lt (i:=24) (b:=b.toNat*65536+(c.toNat*256+d.toNat)) (by omega) a.toNat
  rw [Nat.mul_comm a.toNat];exact this.symm
 rw [Nat.or_assoc,Nat.or_assoc,o3,o2,o1]
 have q1:iadd (n32 (u32 ((a.toNat*16777216:Nat):Int))) (n32 (u32 ((b.toNat*65536:Nat):Int)))=((a.toNat*16777216+b.toNat*65536:Nat):Int):=by
  rw [wP (by omega),wP (by omega)];show (_:Int)+_=_;omega
 rw [q1]
 have q2:iadd (n32 (u32 ((a.toNat*16777216+b.toNat*65536:Nat):Int))) (n32 (u32 ((c.toNat*256:Nat):Int)))=((a.toNat*16777216+b.toNat*65536+c.toNat*256:Nat):Int):=by
  rw [wP (by omega),wP (by omega)];show (_:Int)+_=_;omega
 rw [q2]
 have q3:iadd (n32 (u32 ((a.toNat*16777216+b.toNat*65536+c.toNat*256:Nat):Int))) (n32 (u32 (n8 d)))=((a.toNat*16777216+b.toNat*65536+c.toNat*256+d.toNat:Nat):Int):=by
  rw [wP (by omega),e1];show (_:Int)+_=_;omega
 rw [q3,qiW (by omega)];omega
def mixW (m2 m7 m15 m16:UInt32):UInt32 :=
 u32 (iadd (n32 (u32 (iadd (n32 (u32 (iadd (n32 (u32 (xorI .u32 (n32 (u32 (xorI .u32 (n32 (tn m2 (u32 17))) (n32 (tn m2 (u32 19)))))) (n32 (u32 (shrI .u32 (n32 m2) (n64 (u64 10)))))))) (n32 m7)))) (n32 (u32 (xorI .u32 (n32 (u32 (xorI .u32 (n32 (tn m15 (u32 7))) (n32 (tn m15 (u32 18)))))) (n32 (u32 (shrI .u32 (n32 m15) (n64 (u64 3))))))))))) (n32 m16))
def q8 (b:BB) (i:Nat):UInt8:=b.getD i 0
def q32 (m:List UInt32) (i:Nat):UInt32:=m.getD i 0
def sch (b:BB) (at':Nat):Nat→List UInt32
 | 0=>List.replicate 64 0
 | t+1=>(sch b at' t).set t (if t < 16 then qPP (q8 b (at'+4*t)) (q8 b (at'+4*t+1)) (q8 b (at'+4*t+2)) (q8 b (at'+4*t+3))
   else mixW (q32 (sch b at' t) (t - 2)) (q32 (sch b at' t) (t - 7)) (q32 (sch b at' t) (t - 15)) (q32 (sch b at' t) (t - 16)))
theorem qfK (b:BB) (at':Nat):∀ t,(sch b at' t).length=64
 | 0=>by simp [sch]
 | t+1=>by rw [sch,List.length_set];exact qfK b at' t
theorem qDD {b c:BB} {x y:Nat} (h:∀ i,i < 64→q8 b (x+i)=q8 c (y+i)):∀ t,sch b x t=sch c y t
 | 0=>rfl
 | t+1=>by
  rw [sch,sch,qDD h t]
  by_cases ht:t < 16
  ·rw [if_pos ht,if_pos ht,h (4*t) (by omega),Nat.add_assoc x,Nat.add_assoc x,Nat.add_assoc x,h (4*t+1) (by omega),h (4*t+2) (by omega),h (4*t+3) (by omega)];rfl
  ·rw [if_neg ht,if_neg ht]
theorem i64n {n:Nat} {a:Int} (h:a=(n:Int)) (hn:n≤9223372036854775807):i64 a=(n:Int):=by rw [h];exact zX (by omega) (by omega)
theorem qu3 (b:BB) (hb:b.length=64):qlD (b,())=some (sch b 0 64,()):=by
 unfold qlD
 generalize hf:(fun (x_1:Int×List UInt32×Unit)=>_)=f
 have step:∀ t:Nat,t < 64→f ((t:Int),sch b 0 t,())=some (.nx (((t+1:Nat):Int),sch b 0 (t+1),())):=by
  intro t ht
  subst hf
  have hi:i64 (iadd (t:Int) 1)=((t+1:Nat):Int):=i64n (by show (t:Int)+1=_;omega) (by omega)
  refine (qC (by simp only [go_sem,Int.reduceToNat];omega)).trans ?_
  by_cases h16:t < 16
  ·have e0:i64 (imul 4 (t:Int))=((4*t:Nat):Int):=i64n (by show 4*(t:Int)=_;omega) (by omega)
   have e1:i64 (iadd (i64 (imul 4 (t:Int))) 1)=((4*t+1:Nat):Int):=by rw [e0];exact i64n (by show ((4*t:Nat):Int)+1=_;omega) (by omega)
   have e2:i64 (iadd (i64 (imul 4 (t:Int))) 2)=((4*t+2:Nat):Int):=by rw [e0];exact i64n (by show ((4*t:Nat):Int)+2=_;omega) (by omega)
   have e3:i64 (iadd (i64 (imul 4 (t:Int))) 3)=((4*t+3:Nat):Int):=by rw [e0];exact i64n (by show ((4*t:Nat):Int)+3=_;omega) (by omega)
   refine (qC (by simp only [go_sem,Int.reduceToNat];omega)).trans ?_
   dsimp only
   rw [e1,e2,e3,e0,hi]
   refine (qH (by simp only [go_sem,Int.reduceToNat];omega)).trans ((qH (by simp only [go_sem,Int.reduceToNat];omega)).trans ((qH (by simp only [go_sem,Int.reduceToNat];omega)).trans ((qH (by simp only [go_sem,Int.reduceToNat];omega)).trans ((qH (by simp only [go_sem,Int.reduceToNat];omega)).trans ?_))))
   have hw:=qPO (q8 b (4*t)) (q8 b (4*t+1)) (q8 b (4*t+2)) (q8 b (4*t+3))
   rw [sch,if_pos h16,Nat.zero_add,← hw]
   rfl
  ·have e15:i64 (isub (t:Int) 15)=((t - 15:Nat):Int):=i64n (by show (t:Int) - 15=_;omega) (by omega)
   have e2:i64 (isub (t:Int) 2)=((t - 2:Nat):Int):=i64n (by show (t:Int) - 2=_;omega) (by omega)
   have e7:i64 (isub (t:Int) 7)=((t - 7:Nat):Int):=i64n (by show (t:Int) - 7=_;omega) (by omega)
   have e16:i64 (isub (t:Int) 16)=((t - 16:Nat):Int):=i64n (by show (t:Int) - 16=_;omega) (by omega)
   refine (qB (by simp only [go_sem,Int.reduceToNat];omega)).trans ?_
   dsimp only
   rw [e15,e2,e7,e16,hi]
   refine (qH (by simp only [go_sem,Int.reduceToNat];omega)).trans ?_
   refine (qH (by simp only [go_sem,Int.reduceToNat];omega)).trans ?_
   rw [r7]
   refine (qF rfl).trans ?_
   rw [r18]
   refine (qF rfl).trans ?_
   rw [r17]
   refine (qF rfl).trans ?_
   rw [r19]
   refine (qF rfl).trans ?_
   refine (qH (by simp only [go_sem,Int.reduceToNat];omega)).trans ?_
   refine (qH (by simp only [go_sem,Int.reduceToNat];omega)).trans ?_
   refine (qH (by simp only [go_sem,Int.reduceToNat];omega)).trans ?_
   rw [sch,if_neg h16]
   rfl
 have hend:∀ m,f (((64:Nat):Int),m,())=some (.ex 0 (((64:Nat):Int),m,())):=by subst hf;intro m;exact qB rfl
 have hloop:loop f (((0:Nat):Int),sch b 0 0,())=some (.ex 0 (((64:Nat):Int),sch b 0 64,())) :=
  (qN (f:=f) (fun t=>((t:Int),sch b 0 t,())) 64 step 0 (Nat.zero_le _)).trans (qV (hend _))
 generalize hs:sch b 0 64=m at hloop
 refine (zC (show loop f _=_ from hloop)).trans ?_
 rfl
end Yp
namespace Yp
open Go
set_option maxRecDepth 100000
set_option maxHeartbeats 2000000
abbrev R8:=UInt32×UInt32×UInt32×UInt32×UInt32×UInt32×UInt32×UInt32
def t1D (k m h g f e:UInt32):UInt32 :=
 u32 (iadd (n32 (u32 (iadd (n32 (u32 (iadd (n32 (u32 (iadd (n32 h) (n32 (u32 (xorI .u32 (n32 (u32 (xorI .u32 (n32 (tn e (u32 6))) (n32 (tn e (u32 11)))))) (n32 (tn e (u32 25))))))))) (n32 (u32 (xorI .u32 (n32 (u32 (andI .u32 (n32 e) (n32 f)))) (n32 (u32 (andI .u32 (n32 (u32 (xorI .u32 4294967295 (n32 e)))) (n32 g)))))))))) (n32 k)))) (n32 m))
def t2D (c b a:UInt32):UInt32 :=
 u32 (iadd (n32 (u32 (xorI .u32 (n32 (u32 (xorI .u32 (n32 (tn a (u32 2))) (n32 (tn a (u32 13)))))) (n32 (tn a (u32 22)))))) (n32 (u32 (xorI .u32 (n32 (u32 (xorI .u32 (n32 (u32 (andI .u32 (n32 a) (n32 b)))) (n32 (u32 (andI .u32 (n32 a) (n32 c))))))) (n32 (u32 (andI .u32 (n32 b) (n32 c))))))))
def nxt (k m:UInt32) (s:R8):R8 :=
 (s.2.1,s.2.2.1,s.2.2.2.1,u32 (iadd (n32 s.2.2.2.2.1) (n32 (t1D k m s.1 s.2.1 s.2.2.1 s.2.2.2.1))),s.2.2.2.2.2.1,s.2.2.2.2.2.2.1,s.2.2.2.2.2.2.2,
  u32 (iadd (n32 (t1D k m s.1 s.2.1 s.2.2.1 s.2.2.2.1)) (n32 (t2D s.2.2.2.2.2.1 s.2.2.2.2.2.2.1 s.2.2.2.2.2.2.2))))
def rounds (ms:List UInt32) (s:R8):Nat→R8
 | 0=>s
 | t+1=>nxt (q32 qiS t) (q32 ms t) (rounds ms s t)
def r8L (s:R8):List UInt32:=[s.2.2.2.2.2.2.2,s.2.2.2.2.2.2.1,s.2.2.2.2.2.1,s.2.2.2.2.1,s.2.2.2.1,s.2.2.1,s.2.1,s.1]
def addL (w:List UInt32) (s:R8):List UInt32 :=
  [u32 (iadd (n32 (q32 w 0)) (n32 s.2.2.2.2.2.2.2)),u32 (iadd (n32 (q32 w 1)) (n32 s.2.2.2.2.2.2.1)),u32 (iadd (n32 (q32 w 2)) (n32 s.2.2.2.2.2.1)),u32 (iadd (n32 (q32 w 3)) (n32 s.2.2.2.2.1)),
   u32 (iadd (n32 (q32 w 4)) (n32 s.2.2.2.1)),u32 (iadd (n32 (q32 w 5)) (n32 s.2.2.1)),u32 (iadd (n32 (q32 w 6)) (n32 s.2.1)),u32 (iadd (n32 (q32 w 7)) (n32 s.1))]
def ofL (w:List UInt32):R8:=(q32 w 7,q32 w 6,q32 w 5,q32 w 4,q32 w 3,q32 w 2,q32 w 1,q32 w 0)
def qyA (w:List UInt32) (b:BB) (at':Nat):List UInt32:=addL w (rounds (sch b at' 64) (ofL w) 64)
theorem eight {α:Type} {w:List α} (h:w.length=8):∃ a b c d e f g i,w=[a,b,c,d,e,f,g,i]:=by
 match w,h with
 | [a,b,c,d,e,f,g,i],_=>exact ⟨a,b,c,d,e,f,g,i,rfl⟩
theorem qnJ {b c:BB} {x y:Nat} (h:∀ i,i < 64→q8 b (x+i)=q8 c (y+i)) (w:List UInt32):qyA w b x=qyA w c y:=by unfold qyA;rw [qDD h]
theorem qmO (w:List UInt32) (hw:w.length=8) (b:BB) (hb:b.length=64):qjB (w,b,())=some (qyA w b 0,0,()):=by
 unfold qjB
 refine (qB (by simp only [go_sem,Int.reduceToNat];omega)).trans ?_
 dsimp only
 rw [qu3 b hb]
 have hm:=qfK b 0 64
 unfold qyA
 generalize sch b 0 64=m at hm
 refine (qF rfl).trans ?_
 obtain ⟨w0,w1,w2,w3,w4,w5,w6,w7,rfl⟩:=eight hw
 generalize hf:(fun (x:Int×List UInt32×Unit)=>(_:Option (LS (Int×List UInt32×Unit) (List UInt32×Int×Unit))))=f
 obtain ⟨s,hs⟩:∃ s,s=ofL [w0,w1,w2,w3,w4,w5,w6,w7]:=⟨_,rfl⟩
 have step:∀ t:Nat,t < 64→f ((t:Int),r8L (rounds m s t),())=some (.nx (((t+1:Nat):Int),r8L (rounds m s (t+1)),())):=by
  intro t ht
  subst hf
  have hi:i64 (iadd (t:Int) 1)=((t+1:Nat):Int):=i64n (by show (t:Int)+1=_;omega) (by omega)
  rw [show rounds m s (t+1)=nxt (q32 qiS t) (q32 m t) (rounds m s t) from rfl]
  generalize rounds m s t=r
  obtain ⟨h,g,f,e,d,c,b,a⟩:=r
  refine (qC (by simp only [go_sem,Int.reduceToNat];omega)).trans ?_
  dsimp only [r8L]
  rw [hi]
  refine (qH (by simp only [go_sem,Int.reduceToNat];omega)).trans ?_
  refine (qH rfl).trans ?_
  refine (qH rfl).trans ?_
  rw [show nth [a,b,c,d,e,f,g,h] (nat 4) (u32 0)=e from rfl,r6]
  refine (qF rfl).trans ?_
  rw [r11]
  refine (qF rfl).trans ?_
  rw [r25]
  refine (qF rfl).trans ?_
  rw [show nth [a,b,c,d,e,f,g,h] (nat 0) (u32 0)=a from rfl,r2]
  refine (qF rfl).trans ?_
  rw [r3]
  refine (qF rfl).trans ?_
  rw [r4]
  refine (qF rfl).trans ?_
  refine (qH rfl).trans ?_
  refine (qH rfl).trans ?_
  refine (qH rfl).trans ?_
  refine (qH (by simp only [go_sem,Int.reduceToNat];omega)).trans ?_
  refine (qH rfl).trans ?_
  refine (qH rfl).trans ?_
  refine (qH rfl).trans ?_
  refine (qH rfl).trans ?_
  refine (qH rfl).trans ?_
  refine (qH rfl).trans ?_
  refine (qH rfl).trans ?_
  refine (qH rfl).trans ?_
  refine (qH rfl).trans ?_
  rfl
 have hend:∀ v,f (((64:Nat):Int),v,())=some (.ex 0 (((64:Nat):Int),v,())):=by subst hf;intro v;exact qB rfl
 have hloop:loop f (((0:Nat):Int),r8L (rounds m s 0),())=some (.ex 0 (((64:Nat):Int),r8L (rounds m s 64),())) :=
  (qN (f:=f) (fun t=>((t:Int),r8L (rounds m s t),())) 64 step 0 (Nat.zero_le _)).trans (qV (hend _))
 have h0:r8L (rounds m s 0)=[w0,w1,w2,w3,w4,w5,w6,w7]:=by rw [hs];rfl
 rw [h0] at hloop
 rw [← hs]
 generalize rounds m s 64=r at hloop
 obtain ⟨h,g,f',e,d,c,b',a⟩:=r
 refine (zC (show loop f (0,[w0,w1,w2,w3,w4,w5,w6,w7],())=_ from hloop)).trans ?_
 refine (qH g62).trans ?_
 refine (zC (qhH (r := .ex 2 (((8:Nat):Int),addL [w0,w1,w2,w3,w4,w5,w6,w7] (h,g,f',e,d,c,b',a),())) 9 rfl)).trans ?_
 rfl
theorem qjU (w:List UInt32) (hw:w.length=8) (b:BB) (n:Nat) (hb:n+64≤b.length) (hl:b.length≤4611686018427387904):qfY (w,b,(n:Int),qiS,())=some (qyA w b n,()):=by
 unfold qfY
 refine (qH (by decide)).trans ?_
 generalize hf:(fun (x_1:Int×List UInt32×Unit)=>(_:Option (LS (Int×List UInt32×Unit) (List UInt32×Unit))))=f
 have step:∀ t:Nat,t < 16→f ((t:Int),sch b n t,())=some (.nx (((t+1:Nat):Int),sch b n (t+1),())):=by
  intro t ht
  subst hf
  have hi:i64 (iadd (t:Int) 1)=((t+1:Nat):Int):=i64n (by show (t:Int)+1=_;omega) (by omega)
  have hm:=qfK b n t
  have e4:i64 (imul 4 (t:Int))=((4*t:Nat):Int):=i64n (by show 4*(t:Int)=_;omega) (by omega)
  have e0:i64 (iadd (n:Int) (i64 (imul 4 (t:Int))))=((n+4*t:Nat):Int):=by rw [e4];exact i64n (by show (n:Int)+((4*t:Nat):Int)=_;omega) (by omega)
  have e1:i64 (iadd (i64 (iadd (n:Int) (i64 (imul 4 (t:Int))))) 1)=((n+4*t+1:Nat):Int):=by rw [e0];exact i64n (by show ((n+4*t:Nat):Int)+1=_;omega) (by omega)
  have e2:i64 (iadd (i64 (iadd (n:Int) (i64 (imul 4 (t:Int))))) 2)=((n+4*t+2:Nat):Int):=by rw [e0];exact i64n (by show ((n+4*t:Nat):Int)+2=_;omega) (by omega)
  have e3:i64 (iadd (i64 (iadd (n:Int) (i64 (imul 4 (t:Int))))) 3)=((n+4*t+3:Nat):Int):=by rw [e0];exact i64n (by show ((n+4*t:Nat):Int)+3=_;omega) (by omega)
  refine (qC (by simp only [go_sem,Int.reduceToNat];omega)).trans ?_
  dsimp only
  rw [e1,e2,e3,e0,hi]
  refine (qH (by simp only [go_sem,Int.reduceToNat];omega)).trans ?_
  refine (qH (by simp only [go_sem,Int.reduceToNat];omega)).trans ?_
  refine (qH (by simp only [go_sem,Int.reduceToNat];omega)).trans ?_
  refine (qH (by simp only [go_sem,Int.reduceToNat];omega)).trans ?_
  refine (qH (by simp only [go_sem,Int.reduceToNat];omega)).trans ?_
  rw [sch,if_pos ht]
  rfl
 have hend:∀ v,f (((16:Nat):Int),v,())=some (.ex 0 (((16:Nat):Int),v,())):=by subst hf;intro v;exact qB rfl
 have hloop:loop f (((0:Nat):Int),sch b n 0,())=some (.ex 0 (((16:Nat):Int),sch b n 16,())) :=
  (qN (f:=f) (fun t=>((t:Int),sch b n t,())) 16 step 0 (Nat.zero_le _)).trans (qV (hend _))
 refine (zC (show loop f (0,rep (nat 64) (u32 0),())=_ from hloop)).trans ?_
 clear hloop hend step
 refine (qH g62).trans ?_
 dsimp only
 clear hf f
 generalize hf:(fun (x:Int×List UInt32×Unit)=>(_:Option (LS (Int×List UInt32×Unit) (List UInt32×Unit))))=f
 have step:∀ t:Nat,16≤t→t < 64→f ((t:Int),sch b n t,())=some (.nx (((t+1:Nat):Int),sch b n (t+1),())):=by
  intro t h16 ht
  subst hf
  have hi:i64 (iadd (t:Int) 1)=((t+1:Nat):Int):=i64n (by show (t:Int)+1=_;omega) (by omega)
  have hm:=qfK b n t
  have e15:i64 (isub (t:Int) 15)=((t - 15:Nat):Int):=i64n (by show (t:Int) - 15=_;omega) (by omega)
  have e2:i64 (isub (t:Int) 2)=((t - 2:Nat):Int):=i64n (by show (t:Int) - 2=_;omega) (by omega)
  have e7:i64 (isub (t:Int) 7)=((t - 7:Nat):Int):=i64n (by show (t:Int) - 7=_;omega) (by omega)
  have e16:i64 (isub (t:Int) 16)=((t - 16:Nat):Int):=i64n (by show (t:Int) - 16=_;omega) (by omega)
  refine (qC (by simp only [go_sem,Int.reduceToNat];omega)).trans ?_
  dsimp only
  rw [e15,e2,e7,e16,hi]
  refine (qH (by simp only [go_sem,Int.reduceToNat];omega)).trans ?_
  refine (qH (by simp only [go_sem,Int.reduceToNat];omega)).trans ?_
  rw [qeL]
  refine (qF rfl).trans ?_
  rw [qeL]
  refine (qF rfl).trans ?_
  rw [qeL]
  refine (qF rfl).trans ?_
  rw [qeL]
  refine (qF rfl).trans ?_
  refine (qH (by simp only [go_sem,Int.reduceToNat];omega)).trans ?_
  refine (qH (by simp only [go_sem,Int.reduceToNat];omega)).trans ?_
  refine (qH (by simp only [go_sem,Int.reduceToNat];omega)).trans ?_
  rw [sch,if_neg (by omega)]
  rfl
 have hend:∀ v,f (((64:Nat):Int),v,())=some (.ex 2 (((64:Nat):Int),v,())):=by subst hf;intro v;exact qB rfl
 have hloop:loop f (((16:Nat):Int),sch b n 16,())=some (.ex 2 (((64:Nat):Int),sch b n 64,())) :=
  (qN (f:=f) (fun t=>(((16+t:Nat):Int),sch b n (16+t),())) 48 (fun t ht=>step (16+t) (by omega) (by omega)) 0 (Nat.zero_le _)).trans (qV (hend _))
 refine (zC (show loop f (16,sch b n 16,())=_ from hloop)).trans ?_
 clear hloop hend step hf f
 refine (qH g62).trans ?_
 have hm:=qfK b n 64
 unfold qyA
 generalize sch b n 64=m at hm
 obtain ⟨w0,w1,w2,w3,w4,w5,w6,w7,rfl⟩:=eight hw
 refine (qH rfl).trans ((qH rfl).trans ((qH rfl).trans ((qH rfl).trans ((qH rfl).trans ((qH rfl).trans ((qH rfl).trans ((qH rfl).trans ?_)))))))
 dsimp only
 generalize hf:(fun (x_1:UInt32×UInt32×UInt32×UInt32×UInt32×UInt32×UInt32×UInt32×Int×Unit)=>(_:Option (LS (UInt32×UInt32×UInt32×UInt32×UInt32×UInt32×UInt32×UInt32×Int×Unit) (List UInt32×Unit))))=f
 obtain ⟨s,hs⟩:∃ s,s=ofL [w0,w1,w2,w3,w4,w5,w6,w7]:=⟨_,rfl⟩
 let st:R8→Nat→UInt32×UInt32×UInt32×UInt32×UInt32×UInt32×UInt32×UInt32×Int×Unit:=fun r t=>(r.1,r.2.1,r.2.2.1,r.2.2.2.1,r.2.2.2.2.1,r.2.2.2.2.2.1,r.2.2.2.2.2.2.1,r.2.2.2.2.2.2.2,(t:Int),())
 have step:∀ t:Nat,t < 64→f (st (rounds m s t) t)=some (.nx (st (rounds m s (t+1)) (t+1))):=by
  intro t ht
  subst hf
  have hi:i64 (iadd (t:Int) 1)=((t+1:Nat):Int):=i64n (by show (t:Int)+1=_;omega) (by omega)
  have hk:(qiS:List UInt32).length=64:=rfl
  rw [show rounds m s (t+1)=nxt (q32 qiS t) (q32 m t) (rounds m s t) from rfl]
  generalize rounds m s t=r
  obtain ⟨h,g,f,e,d,c,b,a⟩:=r
  dsimp only [st]
  refine (qC (by simp only [go_sem,Int.reduceToNat];omega)).trans ?_
  rw [hi,qeL]
  refine (qF rfl).trans ?_
  rw [qeL]
  refine (qF rfl).trans ?_
  rw [qeL]
  refine (qF rfl).trans ?_
  refine (qH (by simp only [go_sem,Int.reduceToNat];omega)).trans ?_
  refine (qH (by simp only [go_sem,Int.reduceToNat];omega)).trans ?_
  rw [qeL]
  refine (qF rfl).trans ?_
  rw [qeL]
  refine (qF rfl).trans ?_
  rw [qeL]
  refine (qF rfl).trans ?_
  rfl
 have hend:∀ r,f (st r 64)=some (.ex 4 (st r 64)):=by subst hf;intro v;exact qB rfl
 have hloop:loop f (st (rounds m s 0) 0)=some (.ex 4 (st (rounds m s 64) 64)) :=
  (qN (f:=f) (fun t=>st (rounds m s t) t) 64 step 0 (Nat.zero_le _)).trans (qV (hend _))
 rw [show rounds m s 0=s from rfl] at hloop
 rw [← hs]
 generalize rounds m s 64=r at hloop
 obtain ⟨h,g,f',e,d,c,b',a⟩:=r
 rw [hs] at hloop
 refine (zC (show loop f (w7,w6,w5,w4,w3,w2,w1,w0,0,())=_ from hloop)).trans ?_
 refine (qH g62).trans ?_
 refine (qH rfl).trans ((qH rfl).trans ((qH rfl).trans ((qH rfl).trans ((qH rfl).trans ((qH rfl).trans ((qH rfl).trans ((qH rfl).trans ?_)))))))
 rfl
end Yp
namespace Yp
open Go
set_option maxRecDepth 100000
set_option maxHeartbeats 2000000
def eat (w:List UInt32) (l:BB):Nat→List UInt32
 | 0=>w
 | i+1=>qyA (eat w l i) l (64*i)
theorem qaX {w:List UInt32} (hw:w.length=8) (l:BB):∀ i,(eat w l i).length=8
 | 0=>hw
 | _+1=>rfl
theorem qMz (l:BB) (k i:Nat):q8 (l.drop k) i=q8 l (k+i):=by
 unfold q8;rw [List.getD_eq_getElem?_getD,List.getElem?_drop,← List.getD_eq_getElem?_getD]
theorem qQb (l:BB) {k i:Nat} (h:i < k):q8 (l.take k) i=q8 l i:=by
 unfold q8;rw [List.getD_eq_getElem?_getD,List.getElem?_take_of_lt h,← List.getD_eq_getElem?_getD]
theorem qDs (w:List UInt32) (l:BB) (k:Nat):qyA w ((l.drop k).take 64) 0=qyA w l k :=
 qnJ (fun i hi=>by rw [Nat.zero_add,qQb _ hi,qMz]) w
theorem qFT {l m:BB} (w:List UInt32):∀ {i},(∀ j,j < 64*i→q8 l j=q8 m j)→eat w l i=eat w m i
 | 0,_=>rfl
 | i+1,h=>by
  rw [eat,eat,qFT w fun j hj=>h j (by omega)]
  exact qnJ (fun j hj=>h _ (by omega)) _
theorem qNL (w:List UInt32) (l:BB) (i:Nat):∀ j,eat w l (i+j)=eat (eat w l i) (l.drop (64*i)) j
 | 0=>rfl
 | j+1=>by
  rw [← Nat.add_assoc,eat,eat,qNL w l i j]
  exact qnJ (fun k _=>by rw [qMz];congr 1;omega) _
abbrev HT:=List UInt32×Int×BB×Unit
def putD (h:HT) (b:BB):HT :=
 (eat h.1 (h.2.2.1++b) ((h.2.2.1++b).length / 64),h.2.1+(b.length:Int),(h.2.2.1++b).drop (64*((h.2.2.1++b).length / 64)),())
theorem cpy2 (r b:BB):cpy (cpy (rep (r.length+b.length) (u8 0)) 0 (ln (rep (r.length+b.length) (u8 0))) r) r.length (r.length+b.length - r.length) b=r++b:=by
 unfold cpy rep ln
 rw [List.length_replicate,List.take_zero,List.nil_append,List.take_of_length_le (show r.length≤r.length+b.length by omega),Nat.zero_add,Nat.min_eq_right (show r.length≤r.length+b.length by omega),List.drop_replicate,
  List.take_left,Nat.add_sub_cancel_left,List.take_of_length_le (Nat.le_refl _),Nat.min_self,List.drop_of_length_le (by simp),List.append_nil]
theorem qNg:ql4 ()=some (qiS,()):=rfl
theorem qDy (H:List UInt32) (hH:H.length=8) (N:Int) (r b:BB) (hN:0≤N) (hb:N+(b.length:Int)≤1125899906842624) (hr:r.length≤64) (hm:b.length≤1000000000):qgL ((H,N,r,()),b,())=some (putD (H,N,r,()) b,()):=by
 unfold qgL
 have e0:i64 (isub 1125899906842624 N)=1125899906842624 - N:=zX (by show -9223372036854775808≤(1125899906842624:Int) - N;omega) (by show (1125899906842624:Int) - N≤9223372036854775807;omega)
 dsimp only
 rw [e0]
 refine (qB (by simp only [go_sem,Int.reduceToNat];omega)).trans ?_
 have e1:i64 (iadd (len r) (len b))=((r.length+b.length:Nat):Int):=i64n (by show (r.length:Int)+(b.length:Int)=_;omega) (by omega)
 have e2:i64 (iadd N (len b))=N+(b.length:Int):=zX (by show -9223372036854775808≤N+(b.length:Int);omega) (by show N+(b.length:Int)≤9223372036854775807;omega)
 rw [e1,e2]
 refine (qH (by simp only [go_sem,Int.reduceToNat];omega)).trans ?_
 have hlen:len (cpy (rep (nat ((r.length+b.length:Nat):Int)) (u8 0)) 0 (ln (rep (nat ((r.length+b.length:Nat):Int)) (u8 0))) r)=((r.length+b.length:Nat):Int):=by
  unfold len cpy rep ln nat
  simp only [Int.toNat_natCast,List.length_replicate,List.take_zero,List.nil_append,List.length_append,List.length_take,List.length_drop]
  omega
 rw [hlen]
 refine (qH (by simp only [go_sem,Int.reduceToNat];omega)).trans ?_
 rw [show nat (len r)=r.length from qP,show nat ((r.length+b.length:Nat):Int)=r.length+b.length from qP,show nsub (r.length+b.length) r.length=r.length+b.length - r.length from rfl,cpy2]
 generalize hf:(fun (x:BB×(List UInt32×Int×BB×Unit)×Unit)=>(_:Option (LS (BB×(List UInt32×Int×BB×Unit)×Unit) ((List UInt32×Int×BB×Unit)×Unit))))=f
 generalize hl:r++b=l
 have hll:l.length=r.length+b.length:=by rw [← hl,List.length_append]
 have step:∀ i,i < l.length / 64→f (l.drop (64*i),(eat H l i,N+(b.length:Int),r,()),())=some (.nx (l.drop (64*(i+1)),(eat H l (i+1),N+(b.length:Int),r,()),())):=by
  intro i hi
  subst hf
  have hd:(l.drop (64*i)).length=l.length - 64*i:=List.length_drop
  have hlen:len (l.drop (64*i))=((l.length - 64*i:Nat):Int):=by unfold len;rw [hd]
  dsimp only
  rw [hlen]
  refine (qC (by simp only [go_sem,Int.reduceToNat];omega)).trans ?_
  refine (qH (by simp only [go_sem,Int.reduceToNat];omega)).trans ?_
  rw [show cut (l.drop (64*i)) (nat 0) (nsub (nat 64) (nat 0))=(l.drop (64*i)).take 64 from rfl,qmO _ (qaX hH l i) _ (by rw [List.length_take,hd];omega)]
  refine (qF rfl).trans ?_
  refine (qH (by simp only [go_sem,Int.reduceToNat];omega)).trans ?_
  rw [qDs]
  have hc:cut (l.drop (64*i)) (nat 64) (nsub (nat ((l.length - 64*i:Nat):Int)) (nat 64))=l.drop (64*(i+1)):=by
   unfold cut
   rw [show nat 64=64 from rfl,qP,List.drop_drop,List.take_of_length_le (by rw [List.length_drop];show _≤l.length - 64*i - 64;omega)]
   congr 1
  rw [hc];rfl
 have hend:f (l.drop (64*(l.length / 64)),(eat H l (l.length / 64),N+(b.length:Int),r,()),())=some (.ex 0 (l.drop (64*(l.length / 64)),(eat H l (l.length / 64),N+(b.length:Int),r,()),())):=by
  subst hf
  have hlen:len (l.drop (64*(l.length / 64)))=((l.length - 64*(l.length / 64):Nat):Int):=by unfold len;rw [List.length_drop]
  dsimp only
  rw [hlen]
  exact qB (by simp only [go_sem,Int.reduceToNat];omega)
 have hloop:=(qN (f:=f) (fun i=>(l.drop (64*i),(eat H l i,N+(b.length:Int),r,()),())) (l.length / 64) step 0 (Nat.zero_le _)).trans (qV hend)
 refine (zC (show loop f (l,(H,N+(b.length:Int),r,()),())=_ from hloop)).trans ?_
 refine (qH g62).trans ?_
 subst hl;rfl
theorem qy6 (H:List UInt32) (hH:H.length=8) (N:Int) (r b:BB) (hN:0≤N) (hb:N+(b.length:Int)≤1125899906842624) (hr:r.length≤64) (hm:b.length≤1000000000):qjW ((H,N,r,()),b,())=some (putD (H,N,r,()) b,()):=by
 unfold qjW
 have e0:i64 (isub 1125899906842624 N)=1125899906842624 - N:=zX (by show -9223372036854775808≤(1125899906842624:Int) - N;omega) (by show (1125899906842624:Int) - N≤9223372036854775807;omega)
 dsimp only
 rw [e0]
 refine (qB (by simp only [go_sem,Int.reduceToNat];omega)).trans ?_
 refine (qH (by simp only [go_sem,Int.reduceToNat];omega)).trans ?_
 rw [show app (none' UInt8) r=r from rfl]
 refine (qH (by simp only [go_sem,Int.reduceToNat];omega)).trans ?_
 rw [qNg]
 refine (qF rfl).trans ?_
 generalize hf:(fun (x_1:Int×(List UInt32×Int×BB×Unit)×Unit)=>(_:Option (LS (Int×(List UInt32×Int×BB×Unit)×Unit) ((List UInt32×Int×BB×Unit)×Unit))))=f
 rw [show app r b=r++b from rfl] at hf ⊢
 generalize hl:r++b=l at hf ⊢
 have hll:l.length=r.length+b.length:=by rw [← hl,List.length_append]
 have step:∀ i:Nat,i < l.length / 64→f (((64*i:Nat):Int),(eat H l i,N,r,()),())=some (.nx (((64*(i+1):Nat):Int),(eat H l (i+1),N,r,()),())):=by
  intro i hi
  subst hf
  have e:i64 (isub (len l) ((64*i:Nat):Int))=((l.length - 64*i:Nat):Int):=i64n (by show (l.length:Int) - _=_;omega) (by omega)
  have e':i64 (iadd ((64*i:Nat):Int) 64)=((64*(i+1):Nat):Int):=i64n (by show ((64*i:Nat):Int)+64=_;omega) (by omega)
  dsimp only
  rw [e,e']
  refine (qC (by simp only [go_sem,Int.reduceToNat];omega)).trans ?_
  rw [qjU _ (qaX hH l i) l (64*i) (by omega) (by omega)]
  rfl
 have hend:f (((64*(l.length / 64):Nat):Int),(eat H l (l.length / 64),N,r,()),())=some (.ex 0 (((64*(l.length / 64):Nat):Int),(eat H l (l.length / 64),N,r,()),())):=by
  subst hf
  have e:i64 (isub (len l) ((64*(l.length / 64):Nat):Int))=((l.length - 64*(l.length / 64):Nat):Int):=i64n (by show (l.length:Int) - _=_;omega) (by omega)
  dsimp only
  rw [e]
  exact qB (by simp only [go_sem,Int.reduceToNat];omega)
 have hloop:=(qN (f:=f) (fun i=>(((64*i:Nat):Int),(eat H l i,N,r,()),())) (l.length / 64) step 0 (Nat.zero_le _)).trans (qV hend)
 refine (zC (show loop f (0,(H,N,r,()),())=_ from hloop)).trans ?_
 refine (qH g62).trans ?_
 refine (qH (by simp only [go_sem,Int.reduceToNat];omega)).trans ?_
 have e2:i64 (iadd N (len b))=N+(b.length:Int):=zX (by show -9223372036854775808≤N+(b.length:Int);omega) (by show N+(b.length:Int)≤9223372036854775807;omega)
 have hc:cut l (nat ((64*(l.length / 64):Nat):Int)) (nsub (nat (len l)) (nat ((64*(l.length / 64):Nat):Int)))=l.drop (64*(l.length / 64)):=by
  unfold cut
  rw [qP,show nat (len l)=l.length from qP,List.take_of_length_le (by rw [List.length_drop];exact Nat.le_refl _)]
 dsimp only
 rw [e2,hc]
 subst hl;rfl
end Yp
namespace Yp
open Go
set_option maxRecDepth 100000
set_option maxHeartbeats 2000000
def zs (r:Nat):Nat:=(119 - r) % 64
def lenB (n:Int) (i:Nat):BB:=(List.range i).map fun j=>u8 (shrI .i64 (i64 (imul 8 n)) ((56 - 8*j:Nat):Int))
def padD (n:Int):BB:=[u8 128]++List.replicate (zs (n.toNat % 64)) (u8 0)++lenB n 8
def wb (x:UInt32):BB:=[u8 (n32 (u32 (shrI .u32 (n32 x) (n64 (u64 24))))),u8 (n32 (u32 (shrI .u32 (n32 x) (n64 (u64 16))))),u8 (n32 (u32 (shrI .u32 (n32 x) (n64 (u64 8))))),u8 (n32 x)]
theorem qDn {a b:Int} (h:a % 256=b % 256):u8 a=u8 b:=by
 show UInt8.ofNat (a % 2 ^ 8).toNat=UInt8.ofNat (b % 2 ^ 8).toNat
 rw [show a % 2 ^ 8=b % 2 ^ 8 from h]
theorem qRr (x:UInt32):wb x=[u8 (n32 (u32 (idiv (n32 x) (n32 (u32 16777216))))),u8 (n32 (u32 (imod (n32 (u32 (idiv (n32 x) (n32 (u32 65536))))) (n32 (u32 256))))),u8 (n32 (u32 (imod (n32 (u32 (idiv (n32 x) (n32 (u32 256))))) (n32 (u32 256))))),u8 (n32 (u32 (imod (n32 x) (n32 (u32 256)))))]:=by
 have hx:=x.toNat_lt
 obtain ⟨v,hv⟩:∃ v,v=x.toNat:=⟨_,rfl⟩
 rw [← hv] at hx
 have e:n32 x=(v:Int):=by rw [hv];rfl
 have k1:n32 (u32 16777216)=16777216:=wP (by decide)
 have k2:n32 (u32 65536)=65536:=wP (by decide)
 have k3:n32 (u32 256)=256:=wP (by decide)
 have a1:shrI .u32 (v:Int) (n64 (u64 24))=((v / 16777216:Nat):Int):=by show Int.fdiv (v:Int) (2 ^ 24)=_;rw [Int.fdiv_eq_ediv_of_nonneg _ (by decide)];omega
 have a2:shrI .u32 (v:Int) (n64 (u64 16))=((v / 65536:Nat):Int):=by show Int.fdiv (v:Int) (2 ^ 16)=_;rw [Int.fdiv_eq_ediv_of_nonneg _ (by decide)];omega
 have a3:shrI .u32 (v:Int) (n64 (u64 8))=((v / 256:Nat):Int):=by show Int.fdiv (v:Int) (2 ^ 8)=_;rw [Int.fdiv_eq_ediv_of_nonneg _ (by decide)];omega
 have b1:idiv (v:Int) 16777216=((v / 16777216:Nat):Int):=by rw [g31 (by omega)];omega
 have b2:idiv (v:Int) 65536=((v / 65536:Nat):Int):=by rw [g31 (by omega)];omega
 have b3:idiv (v:Int) 256=((v / 256:Nat):Int):=by rw [g31 (by omega)];omega
 have c:∀ m:Nat,m < 4294967296→n32 (u32 (m:Int))=(m:Int):=fun m hm=>wP (by omega)
 have d:∀ m:Nat,imod (m:Int) 256=((m % 256:Nat):Int):=fun m=>by rw [g32 (by omega)];omega
 unfold wb
 rw [e,k1,k2,k3,a1,a2,a3,b1,b2,b3,c _ (by omega),c _ (by omega),c _ (by omega),d,d,d,c _ (by omega),c _ (by omega),c _ (by omega)]
 congr 1
 congr 1
 ·exact qDn (by omega)
 ·congr 1
  ·exact qDn (by omega)
  ·congr 1
   exact qDn (by omega)
def outW (w:List UInt32) (i:Nat):BB:=(List.range i).flatMap fun j=>wb (q32 w j)
theorem qhC (w:List UInt32):∀ i,(outW w i).length=4*i
 | 0=>rfl
 | i+1=>by unfold outW;rw [List.range_succ,List.flatMap_append,List.length_append];have:=qhC w i;unfold outW at this;rw [this];simp [wb];omega
theorem qFf (w:List UInt32) (i:Nat):outW w (i+1)=outW w i++wb (q32 w i):=by unfold outW;rw [List.range_succ,List.flatMap_append];simp
theorem qFv (n:Int) (i:Nat):lenB n (i+1)=lenB n i++[u8 (shrI .i64 (i64 (imul 8 n)) ((56 - 8*i:Nat):Int))]:=by unfold lenB;rw [List.range_succ,List.map_append];rfl
theorem qaT (n:Int) (i:Nat):(lenB n i).length=i:=by simp [lenB]
def sumD (h:HT):BB:=outW (eat h.1 (h.2.2.1++padD h.2.1) ((h.2.2.1++padD h.2.1).length / 64)) 8
theorem qBS (l:BB) (k:Nat):l++List.replicate k (u8 0)++[u8 0]=l++List.replicate (k+1) (u8 0):=by rw [List.append_assoc,← List.replicate_succ']
theorem qDx (H:List UInt32) (hH:H.length=8) (N:Int) (r:BB) (hN:0≤N) (hN2:N≤1125899906842624) (hr:r.length=N.toNat % 64):qnL ((H,N,r,()),())=some (sumD (H,N,r,()),()):=by
 unfold qnL
 dsimp only
 have hz:rep (nat 0) (u8 0)=[]:=rfl
 rw [hz,show app ([]:BB) r=r from rfl,show app r [u8 128]=r++[u8 128] from rfl]
 refine (qH (by decide)).trans ?_
 refine (qH (by simp only [go_sem,Int.reduceToNat];omega)).trans ?_
 refine (qH (by simp only [go_sem,Int.reduceToNat];simp;omega)).trans ?_
 generalize hf:(fun (x:BB×Unit)=>(_:Option (LS (BB×Unit) (BB×Unit))))=f
 have hr64:r.length < 64:=by omega
 have hzs:zs (N.toNat % 64) < 64:=by unfold zs;omega
 have step:∀ i:Nat,i < zs (N.toNat % 64)→f (r++[u8 128]++List.replicate i (u8 0),())=some (.nx (r++[u8 128]++List.replicate (i+1) (u8 0),())):=by
  intro i hi
  subst hf
  have hl:(r++[u8 128]++List.replicate i (u8 0)).length=r.length+1+i:=by simp;omega
  have hne:¬ (((r++[u8 128]++List.replicate i (u8 0)).length:Int) % 64=56):=by rw [hl];unfold zs at hi;omega
  refine (qC (by simp (disch:=omega) only [go_sem,Int.reduceToNat];omega)).trans ?_
  refine (qH (by simp only [go_sem,Int.reduceToNat];simp;omega)).trans ?_
  show some (LS.nx (r++[u8 128]++List.replicate i (u8 0)++[u8 0],()))=_
  rw [qBS]
 have hend:f (r++[u8 128]++List.replicate (zs (N.toNat % 64)) (u8 0),())=some (.ex 0 (r++[u8 128]++List.replicate (zs (N.toNat % 64)) (u8 0),())):=by
  subst hf
  have hl:(r++[u8 128]++List.replicate (zs (N.toNat % 64)) (u8 0)).length=r.length+1+zs (N.toNat % 64):=by simp;omega
  have he:(((r++[u8 128]++List.replicate (zs (N.toNat % 64)) (u8 0)).length:Int) % 64=56):=by rw [hl];unfold zs;omega
  exact qB (by simp (disch:=omega) only [go_sem,Int.reduceToNat];omega)
 have hloop:=(qN (f:=f) (fun i=>(r++[u8 128]++List.replicate i (u8 0),())) (zs (N.toNat % 64)) step 0 (Nat.zero_le _)).trans (qV hend)
 rw [List.replicate_zero,List.append_nil] at hloop
 refine (zC hloop).trans ?_
 clear hloop hend step
 refine (qH g62).trans ?_
 clear hf f
 dsimp only
 generalize hL:r++[u8 128]++List.replicate (zs (N.toNat % 64)) (u8 0)=L
 have hLl:L.length=r.length+1+zs (N.toNat % 64):=by rw [← hL];simp;omega
 generalize hf:(fun (x_1:BB×Int×Unit)=>(_:Option (LS (BB×Int×Unit) (BB×Unit))))=f
 have step:∀ i:Nat,i < 8→f (L++lenB N i,56 - 8*(i:Int),())=some (.nx (L++lenB N (i+1),56 - 8*((i+1:Nat):Int),())):=by
  intro i hi
  subst hf
  have hl:(L++lenB N i).length=L.length+i:=by rw [List.length_append,qaT]
  refine (qC (by simp only [go_sem,Int.reduceToNat];omega)).trans ?_
  refine (qH (by simp only [go_sem,Int.reduceToNat];omega)).trans ?_
  refine (qH (by simp only [go_sem,Int.reduceToNat];simp [qaT];omega)).trans ?_
  dsimp only
  rw [show app (L++lenB N i) [u8 (shrI .i64 (i64 (imul 8 N)) (56 - 8*(i:Int)))]=L++lenB N (i+1) by rw [qFv,show ((56 - 8*i:Nat):Int)=56 - 8*(i:Int) by omega];exact List.append_assoc _ _ _,
   show i64 (isub (56 - 8*(i:Int)) 8)=56 - 8*((i+1:Nat):Int) by rw [zX (by show -9223372036854775808≤56 - 8*(i:Int) - 8;omega) (by show 56 - 8*(i:Int) - 8≤9223372036854775807;omega)];show 56 - 8*(i:Int) - 8=_;omega]
 have hend:f (L++lenB N 8,56 - 8*((8:Nat):Int),())=some (.ex 2 (L++lenB N 8,56 - 8*((8:Nat):Int),())):=by subst hf;exact qB (show le 0 (56 - 8*((8:Nat):Int))=false from rfl)
 have hloop:=(qN (f:=f) (fun i=>(L++lenB N i,56 - 8*(i:Int),())) 8 step 0 (Nat.zero_le _)).trans (qV hend)
 have h0:(L++lenB N 0,56 - 8*((0:Nat):Int),())=(L,56,()):=by simp [lenB]
 rw [h0] at hloop
 refine (zC hloop).trans ?_
 clear hloop hend step
 refine (qH g62).trans ?_
 clear hf f
 dsimp only
 have hT:L++lenB N 8=r++padD N:=by rw [← hL];unfold padD;simp
 rw [hT]
 have hTl:(r++padD N).length=r.length+1+zs (N.toNat % 64)+8:=by rw [← hT,List.length_append,qaT,hLl]
 have hT64:(r++padD N).length % 64=0:=by rw [hTl];unfold zs;omega
 generalize hTT:r++padD N=T at hTl hT64
 generalize hf:(fun (x:BB×List UInt32×Unit)=>(_:Option (LS (BB×List UInt32×Unit) (BB×Unit))))=f
 have step:∀ i,i < T.length / 64→f (T.drop (64*i),eat H T i,())=some (.nx (T.drop (64*(i+1)),eat H T (i+1),())):=by
  intro i hi
  subst hf
  have hd:(T.drop (64*i)).length=T.length - 64*i:=List.length_drop
  have hlen:len (T.drop (64*i))=((T.length - 64*i:Nat):Int):=by unfold len;rw [hd]
  dsimp only
  rw [hlen]
  refine (qC (by simp only [go_sem,Int.reduceToNat];omega)).trans ?_
  refine (qH (by simp only [go_sem,Int.reduceToNat];omega)).trans ?_
  rw [show cut (T.drop (64*i)) (nat 0) (nsub (nat 64) (nat 0))=(T.drop (64*i)).take 64 from rfl,qmO _ (qaX hH T i) _ (by rw [List.length_take,hd];omega)]
  refine (qF rfl).trans ?_
  refine (qH (by simp only [go_sem,Int.reduceToNat];omega)).trans ?_
  rw [qDs]
  have hc:cut (T.drop (64*i)) (nat 64) (nsub (nat ((T.length - 64*i:Nat):Int)) (nat 64))=T.drop (64*(i+1)):=by
   unfold cut
   rw [show nat 64=64 from rfl,qP,List.drop_drop,List.take_of_length_le (by rw [List.length_drop];show _≤T.length - 64*i - 64;omega)]
   congr 1
  rw [hc];rfl
 have hend:f (T.drop (64*(T.length / 64)),eat H T (T.length / 64),())=some (.ex 4 (T.drop (64*(T.length / 64)),eat H T (T.length / 64),())):=by
  subst hf
  have hlen:len (T.drop (64*(T.length / 64)))=((T.length - 64*(T.length / 64):Nat):Int):=by unfold len;rw [List.length_drop]
  dsimp only
  rw [hlen]
  exact qB (by simp only [go_sem,Int.reduceToNat];omega)
 have hloop:=(qN (f:=f) (fun i=>(T.drop (64*i),eat H T i,())) (T.length / 64) step 0 (Nat.zero_le _)).trans (qV hend)
 refine (zC (show loop f (T,H,())=_ from hloop)).trans ?_
 clear hloop hend step
 refine (qH g62).trans ?_
 clear hf f
 refine (qH (by decide)).trans ?_
 dsimp only
 unfold sumD
 dsimp only
 rw [hTT]
 have hw:=qaX hH T (T.length / 64)
 generalize eat H T (T.length / 64)=w at hw
 generalize hf:(fun (x:BB×Int×Unit)=>(_:Option (LS (BB×Int×Unit) (BB×Unit))))=f
 have step:∀ i:Nat,i < 8→f (outW w i,(i:Int),())=some (.nx (outW w (i+1),((i+1:Nat):Int),())):=by
  intro i hi
  subst hf
  have hl:=qhC w i
  have hi':i64 (iadd (i:Int) 1)=((i+1:Nat):Int):=i64n (by show (i:Int)+1=_;omega) (by omega)
  refine (qC (by simp only [go_sem,Int.reduceToNat];omega)).trans ?_
  refine (qH (by simp only [go_sem,Int.reduceToNat];omega)).trans ?_
  refine (qH (by simp only [go_sem,Int.reduceToNat];simp;omega)).trans ?_
  dsimp only
  rw [hi',qFf];rfl
 have hend:∀ v,f (v,((8:Nat):Int),())=some (.ex 6 (v,((8:Nat):Int),())):=by subst hf;intro v;exact qB rfl
 have hloop:=(qN (f:=f) (fun i=>(outW w i,(i:Int),())) 8 step 0 (Nat.zero_le _)).trans (qV (hend _))
 refine (zC (show loop f ([],0,())=_ from hloop)).trans ?_
 exact qH g62
end Yp
namespace Yp
open Go
set_option maxRecDepth 100000
set_option maxHeartbeats 2000000
theorem qj7 {a:Int} (h:0≤a∧a < 18446744073709551616):n64 (u64 a)=a:=by
 show (((BitVec.ofNat 64 ((a % 2 ^ 64).toNat)).toNat:Nat):Int)=a
 rw [BitVec.toNat_ofNat];omega
theorem qy7 (N:Int) (hN:0≤N) (hN2:N≤1125899906842624):qo1 (N,())=some (padD N,()):=by
 unfold qo1
 dsimp only
 have hzs:zs (N.toNat % 64) < 64:=by unfold zs;omega
 generalize hf:(fun (x_1:BB×Unit)=>(_:Option (LS (BB×Unit) (BB×Unit))))=f
 have step:∀ i:Nat,i < zs (N.toNat % 64)→f ([u8 128]++List.replicate i (u8 0),())=some (.nx ([u8 128]++List.replicate (i+1) (u8 0),())):=by
  intro i hi
  subst hf
  have hl:([u8 128]++List.replicate i (u8 0)).length=1+i:=by simp;omega
  have e:i64 (iadd (i64 (iadd N (len ([u8 128]++List.replicate i (u8 0))))) 8)=N+((1+i:Nat):Int)+8:=by
   have e1:i64 (iadd N (len ([u8 128]++List.replicate i (u8 0))))=N+((1+i:Nat):Int):=by
    show i64 (N+(([u8 128]++List.replicate i (u8 0)).length:Int))=_
    rw [hl];exact zX (by omega) (by omega)
   rw [e1];exact zX (by show -9223372036854775808≤N+((1+i:Nat):Int)+8;omega) (by show N+((1+i:Nat):Int)+8≤9223372036854775807;omega)
  dsimp only
  rw [e]
  have hne:¬ ((N+((1+i:Nat):Int)+8) % 64=0):=by unfold zs at hi;omega
  refine (qC (by simp (disch:=omega) only [go_sem,Int.reduceToNat];omega)).trans ?_
  refine (qH (by simp only [go_sem,Int.reduceToNat];simp;omega)).trans ?_
  show some (LS.nx ([u8 128]++List.replicate i (u8 0)++[u8 0],()))=_
  rw [qBS]
 have hend:f ([u8 128]++List.replicate (zs (N.toNat % 64)) (u8 0),())=some (.ex 0 ([u8 128]++List.replicate (zs (N.toNat % 64)) (u8 0),())):=by
  subst hf
  obtain ⟨i,hi⟩:∃ i,i=zs (N.toNat % 64):=⟨_,rfl⟩
  rw [← hi]
  have hl:([u8 128]++List.replicate i (u8 0)).length=1+i:=by simp;omega
  have e:i64 (iadd (i64 (iadd N (len ([u8 128]++List.replicate i (u8 0))))) 8)=N+((1+i:Nat):Int)+8:=by
   have e1:i64 (iadd N (len ([u8 128]++List.replicate i (u8 0))))=N+((1+i:Nat):Int):=by
    show i64 (N+(([u8 128]++List.replicate i (u8 0)).length:Int))=_
    rw [hl];exact zX (by omega) (by omega)
   rw [e1];exact zX (by show -9223372036854775808≤N+((1+i:Nat):Int)+8;omega) (by show N+((1+i:Nat):Int)+8≤9223372036854775807;omega)
  dsimp only
  rw [e]
  have hne:((N+((1+i:Nat):Int)+8) % 64=0):=by unfold zs at hi;omega
  exact qB (by simp (disch:=omega) only [go_sem,Int.reduceToNat];omega)
 have hloop:=(qN (f:=f) (fun i=>([u8 128]++List.replicate i (u8 0),())) (zs (N.toNat % 64)) step 0 (Nat.zero_le _)).trans (qV hend)
 rw [List.replicate_zero,List.append_nil] at hloop
 refine (zC hloop).trans ?_
 clear hloop hend step
 refine (qH g62).trans ?_
 clear hf f
 dsimp only
 generalize hL:[u8 128]++List.replicate (zs (N.toNat % 64)) (u8 0)=L
 have hLl:L.length=1+zs (N.toNat % 64):=by rw [← hL];simp;omega
 generalize hf:(fun (x_1:BB×Int×Unit)=>(_:Option (LS (BB×Int×Unit) (BB×Unit))))=f
 have step:∀ i:Nat,i < 8→f (L++lenB N i,56 - 8*(i:Int),())=some (.nx (L++lenB N (i+1),56 - 8*((i+1:Nat):Int),())):=by
  intro i hi
  subst hf
  have hl:(L++lenB N i).length=L.length+i:=by rw [List.length_append,qaT]
  refine (qC (by simp only [go_sem,Int.reduceToNat];omega)).trans ?_
  refine (qH (by simp only [go_sem,Int.reduceToNat];simp [qaT];omega)).trans ?_
  dsimp only
  rw [qj7 (a:=56 - 8*(i:Int)) (by omega),show app (L++lenB N i) [u8 (shrI .i64 (i64 (imul 8 N)) (56 - 8*(i:Int)))]=L++lenB N (i+1) by rw [qFv,show ((56 - 8*i:Nat):Int)=56 - 8*(i:Int) by omega];exact List.append_assoc _ _ _,
   show i64 (isub (56 - 8*(i:Int)) 8)=56 - 8*((i+1:Nat):Int) by rw [zX (by show -9223372036854775808≤56 - 8*(i:Int) - 8;omega) (by show 56 - 8*(i:Int) - 8≤9223372036854775807;omega)];show 56 - 8*(i:Int) - 8=_;omega]
 have hend:f (L++lenB N 8,56 - 8*((8:Nat):Int),())=some (.ex 2 (L++lenB N 8,56 - 8*((8:Nat):Int),())):=by subst hf;exact qB (show le 0 (56 - 8*((8:Nat):Int))=false from rfl)
 have hloop:=(qN (f:=f) (fun i=>(L++lenB N i,56 - 8*(i:Int),())) 8 step 0 (Nat.zero_le _)).trans (qV hend)
 have h0:(L++lenB N 0,56 - 8*((0:Nat):Int),())=(L,56,()):=by simp [lenB]
 rw [h0] at hloop
 refine (zC hloop).trans ?_
 refine (qH g62).trans ?_
 dsimp only
 rw [← hL];rfl
theorem qIe (N:Int):(padD N).length=9+zs (N.toNat % 64):=by unfold padD;simp [qaT];omega
theorem qy5 (H:List UInt32) (hH:H.length=8) (N:Int) (r:BB) (hN:0≤N) (hN2:N≤1125899906842624) (hr:r.length=N.toNat % 64):qjV ((H,N,r,()),())=some (sumD (H,N,r,()),()):=by
 unfold qjV
 dsimp only
 rw [show app (none' UInt8) r=r from rfl]
 refine (qH (by simp only [go_sem,Int.reduceToNat];omega)).trans ?_
 rw [qy7 N hN hN2]
 refine (qF rfl).trans ?_
 have hp:=qIe N
 have hzs:zs (N.toNat % 64) < 64:=by unfold zs;omega
 refine (qH (by simp only [go_sem,Int.reduceToNat];omega)).trans ?_
 rw [qNg]
 refine (qF rfl).trans ?_
 dsimp only
 unfold sumD
 dsimp only
 rw [show app r (padD N)=r++padD N from rfl]
 have hTl:(r++padD N).length=r.length+1+zs (N.toNat % 64)+8:=by rw [List.length_append,hp];omega
 have hT64:(r++padD N).length % 64=0:=by rw [hTl];unfold zs;omega
 generalize hTT:r++padD N=T at hTl hT64
 generalize hf:(fun (x_1:Int×List UInt32×Unit)=>(_:Option (LS (Int×List UInt32×Unit) (BB×Unit))))=f
 have step:∀ i:Nat,i < T.length / 64→f (((64*i:Nat):Int),eat H T i,())=some (.nx (((64*(i+1):Nat):Int),eat H T (i+1),())):=by
  intro i hi
  subst hf
  have e':i64 (iadd ((64*i:Nat):Int) 64)=((64*(i+1):Nat):Int):=i64n (by show ((64*i:Nat):Int)+64=_;omega) (by omega)
  dsimp only
  rw [e']
  refine (qC (by simp only [go_sem,Int.reduceToNat];omega)).trans ?_
  rw [qjU _ (qaX hH T i) T (64*i) (by omega) (by omega)]
  rfl
 have hend:f (((64*(T.length / 64):Nat):Int),eat H T (T.length / 64),())=some (.ex 0 (((64*(T.length / 64):Nat):Int),eat H T (T.length / 64),())):=by
  subst hf
  exact qB (by simp only [go_sem,Int.reduceToNat];omega)
 have hloop:=(qN (f:=f) (fun i=>(((64*i:Nat):Int),eat H T i,())) (T.length / 64) step 0 (Nat.zero_le _)).trans (qV hend)
 refine (zC (show loop f (0,H,())=_ from hloop)).trans ?_
 clear hloop hend step
 refine (qH g62).trans ?_
 clear hf f
 dsimp only
 have hw:=qaX hH T (T.length / 64)
 generalize eat H T (T.length / 64)=w at hw
 generalize hf:(fun (x:BB×Int×Unit)=>(_:Option (LS (BB×Int×Unit) (BB×Unit))))=f
 have step:∀ i:Nat,i < 8→f (outW w i,(i:Int),())=some (.nx (outW w (i+1),((i+1:Nat):Int),())):=by
  intro i hi
  subst hf
  have hl:=qhC w i
  have hi':i64 (iadd (i:Int) 1)=((i+1:Nat):Int):=i64n (by show (i:Int)+1=_;omega) (by omega)
  refine (qC (by simp only [go_sem,Int.reduceToNat];omega)).trans ?_
  refine (qH (by simp only [go_sem,Int.reduceToNat];omega)).trans ?_
  refine (qH (by simp only [go_sem,Int.reduceToNat];omega)).trans ?_
  refine (qH (by simp only [go_sem,Int.reduceToNat];omega)).trans ?_
  refine (qH (by simp only [go_sem,Int.reduceToNat];omega)).trans ?_
  refine (qH (by simp only [go_sem,Int.reduceToNat];simp;omega)).trans ?_
  dsimp only
  rw [hi',qFf,qRr];rfl
 have hend:∀ v,f (v,((8:Nat):Int),())=some (.ex 2 (v,((8:Nat):Int),())):=by subst hf;intro v;exact qB rfl
 have hloop:=(qN (f:=f) (fun i=>(outW w i,(i:Int),())) 8 step 0 (Nat.zero_le _)).trans (qV (hend _))
 refine (zC (show loop f (none' UInt8,0,())=_ from hloop)).trans ?_
 exact qH g62
def okH (h:HT):Prop:=h.1.length=8∧0≤h.2.1∧h.2.2.1.length=h.2.1.toNat % 64
theorem qj0 {h:HT} (hh:okH h) (b:BB):okH (putD h b):=by
 obtain ⟨h1,h2,h3⟩:=hh
 refine ⟨qaX h1 _ _, ?_, ?_⟩
 ·show 0≤h.2.1+(b.length:Int);omega
 ·show ((h.2.2.1++b).drop (64*((h.2.2.1++b).length / 64))).length=(h.2.1+(b.length:Int)).toNat % 64
  rw [List.length_drop,List.length_append,h3];omega
theorem qQc (h:HT) (x y:BB):putD (putD h x) y=putD h (x++y):=by
 obtain ⟨H,N,r,⟨⟩⟩:=h
 unfold putD
 dsimp only
 generalize hL:r++x=L
 have hM:r++(x++y)=L++y:=by rw [← List.append_assoc,hL]
 rw [hM]
 have hq:64*(L.length / 64)≤L.length:=by omega
 have hd:(L++y).drop (64*(L.length / 64))=L.drop (64*(L.length / 64))++y:=List.drop_append_of_le_length hq
 have hlen:(L.drop (64*(L.length / 64))++y).length=L.length - 64*(L.length / 64)+y.length:=by rw [List.length_append,List.length_drop]
 have hn:(L++y).length / 64=L.length / 64+(L.drop (64*(L.length / 64))++y).length / 64:=by rw [hlen,List.length_append];omega
 have he:eat H (L++y) (L.length / 64)=eat H L (L.length / 64):=by
  refine qFT H fun j hj => ?_
  unfold q8
  rw [List.getD_eq_getElem?_getD,List.getElem?_append_left (by omega),← List.getD_eq_getElem?_getD]
 refine Prod.ext ?_ (Prod.ext ?_ (Prod.ext ?_ rfl))
 ·dsimp only;rw [hn,qNL,hd,he]
 ·dsimp only;rw [List.length_append];omega
 ·dsimp only;rw [hn,← hd,List.drop_drop];congr 1;omega
theorem qG1 (h:HT):(sumD h).length=32:=by unfold sumD;rw [qhC]
def iv:HT:=([u32 1779033703,u32 3144134277,u32 1013904242,u32 2773480762,u32 1359893119,u32 2600822924,u32 528734635,u32 1541459225],0,[],())
theorem qzF:okH iv:=⟨rfl,Int.le_refl _,rfl⟩
theorem qfJ {h:HT} (hh:okH h) (b:BB) (hN:h.2.1≤1000000000) (hb:b.length≤1000000000):qgL (h,b,())=some (putD h b,()):=by
 obtain ⟨H,N,r,⟨⟩⟩:=h
 obtain ⟨h1,h2,h3⟩:=hh
 have h2':0≤N:=h2
 have h3':r.length=N.toNat % 64:=h3
 have hN':N≤1000000000:=hN
 exact qDy H h1 N r b h2 (by omega) (by omega) hb
theorem qE8 {h:HT} (hh:okH h) (b:BB) (hN:h.2.1≤1000000000) (hb:b.length≤1000000000):qjW (h,b,())=some (putD h b,()):=by
 obtain ⟨H,N,r,⟨⟩⟩:=h
 obtain ⟨h1,h2,h3⟩:=hh
 have h2':0≤N:=h2
 have h3':r.length=N.toNat % 64:=h3
 have hN':N≤1000000000:=hN
 exact qy6 H h1 N r b h2 (by omega) (by omega) hb
theorem qqO {h:HT} (hh:okH h) (hN:h.2.1≤1000000000000):qnL (h,())=some (sumD h,()):=by
 obtain ⟨H,N,r,⟨⟩⟩:=h
 obtain ⟨h1,h2,h3⟩:=hh
 have hN':N≤1000000000000:=hN
 exact qDx H h1 N r h2 (by omega) h3
theorem qE7 {h:HT} (hh:okH h) (hN:h.2.1≤1000000000000):qjV (h,())=some (sumD h,()):=by
 obtain ⟨H,N,r,⟨⟩⟩:=h
 obtain ⟨h1,h2,h3⟩:=hh
 have hN':N≤1000000000000:=hN
 exact qy5 H h1 N r h2 (by omega) h3
theorem qr1:qu5 ()=some (iv,()):=rfl
theorem qy8:qv9 ()=some (iv,()):=rfl
def qoC (b:BB):BB:=sumD (putD iv b)
theorem jW (b:BB):(qoC b).length=32:=qG1 _
theorem qu4 (b:BB) (hb:b.length≤1000000000):qDz (b,())=some (qoC b,()):=by
 unfold qDz
 rw [qr1]
 refine (qF rfl).trans ?_
 dsimp only
 rw [qfJ qzF b (by decide) hb]
 refine (qF rfl).trans ?_
 dsimp only
 have hn:(putD iv b).2.1=0+(b.length:Int):=rfl
 rw [qqO (qj0 qzF b) (by omega)];rfl
theorem qb6 (b:BB) (hb:b.length≤1000000000):qhA (b,())=some (qoC b,()):=by
 unfold qhA
 rw [qy8]
 refine (qF rfl).trans ?_
 dsimp only
 rw [qE8 qzF b (by decide) hb]
 refine (qF rfl).trans ?_
 dsimp only
 have hn:(putD iv b).2.1=0+(b.length:Int):=rfl
 rw [qE7 (qj0 qzF b) (by omega)];rfl
end Yp
namespace Yp
open Go
set_option maxRecDepth 100000
set_option maxHeartbeats 2000000
theorem qeC {α σ ρ:Type} {f:σ→Option (LS σ ρ)} (l:List α) (mk:Nat→σ) (e:Nat) (r:ρ) (p:α→Prop)
  (hs:∀ i (h:i < l.length),p l[i]→f (mk i)=some (.nx (mk (i+1)))) (hb:∀ i (h:i < l.length),¬ p l[i]→f (mk i)=some (.rt r)) (he:f (mk l.length)=some (.ex e (mk l.length))) :
  ((∀ x∈l,p x)∧loop f (mk 0)=some (.ex e (mk l.length)))∨((¬ ∀ x∈l,p x)∧loop f (mk 0)=some (.rt r)):=by
 by_cases h:∀ x∈l,p x
 ·exact .inl ⟨h,(qN mk l.length (fun i hi=>hs i hi (h _ (List.getElem_mem hi))) 0 (Nat.zero_le _)).trans (qV he)⟩
 ·refine .inr ⟨h, ?_⟩
  have key:∀ (n i:Nat),l.length - i=n→i≤l.length→(∃ j,∃ (hj:j < l.length),i≤j∧¬ p l[j])→loop f (mk i)=some (.rt r):=by
   intro n
   induction n with
   | zero=>rintro i hn hi ⟨j,hj,h1,_⟩;omega
   | succ n ih =>
    rintro i hn hi ⟨j,hj,h1,h2⟩
    have hil:i < l.length:=by omega
    by_cases hp:p l[i]
    ·rw [vW (hs i hil hp)]
     refine ih (i+1) (by omega) (by omega) ⟨j,hj, ?_,h2⟩
     rcases Nat.lt_or_eq_of_le h1 with h | rfl
     ·exact h
     ·exact absurd hp h2
    ·exact qeY (hb i hil hp)
  refine key _ 0 rfl (Nat.zero_le _) ?_
  refine Classical.byContradiction fun hn=>h fun x hx=>Classical.byContradiction fun hpx => ?_
  obtain ⟨j,hj,rfl⟩:=List.getElem_of_mem hx
  exact hn ⟨j,hj,Nat.zero_le _,hpx⟩
def kQ (key:BB):BB:=let k:=if 64 < key.length then qoC key else key;k++List.replicate (64 - k.length) (u8 0)
theorem qp8 (key:BB):(kQ key).length=64:=by
 unfold kQ
 by_cases h:64 < key.length
 ·simp only [if_pos h,List.length_append,List.length_replicate,jW]
 ·simp only [if_neg h,List.length_append,List.length_replicate];omega
theorem qNN (k:BB) (h:k.length≤64):cpy (rep (nat 64) (u8 0)) 0 (ln (rep (nat 64) (u8 0))) k=k++List.replicate (64 - k.length) (u8 0):=by
 unfold cpy rep ln
 rw [List.length_replicate,show nat 64=64 from rfl,List.take_zero,List.nil_append,List.take_of_length_le h,Nat.zero_add,Nat.min_eq_right h,List.drop_replicate]
theorem qzC (key:BB) (h:key.length≤1000000000):qpA (key,())=some (kQ key,()):=by
 unfold qpA
 refine (qH (by decide)).trans ?_
 by_cases hk:64 < key.length
 ·refine (qC (by simp only [go_sem,Int.reduceToNat];omega)).trans ?_
  dsimp only
  rw [qu4 _ h]
  refine (qF rfl).trans ?_
  dsimp only
  rw [qNN _ (by rw [jW];omega)]
  unfold kQ;simp only [if_pos hk]
 ·refine (qB (by simp only [go_sem,Int.reduceToNat];omega)).trans ?_
  dsimp only
  rw [qNN _ (by omega)]
  unfold kQ;simp only [if_neg hk]
theorem qRR {f:BB×Unit→Option (LS (BB×Unit) (BB×Unit))} (hf:f=fun (x:BB×Unit)=>sel (lt (len x.1) 64) (ck (rm 1 (nadd (ln x.1) (ln [u8 0]))) (some (LS.nx (app x.1 [u8 0],())))) (some (LS.ex 0 (x.1,())))) (k:BB) (h:k.length≤64) :
  loop f (k,())=some (.ex 0 (k++List.replicate (64 - k.length) (u8 0),())):=by
 have step:∀ i:Nat,i < 64 - k.length→f (k++List.replicate i (u8 0),())=some (.nx (k++List.replicate (i+1) (u8 0),())):=by
  intro i hi
  subst hf
  have hl:(k++List.replicate i (u8 0)).length=k.length+i:=by simp
  refine (qC (by simp only [go_sem,Int.reduceToNat];omega)).trans ?_
  refine (qH (by simp only [go_sem,Int.reduceToNat];simp;omega)).trans ?_
  show some (LS.nx (k++List.replicate i (u8 0)++[u8 0],()))=_
  rw [qBS]
 have hend:f (k++List.replicate (64 - k.length) (u8 0),())=some (.ex 0 (k++List.replicate (64 - k.length) (u8 0),())):=by
  subst hf
  have hl:(k++List.replicate (64 - k.length) (u8 0)).length=64:=by simp;omega
  exact qB (by simp only [go_sem,Int.reduceToNat];omega)
 have:=(qN (f:=f) (fun i=>(k++List.replicate i (u8 0),())) (64 - k.length) step 0 (Nat.zero_le _)).trans (qV hend)
 rwa [List.replicate_zero,List.append_nil] at this
theorem qtW (key:BB) (h:key.length≤1000000000):qg9 (key,())=some (kQ key,()):=by
 unfold qg9
 refine (qH (by simp only [go_sem,Int.reduceToNat];omega)).trans ?_
 by_cases hk:64 < key.length
 ·refine (qC (by simp only [go_sem,Int.reduceToNat];omega)).trans ?_
  dsimp only
  rw [qb6 _ h]
  refine (qF rfl).trans ?_
  dsimp only
  rw [qRR rfl _ (by rw [jW];omega)]
  refine (qH g62).trans ?_
  unfold kQ;simp only [if_pos hk]
 ·refine (qB (by simp only [go_sem,Int.reduceToNat];omega)).trans ?_
  dsimp only
  rw [show app (none' UInt8) key=key from rfl,qRR rfl _ (by omega)]
  refine (qH g62).trans ?_
  unfold kQ;simp only [if_neg hk]
def xr (c:UInt8) (l:BB):BB:=l.map fun x=>u8 (xorI .u8 (n8 x) (n8 c))
theorem qfD (c:UInt8) (l:BB):(xr c l).length=l.length:=by simp [xr]
theorem qOZ {α:Type} {L:List α} {n:Nat} {z:α} (hL:L.length=n) {i:Nat} (hi:i < n):(L.take i++List.replicate (n - i) z).set i (L[i]'(by omega))=L.take (i+1)++List.replicate (n - (i+1)) z:=by
 have h1:(L.take i).length=i:=by rw [List.length_take];omega
 rw [List.set_append_right _ _ (by omega),h1,Nat.sub_self,show n - i=(n - (i+1))+1 by omega,List.replicate_succ,List.set_cons_zero,List.take_succ_eq_append_getElem (by omega),List.append_assoc]
 rfl
theorem qJu {f:Int×BB×Unit→Option (LS (Int×BB×Unit) Unit)} (c:UInt8) (k:BB) (hk:k.length=64)
  (hf:f=fun (x:Int×BB×Unit)=>sel (lt x.1 (len k)) (ck (inB x.1 (len k)) (ck (inB x.1 (len x.2.1)) (some (LS.nx (i64 (iadd x.1 1),upd x.2.1 (nat x.1) (u8 (xorI .u8 (n8 (nth k (nat x.1) (u8 0))) (n8 c))),()))))) (some (LS.ex 0 (x.1,x.2.1,())))) :
  loop f (0,rep (nat 64) (u8 0),())=some (.ex 0 (64,xr c k,())):=by
 have hx:(xr c k).length=64:=by rw [qfD,hk]
 have step:∀ i:Nat,i < 64→f ((i:Int),(xr c k).take i++List.replicate (64 - i) (u8 0),())=some (.nx (((i+1:Nat):Int),(xr c k).take (i+1)++List.replicate (64 - (i+1)) (u8 0),())):=by
  intro i hi
  subst hf
  have hl:((xr c k).take i++List.replicate (64 - i) (u8 0)).length=64:=by rw [List.length_append,List.length_take,List.length_replicate];omega
  have hi':i64 (iadd (i:Int) 1)=((i+1:Nat):Int):=i64n (by show (i:Int)+1=_;omega) (by omega)
  refine (qC (by simp only [go_sem,Int.reduceToNat];omega)).trans ?_
  refine (qH (by simp only [go_sem,Int.reduceToNat];omega)).trans ?_
  refine (qH (by simp only [go_sem,Int.reduceToNat];omega)).trans ?_
  dsimp only
  rw [hi',show upd ((xr c k).take i++List.replicate (64 - i) (u8 0)) (nat (i:Int)) (u8 (xorI .u8 (n8 (nth k (nat (i:Int)) (u8 0))) (n8 c)))=(xr c k).take (i+1)++List.replicate (64 - (i+1)) (u8 0) from ?_]
  rw [← qOZ hx hi,qP,qL (by omega:i < k.length)]
  unfold upd
  congr 1
  simp [xr]
 have hend:f (((64:Nat):Int),(xr c k).take 64++List.replicate (64 - 64) (u8 0),())=some (.ex 0 (((64:Nat):Int),(xr c k).take 64++List.replicate (64 - 64) (u8 0),())):=by
  subst hf
  exact qB (by simp only [go_sem,Int.reduceToNat];omega)
 have:=(qN (f:=f) (fun i=>((i:Int),(xr c k).take i++List.replicate (64 - i) (u8 0),())) 64 step 0 (Nat.zero_le _)).trans (qV hend)
 rw [List.take_of_length_le (show (xr c k).length≤64 by omega),Nat.sub_self,List.replicate_zero,List.append_nil] at this
 exact this
def tagD (key b:BB):BB:=qoC (xr (u8 92) (kQ key)++qoC (xr (u8 54) (kQ key)++b))
theorem qgK (key b:BB):(tagD key b).length=32:=jW _
theorem qJU (x y:BB):sumD (putD (putD iv x) y)=qoC (x++y):=by rw [qQc];rfl
theorem qsB (key b:BB) (h:key.length≤1000000) (hb:b.length≤1000000):qwQ (key,b,())=some (tagD key b,()):=by
 unfold qwQ
 dsimp only
 rw [qzC _ (by omega)]
 refine (qF rfl).trans ?_
 refine (qH (by decide)).trans ?_
 dsimp only
 have hk:=qp8 key
 rw [qJu (u8 92) _ hk rfl]
 refine (qH g62).trans ?_
 dsimp only
 rw [qr1]
 refine (qF rfl).trans ?_
 dsimp only
 have l1:=(qfD (u8 92) (kQ key)).trans hk
 have l2:=(qfD (u8 54) (kQ key)).trans hk
 rw [qfJ qzF _ (by decide) (by omega)]
 refine (qF rfl).trans ?_
 refine (qH (by decide)).trans ?_
 dsimp only
 rw [qJu (u8 54) _ hk rfl]
 refine (qH g62).trans ?_
 refine (qF rfl).trans ?_
 dsimp only
 rw [qfJ qzF _ (by decide) (by omega)]
 refine (qF rfl).trans ?_
 dsimp only
 have n1:(putD iv (xr (u8 54) (kQ key))).2.1=0+((xr (u8 54) (kQ key)).length:Int):=rfl
 have n2:(putD (putD iv (xr (u8 54) (kQ key))) b).2.1=0+((xr (u8 54) (kQ key)).length:Int)+(b.length:Int):=rfl
 have n3:(putD iv (xr (u8 92) (kQ key))).2.1=0+((xr (u8 92) (kQ key)).length:Int):=rfl
 rw [qfJ (qj0 qzF _) b (by omega) (by omega)]
 refine (qF rfl).trans ?_
 dsimp only
 rw [qqO (qj0 (qj0 qzF _) _) (by omega),qJU]
 refine (qF rfl).trans ?_
 dsimp only
 have l4:=jW (xr (u8 54) (kQ key)++b)
 rw [qfJ (qj0 qzF _) _ (by omega) (by omega)]
 refine (qF rfl).trans ?_
 dsimp only
 have n4:∀ y,(putD (putD iv (xr (u8 92) (kQ key))) y).2.1=0+((xr (u8 92) (kQ key)).length:Int)+(y.length:Int):=fun _=>rfl
 rw [qqO (qj0 (qj0 qzF _) _) (by rw [n4];omega),qJU]
 rfl
theorem qm1 (key b:BB) (h:key.length≤1000000) (hb:b.length≤1000000):qjT (key,b,())=some (tagD key b,()):=by
 unfold qjT
 dsimp only
 rw [qtW _ (by omega)]
 refine (qF rfl).trans ?_
 dsimp only
 have hk:=qp8 key
 unfold tagD
 generalize kQ key=k at hk
 generalize hf:(fun (x:BB×BB×Int×Unit)=>(_:Option (LS (BB×BB×Int×Unit) (BB×Unit))))=f
 have x1:(xr (u8 54) k).length=64:=by rw [qfD,hk]
 have x2:(xr (u8 92) k).length=64:=by rw [qfD,hk]
 have tk:∀ (c:UInt8) (i:Nat) (hi:i < 64),app ((xr c k).take i) [u8 (xorI .u8 (n8 (nth k (nat (i:Int)) (u8 0))) (n8 c))]=(xr c k).take (i+1):=by
  intro c i hi
  have hx:(xr c k).length=64:=by rw [qfD,hk]
  rw [qP,qL (by omega:i < k.length),List.take_succ_eq_append_getElem (by omega)]
  unfold app
  congr 2
  simp [xr]
 have step:∀ i:Nat,i < 64→f ((xr (u8 54) k).take i,(xr (u8 92) k).take i,(i:Int),())=some (.nx ((xr (u8 54) k).take (i+1),(xr (u8 92) k).take (i+1),((i+1:Nat):Int),())):=by
  intro i hi
  subst hf
  have hi':i64 (iadd (i:Int) 1)=((i+1:Nat):Int):=i64n (by show (i:Int)+1=_;omega) (by omega)
  have h1:((xr (u8 54) k).take i).length=i:=by rw [List.length_take];omega
  have h2:((xr (u8 92) k).take i).length=i:=by rw [List.length_take];omega
  refine (qC (by simp only [go_sem,Int.reduceToNat];omega)).trans ?_
  refine (qH (by simp only [go_sem,Int.reduceToNat];omega)).trans ?_
  refine (qH (by simp only [go_sem,Int.reduceToNat];simp;omega)).trans ?_
  refine (qH (by simp only [go_sem,Int.reduceToNat];omega)).trans ?_
  refine (qH (by simp only [go_sem,Int.reduceToNat];simp;omega)).trans ?_
  dsimp only
  rw [hi',tk _ i hi,tk _ i hi]
 have hend:∀ u v,f (u,v,((64:Nat):Int),())=some (.ex 0 (u,v,((64:Nat):Int),())):=by subst hf;intro u v;exact qB rfl
 have hloop:=(qN (f:=f) (fun i=>((xr (u8 54) k).take i,(xr (u8 92) k).take i,(i:Int),())) 64 step 0 (Nat.zero_le _)).trans (qV (hend _ _))
 rw [List.take_of_length_le (show (xr (u8 54) k).length≤64 by omega),List.take_of_length_le (show (xr (u8 92) k).length≤64 by omega)] at hloop
 refine (zC (show loop f (none' UInt8,none' UInt8,0,())=_ from hloop)).trans ?_
 refine (qH g62).trans ?_
 dsimp only
 refine (qH (by simp only [go_sem,Int.reduceToNat];omega)).trans ?_
 rw [show app (xr (u8 54) k) b=xr (u8 54) k++b from rfl,qb6 _ (by rw [List.length_append];omega)]
 refine (qF rfl).trans ?_
 dsimp only
 have l4:=jW (xr (u8 54) k++b)
 refine (qH (by simp only [go_sem,Int.reduceToNat];omega)).trans ?_
 rw [show app (xr (u8 92) k) (qoC (xr (u8 54) k++b))=xr (u8 92) k++qoC (xr (u8 54) k++b) from rfl,qb6 _ (by rw [List.length_append];omega)]
 rfl
end Yp
namespace Yp
open Go
set_option maxRecDepth 100000
set_option maxHeartbeats 2000000
def kY (p:BB):BB:=[u8 (shrI .i64 (len p) (n64 (u64 8))),u8 (len p)]++p
def tlD (l:List BB):BB:=l.flatMap kY
def qd1 (label:BB) (l:List BB):BB:=[u8 (len label)]++label++tlD l
theorem qr6 (p:BB):(kY p).length=p.length+2:=by simp [kY]
theorem qKK {l:List BB} (h:∀ p∈l,p.length≤1000):(tlD l).length≤1002*l.length:=by
 induction l with
 | nil=>simp [tlD]
 | cons p r ih =>
  have h1:=h p (by simp)
  have h2:=ih fun q hq=>h q (by simp [hq])
  unfold tlD at h2 ⊢
  rw [List.flatMap_cons,List.length_append,qr6,List.length_cons];omega
theorem qJy {l:List BB} {i:Nat} (hi:i < l.length):tlD (l.take (i+1))=tlD (l.take i)++kY l[i]:=by
 unfold tlD
 rw [List.take_succ_eq_append_getElem hi,List.flatMap_append,List.flatMap_cons,List.flatMap_nil,List.append_nil]
theorem qd2 {label:BB} {l:List BB} (h1:label.length≤255) (h2:l.length≤16) (h:∀ p∈l,p.length≤1000):(qd1 label l).length≤20000:=by
 have:=qKK h
 unfold qd1
 simp only [List.length_append,List.length_cons,List.length_nil];omega
def qw8 (key label:BB) (l:List BB):BB:=tagD key (qd1 label l)
theorem qzO (key label:BB) (l:List BB):(qw8 key label l).length=32:=qgK _ _
theorem qkA (key label:BB) (l:List BB) (hk:key.length≤1000000) (h1:label.length≤255) (h2:l.length≤16) (h:∀ p∈l,p.length≤1000):qgA (key,label,l,())=some (qw8 key label l,0,()):=by
 unfold qgA
 dsimp only
 refine (qF (a:=(false,())) ((qB (by simp only [go_sem,Int.reduceToNat];omega)).trans (by rw [show lt 16 (len l)=false from lt_f (by simp only [go_sem,Int.reduceToNat];omega)]))).trans ?_
 refine (qB rfl).trans ?_
 refine (qH (by simp only [go_sem,Int.reduceToNat];simp;omega)).trans ?_
 generalize hf:(fun (x_1:Int×BB×Int×Unit)=>(_:Option (LS (Int×BB×Int×Unit) (BB×Int×Unit))))=f
 have hT:∀ i,(qd1 label (l.take i)).length≤20000:=fun i=>qd2 h1 (by rw [List.length_take];omega) (fun p hp=>h p (List.mem_of_mem_take hp))
 have step:∀ i:Nat,i < l.length→f (0,qd1 label (l.take i),(i:Int),())=some (.nx (0,qd1 label (l.take (i+1)),((i+1:Nat):Int),())):=by
  intro i hi
  subst hf
  have hi':i64 (iadd (i:Int) 1)=((i+1:Nat):Int):=i64n (by show (i:Int)+1=_;omega) (by omega)
  have hp:=h l[i] (List.getElem_mem hi)
  have ht:=hT i
  have hn:nth l (nat (i:Int)) (none' UInt8)=l[i]:=by rw [qP,qL hi]
  refine (qC (by simp only [go_sem,Int.reduceToNat];omega)).trans ?_
  refine (qH (by simp only [go_sem,Int.reduceToNat];omega)).trans ?_
  dsimp only
  rw [hn]
  refine (qB (by simp only [go_sem,Int.reduceToNat];omega)).trans ?_
  refine (qH (by simp only [go_sem,Int.reduceToNat];simp;omega)).trans ?_
  refine (qH (by simp only [go_sem,Int.reduceToNat];simp;omega)).trans ?_
  rw [hi',show qd1 label (l.take (i+1))=qd1 label (l.take i)++kY l[i] by unfold qd1;rw [qJy hi,List.append_assoc,List.append_assoc,List.append_assoc]]
  unfold kY app
  rw [List.append_assoc]
 have hend:∀ u,f (0,u,(l.length:Int),())=some (.ex 0 (0,u,(l.length:Int),())):=by subst hf;intro u;exact qB (by simp only [go_sem,Int.reduceToNat];omega)
 have hloop:=(qN (f:=f) (fun i=>(0,qd1 label (l.take i),(i:Int),())) l.length step 0 (Nat.zero_le _)).trans (qV (hend _))
 rw [List.take_of_length_le (Nat.le_refl _)] at hloop
 have h0:qd1 label (l.take 0)=app [u8 (len label)] label:=by unfold qd1;rw [List.take_zero];exact List.append_nil _
 rw [h0] at hloop
 refine (zC (show loop f (0,app [u8 (len label)] label,0,())=_ from hloop)).trans ?_
 refine (qH g62).trans ?_
 dsimp only
 have:=qd2 h1 h2 h
 rw [qsB _ _ hk (by omega)];rfl
theorem qv8 (label:BB) (l:List BB) (h1:label.length≤255) (h2:l.length≤16) (h:∀ p∈l,p.length≤1000):ql3 (label,l,())=some (qd1 label l,()):=by
 unfold ql3
 dsimp only
 refine (qH (by simp only [go_sem,Int.reduceToNat];omega)).trans ?_
 refine (qH (by simp only [go_sem,Int.reduceToNat];simp;omega)).trans ?_
 generalize hf:(fun (x_1:BB×Int×Unit)=>(_:Option (LS (BB×Int×Unit) (BB×Unit))))=f
 have hT:∀ i,(qd1 label (l.take i)).length≤20000:=fun i=>qd2 h1 (by rw [List.length_take];omega) (fun p hp=>h p (List.mem_of_mem_take hp))
 have step:∀ i:Nat,i < l.length→f (qd1 label (l.take i),(i:Int),())=some (.nx (qd1 label (l.take (i+1)),((i+1:Nat):Int),())):=by
  intro i hi
  subst hf
  have hi':i64 (iadd (i:Int) 1)=((i+1:Nat):Int):=i64n (by show (i:Int)+1=_;omega) (by omega)
  have hp:=h l[i] (List.getElem_mem hi)
  have ht:=hT i
  have hn:nth l (nat (i:Int)) (none' UInt8)=l[i]:=by rw [qP,qL hi]
  have q1:u8 (i64 (idiv (len l[i]) 256))=u8 (shrI .i64 (len l[i]) (n64 (u64 8))):=by
   have a1:idiv (len l[i]) 256=((l[i].length / 256:Nat):Int):=by rw [g31 (by simp only [go_sem,Int.reduceToNat];omega)];simp only [go_sem,Int.reduceToNat];omega
   have a2:shrI .i64 (len l[i]) (n64 (u64 8))=((l[i].length / 256:Nat):Int):=by show Int.fdiv (l[i].length:Int) (2 ^ 8)=_;rw [Int.fdiv_eq_ediv_of_nonneg _ (by decide)];omega
   rw [a1,a2,i64n rfl (by omega)]
  have q2:u8 (imod (len l[i]) 256)=u8 (len l[i]):=by
   rw [g32 (by simp only [go_sem,Int.reduceToNat];omega)];exact qDn (by simp only [go_sem,Int.reduceToNat];omega)
  refine (qC (by simp only [go_sem,Int.reduceToNat];omega)).trans ?_
  dsimp only
  rw [hn]
  refine (qH (by simp only [go_sem,Int.reduceToNat];omega)).trans ?_
  refine (qH (by simp only [go_sem,Int.reduceToNat];omega)).trans ?_
  refine (qH (by simp only [go_sem,Int.reduceToNat];simp;omega)).trans ?_
  refine (qH (by simp only [go_sem,Int.reduceToNat];omega)).trans ?_
  refine (qH (by simp only [go_sem,Int.reduceToNat];simp;omega)).trans ?_
  rw [hi',q1,q2,show qd1 label (l.take (i+1))=qd1 label (l.take i)++kY l[i] by unfold qd1;rw [qJy hi,List.append_assoc,List.append_assoc,List.append_assoc]]
  unfold kY app
  rw [List.append_assoc]
 have hend:∀ u,f (u,(l.length:Int),())=some (.ex 0 (u,(l.length:Int),())):=by subst hf;intro u;exact qB (by simp only [go_sem,Int.reduceToNat];omega)
 have hloop:=(qN (f:=f) (fun i=>(qd1 label (l.take i),(i:Int),())) l.length step 0 (Nat.zero_le _)).trans (qV (hend _))
 rw [List.take_of_length_le (Nat.le_refl _)] at hloop
 have h0:qd1 label (l.take 0)=app [u8 (len label)] label:=by unfold qd1;rw [List.take_zero];exact List.append_nil _
 rw [h0] at hloop
 refine (zC (show loop f (app [u8 (len label)] label,0,())=_ from hloop)).trans ?_
 exact qH g62
theorem qq8 (key label:BB) (l:List BB) (hk:key.length≤1000000) (h1:label.length≤255) (h2:l.length≤16) (h:∀ p∈l,p.length≤1000):qd7 (key,label,l,())=some (qw8 key label l,0,()):=by
 unfold qd7
 dsimp only
 refine (qF (a:=(false,())) ((qB (by simp only [go_sem,Int.reduceToNat];omega)).trans (by rw [show lt 16 (len l)=false from lt_f (by simp only [go_sem,Int.reduceToNat];omega)]))).trans ?_
 refine (qB rfl).trans ?_
 generalize hf:(fun (x_1:Int×Int×Unit)=>(_:Option (LS (Int×Int×Unit) (BB×Int×Unit))))=f
 have step:∀ i:Nat,i < l.length→f (0,(i:Int),())=some (.nx (0,((i+1:Nat):Int),())):=by
  intro i hi
  subst hf
  have hi':i64 (iadd (i:Int) 1)=((i+1:Nat):Int):=i64n (by show (i:Int)+1=_;omega) (by omega)
  have hp:=h l[i] (List.getElem_mem hi)
  have hn:nth l (nat (i:Int)) (none' UInt8)=l[i]:=by rw [qP,qL hi]
  refine (qC (by simp only [go_sem,Int.reduceToNat];omega)).trans ?_
  dsimp only
  rw [hn,hi']
  refine (qH (by simp only [go_sem,Int.reduceToNat];omega)).trans ?_
  exact qB (by simp only [go_sem,Int.reduceToNat];omega)
 have hend:f (0,(l.length:Int),())=some (.ex 0 (0,(l.length:Int),())):=by subst hf;exact qB (by simp only [go_sem,Int.reduceToNat];omega)
 have hloop:=(qN (f:=f) (fun i=>(0,(i:Int),())) l.length step 0 (Nat.zero_le _)).trans (qV hend)
 refine (zC (show loop f (0,0,())=_ from hloop)).trans ?_
 refine (qH g62).trans ?_
 rw [qv8 _ _ h1 h2 h]
 refine (qF rfl).trans ?_
 dsimp only
 have:=qd2 h1 h2 h
 rw [qm1 _ _ hk (by omega)];rfl
def kN (k b:BB):BB:=(tagD k b).take 16
theorem qb3 (k b:BB):(kN k b).length=16:=by unfold kN;rw [List.length_take,qgK];rfl
theorem qj1 (k b:BB) (hk:k.length≤1000000) (hb:b.length≤1000000):qf2 (k,b,())=some (kN k b,()):=by
 unfold qf2
 dsimp only
 rw [qsB _ _ hk hb]
 refine (qF rfl).trans ?_
 dsimp only
 have:=qgK k b
 refine (qH (by simp only [go_sem,Int.reduceToNat];omega)).trans ?_
 rfl
theorem qbU (k b:BB) (hk:k.length≤1000000) (hb:b.length≤1000000):qaP (k,b,())=some (kN k b,()):=by
 unfold qaP
 dsimp only
 rw [qm1 _ _ hk hb]
 refine (qF rfl).trans ?_
 dsimp only
 have:=qgK k b
 refine (qH (by simp only [go_sem,Int.reduceToNat];omega)).trans ?_
 rfl
abbrev ET:=BB×BB×Unit
theorem qBX (p:xX) (k b:BB):quB (p,k,b,())=some (D ((k,b,())∈p.2.1),()):=by
 unfold quB
 congr 2
 refine qlB ?_
 rw [List.any_eq_true]
 constructor
 ·rintro ⟨⟨e1,e2,⟨⟩⟩,he,h⟩
  simp only [band,seq,Bool.and_eq_true,beq_iff_eq] at h
  rw [h.1,h.2];exact he
 ·intro h
  exact ⟨_,h,by simp [band,seq]⟩
theorem qm0 (p:xX) (k b:BB) (hl:p.2.1.length≤1000000):qjR (p,k,b,())=some (D ((k,b,())∈p.2.1),()):=by
 unfold qjR
 dsimp only
 generalize p.2.1=l at hl
 generalize hf:(fun (x_1:Bool×Int×Unit)=>(_:Option (LS (Bool×Int×Unit) (Bool×Unit))))=f
 have hsame:∀ (i:Nat) (h:i < l.length),nth l (nat (i:Int)) (none' UInt8,none' UInt8,())=l[i]:=fun i h=>by rw [qP,qL h]
 have key:=qeC (f:=f) l (fun i=>(false,(i:Int),())) 0 ((true,()):Bool×Unit) (fun e=>¬ e=(k,b,())) (fun i h hp => ?_) (fun i h hp => ?_) ?_
 ·rcases key with ⟨h,hl⟩ | ⟨h,hl⟩
  ·refine (zC (show loop f (false,0,())=_ from hl)).trans ?_
   refine (qH g62).trans ?_
   rw [D_f (fun hm=>h _ hm rfl)]
  ·refine (zC (show loop f (false,0,())=_ from hl)).trans ?_
   rw [D_t (Classical.byContradiction fun hm=>h fun x hx e=>hm (e ▸ hx))];rfl
 ·subst hf
  have hi':i64 (iadd (i:Int) 1)=((i+1:Nat):Int):=i64n (by show (i:Int)+1=_;omega) (by omega)
  refine (qC (by simp (disch:=first | assumption | omega | (dsimp only;omega) | decide) only [go_sem,Int.reduceToNat];omega)).trans ?_
  refine (qH (by simp (disch:=first | assumption | omega | (dsimp only;omega) | decide) only [go_sem,Int.reduceToNat];omega)).trans ?_
  dsimp only
  rw [hsame i h,hi']
  generalize l[i]=e at hp
  obtain ⟨e1,e2,⟨⟩⟩:=e
  by_cases h1:e1=k
  ·have h2:¬ e2=b:=fun h2=>hp (by rw [h1,h2])
   simp (disch:=omega) only [go_sem,Int.reduceToNat,qX,h1,h2]
  ·simp (disch:=omega) only [go_sem,Int.reduceToNat,qX,h1]
 ·subst hf
  have hp':l[i]=(k,b,()):=Classical.byContradiction hp
  refine (qC (by simp (disch:=omega) only [go_sem,Int.reduceToNat];omega)).trans ?_
  refine (qH (by simp (disch:=omega) only [go_sem,Int.reduceToNat];omega)).trans ?_
  dsimp only
  rw [hsame i h,hp']
  simp (disch:=omega) only [go_sem,Int.reduceToNat,qX]
 ·subst hf
  exact qB (by simp (disch:=omega) only [go_sem,Int.reduceToNat];omega)
def ptag (p:xX) (k b:BB):xX:=if (k,b,())∈p.2.1 then p else (p.1,p.2.1++[(k,b,())],p.2.2)
theorem qG2 {α:Type} (l:List α):sub l 0 (len l)=l:=by
 unfold sub
 rw [show (0:Int).toNat=0 from rfl,List.drop_zero,show (len l).toNat=l.length from qP,List.take_of_length_le (by omega)]
theorem qIN {α:Type} (l:List α):band (inC 0 (len l) (len l)) (beq (len l) (len l))=true:=by
 rw [kM rfl,g37];simp only [go_sem,Int.reduceToNat];omega
theorem qLq (l:List ET):zU (l,())=some (l,()):=by
 unfold zU
 dsimp only
 rw [qG2]
 exact qH (qIN l)
theorem qiQ (l:BB) (h:l.length≤1000000):qdX (l,())=some (l,()):=by
 unfold qdX
 exact qH (by simp only [go_sem,Int.reduceToNat];omega)
theorem qBW (p:xX) (k b:BB) (hl:p.2.1.length≤1000000) (hk:k.length≤1000000) (hb:b.length≤1000000):quA (p,k,b,())=some (ptag p k b,kN k b,()):=by
 unfold quA
 dsimp only
 rw [qBX]
 refine (qF rfl).trans ?_
 unfold ptag
 by_cases h:(k,b,())∈p.2.1
 ·rw [D_t h,if_pos h]
  refine (qB rfl).trans ?_
  rw [qj1 _ _ hk hb];rfl
 ·rw [D_f h,if_neg h]
  refine (qC rfl).trans ?_
  rw [qLq]
  refine (qF rfl).trans ?_
  rw [qiQ _ hk]
  refine (qF rfl).trans ?_
  rw [qiQ _ hb]
  refine (qF rfl).trans ?_
  refine (qH (by simp only [go_sem,Int.reduceToNat];simp;omega)).trans ?_
  rw [qj1 _ _ hk hb];rfl
theorem qy3 (p:xX) (k b:BB) (hl:p.2.1.length≤1000000) (hk:k.length≤1000000) (hb:b.length≤1000000):qo0 (p,k,b,())=some (ptag p k b,kN k b,()):=by
 unfold qo0
 dsimp only
 rw [qm0 _ _ _ hl]
 refine (qF rfl).trans ?_
 unfold ptag
 by_cases h:(k,b,())∈p.2.1
 ·rw [D_t h,if_pos h]
  refine (qB rfl).trans ?_
  rw [qbU _ _ hk hb];rfl
 ·rw [D_f h,if_neg h]
  refine (qC rfl).trans ?_
  refine (qH (by simp only [go_sem,Int.reduceToNat];omega)).trans ?_
  refine (qH (by simp only [go_sem,Int.reduceToNat];simp;omega)).trans ?_
  rw [qbU _ _ hk hb];rfl
theorem qRN (p:xX) (k b:BB):(ptag p k b).2.1.length≤p.2.1.length+1:=by
 unfold ptag
 split
 ·omega
 ·simp
def pchk (p:xX) (k b t:BB):xX×Bool×Unit :=
 if kN k b=t then (if (k,b,())∈p.2.1 then (p,true,()) else ((p.1,p.2.1,true,()), !p.1,())) else (p,false,())
theorem qtV (p:xX) (k b t:BB) (hl:p.2.1.length≤1000000) (hk:k.length≤1000000) (hb:b.length≤1000000):qdF (p,k,b,t,())=some (pchk p k b t):=by
 unfold qdF
 dsimp only
 rw [qbU _ _ hk hb]
 refine (qF rfl).trans ?_
 dsimp only
 rw [qX]
 refine (qF rfl).trans ?_
 unfold pchk
 by_cases ht:kN k b=t
 ·rw [if_pos ht,qP0 ht]
  refine (qB rfl).trans ?_
  rw [qm0 _ _ _ hl]
  refine (qF rfl).trans ?_
  by_cases h:(k,b,())∈p.2.1
  ·rw [D_t h,if_pos h];rfl
  ·rw [D_f h,if_neg h];rfl
 ·rw [if_neg ht,qP1 ht];rfl
theorem qv6 (p:xX) (hl:p.2.1.length≤1000000):qfX (p,p,())=some (true,()):=by
 unfold qfX
 dsimp only
 have e1:∀ b:Bool,beb b b=true:=fun b=>by cases b <;> rfl
 rw [e1,e1,kM rfl]
 refine (qF (a:=(false,())) rfl).trans ?_
 refine (qB rfl).trans ?_
 generalize p.2.1=l at hl
 generalize hf:(fun (x_1:Bool×Int×Unit)=>(_:Option (LS (Bool×Int×Unit) (Bool×Unit))))=f
 have step:∀ i:Nat,i < l.length→f (false,(i:Int),())=some (.nx (false,((i+1:Nat):Int),())):=by
  intro i hi
  subst hf
  have hi':i64 (iadd (i:Int) 1)=((i+1:Nat):Int):=i64n (by show (i:Int)+1=_;omega) (by omega)
  refine (qC (by simp (disch:=omega) only [go_sem,Int.reduceToNat];omega)).trans ?_
  dsimp only
  rw [hi']
  simp (disch:=omega) only [go_sem,Int.reduceToNat,qX]
 have hend:f (false,(l.length:Int),())=some (.ex 0 (false,(l.length:Int),())):=by subst hf;exact qB (by simp (disch:=omega) only [go_sem,Int.reduceToNat];omega)
 have hloop:=(qN (f:=f) (fun i=>(false,(i:Int),())) l.length step 0 (Nat.zero_le _)).trans (qV hend)
 refine (zC (show loop f (false,0,())=_ from hloop)).trans ?_
 exact qH g62
def fewP (p:xX) (most:Int):Prop:=(p.2.1.length:Int)≤most∧∀ e∈p.2.1,e.1.length≤100∧e.2.1.length≤2000
theorem qy4 (p:xX) (most:Int) (hm:most≤1000000):qjS (p,most,())=some (D (fewP p most),()):=by
 unfold qjS fewP
 dsimp only
 generalize p.2.1=l
 by_cases h0:(l.length:Int)≤most
 ·refine (qB (by simp (disch:=first | assumption | omega | (dsimp only;omega) | decide) only [go_sem,Int.reduceToNat];omega)).trans ?_
  generalize hf:(fun (x_1:Bool×Int×Unit)=>(_:Option (LS (Bool×Int×Unit) (Bool×Unit))))=f
  have hsame:∀ (i:Nat) (h:i < l.length),nth l (nat (i:Int)) (none' UInt8,none' UInt8,())=l[i]:=fun i h=>by rw [qP,qL h]
  have key:=qeC (f:=f) l (fun i=>(false,(i:Int),())) 0 ((false,()):Bool×Unit) (fun e=>e.1.length≤100∧e.2.1.length≤2000) (fun i h hp => ?_) (fun i h hp => ?_) ?_
  ·rcases key with ⟨h,hl⟩ | ⟨h,hl⟩
   ·refine (zC (show loop f (false,0,())=_ from hl)).trans ?_
    refine (qH g62).trans ?_
    rw [D_t ⟨h0,h⟩]
   ·refine (zC (show loop f (false,0,())=_ from hl)).trans ?_
    rw [D_f (fun hm=>h hm.2)];rfl
  ·subst hf
   have hi':i64 (iadd (i:Int) 1)=((i+1:Nat):Int):=i64n (by show (i:Int)+1=_;omega) (by omega)
   refine (qC (by simp (disch:=omega) only [go_sem,Int.reduceToNat];omega)).trans ?_
   dsimp only
   rw [hsame i h,hi']
   obtain ⟨p1,p2⟩:=hp
   simp (disch:=omega) only [go_sem,Int.reduceToNat]
  ·subst hf
   refine (qC (by simp (disch:=omega) only [go_sem,Int.reduceToNat];omega)).trans ?_
   dsimp only
   rw [hsame i h]
   by_cases h1:l[i].1.length≤100
   ·have h2:¬ l[i].2.1.length≤2000:=fun h2=>hp ⟨h1,h2⟩
    simp (disch:=omega) only [go_sem,Int.reduceToNat]
   ·simp (disch:=omega) only [go_sem,Int.reduceToNat]
  ·subst hf
   exact qB (by simp (disch:=omega) only [go_sem,Int.reduceToNat];omega)
 ·refine (qC (by simp (disch:=omega) only [go_sem,Int.reduceToNat];omega)).trans ?_
  rw [D_f (fun h=>h0 h.1)]
end Yp
namespace Yp
open Go
set_option maxRecDepth 100000
set_option maxHeartbeats 2000000
def big8 (n:Int):BB:=ps 256 byt n.toNat 8
theorem qdY (n:Int):(big8 n).length=8:=zP _ _ _ _
def recD (n:Int):BB:=big8 n++(qoC ([u8 121,u8 101,u8 116,u8 116]++big8 n)).take 8
theorem vB (n:Int):(recD n).length=16:=by unfold recD;rw [List.length_append,qdY,List.length_take,jW];rfl
def v9 (n:Int):Prop:=1≤n∧n≤4611686018427387904
theorem qSz {n:Int} (h:v9 n):((1:Int)≤8∧(8:Int)≤8∧0≤n∧n < 256 ^ (8:Int).toNat):=by
 obtain ⟨h1,h2⟩:=h
 refine ⟨by omega,by omega,by omega, ?_⟩
 show n < 256 ^ 8
 omega
theorem qiC (n:Int) (hn:n≤9223372036854775807):qcS (n,())=some (if 1≤n∧n≤4611686018427387904 then (recD n,0,()) else ([],1,())):=by
 unfold qcS
 dsimp only
 by_cases h:1≤n∧n≤4611686018427387904
 ·rw [if_pos h]
  refine (qF (a:=(false,())) ((qB (by simp only [go_sem,Int.reduceToNat];omega)).trans (by rw [show lt 4611686018427387904 n=false from lt_f (by omega)]))).trans ?_
  refine (qB rfl).trans ?_
  rw [qkR _ _ hn,if_pos (qSz h)]
  refine (qF rfl).trans ?_
  dsimp only
  rw [show ps 256 byt n.toNat (8:Int).toNat=big8 n from rfl]
  have:=qdY n
  refine (qH (by simp only [go_sem,Int.reduceToNat];simp;omega)).trans ?_
  rw [show app [u8 121,u8 101,u8 116,u8 116] (big8 n)=[u8 121,u8 101,u8 116,u8 116]++big8 n from rfl,qu4 _ (by simp;omega)]
  refine (qF rfl).trans ?_
  dsimp only
  have h2:=jW ([u8 121,u8 101,u8 116,u8 116]++big8 n)
  refine (qH (by simp only [go_sem,Int.reduceToNat];omega)).trans ?_
  rw [show cut (qoC ([u8 121,u8 101,u8 116,u8 116]++big8 n)) (nat 0) (nsub (nat 8) (nat 0))=(qoC ([u8 121,u8 101,u8 116,u8 116]++big8 n)).take 8 from rfl]
  refine (qH (by simp only [go_sem,Int.reduceToNat];simp;omega)).trans ?_
  rfl
 ·rw [if_neg h]
  by_cases h1:n < 1
  ·refine (qF (a:=(true,())) (qC (by simp only [go_sem,Int.reduceToNat];omega))).trans ?_
   rfl
  ·refine (qF (a:=(true,())) ((qB (by simp only [go_sem,Int.reduceToNat];omega)).trans (by rw [show lt 4611686018427387904 n=true from lt_t (by omega)]))).trans ?_
   rfl
theorem qaJ (n:Int) (hn:n≤9223372036854775807):yZ (n,())=some (if 1≤n∧n≤4611686018427387904 then (recD n,0,()) else ([],1,())):=by
 unfold yZ
 dsimp only
 by_cases h:1≤n∧n≤4611686018427387904
 ·rw [if_pos h]
  refine (qF (a:=(false,())) ((qB (by simp only [go_sem,Int.reduceToNat];omega)).trans (by rw [show lt 4611686018427387904 n=false from lt_f (by omega)]))).trans ?_
  refine (qB rfl).trans ?_
  rw [qm2 _ _ hn,if_pos (qSz h)]
  refine (qF rfl).trans ?_
  dsimp only
  rw [show ps 256 byt n.toNat (8:Int).toNat=big8 n from rfl]
  have:=qdY n
  refine (qH (by simp only [go_sem,Int.reduceToNat];simp;omega)).trans ?_
  rw [show app [u8 121,u8 101,u8 116,u8 116] (big8 n)=[u8 121,u8 101,u8 116,u8 116]++big8 n from rfl,qb6 _ (by simp;omega)]
  refine (qF rfl).trans ?_
  dsimp only
  have h2:=jW ([u8 121,u8 101,u8 116,u8 116]++big8 n)
  refine (qH (by simp only [go_sem,Int.reduceToNat];omega)).trans ?_
  refine (qH (by simp only [go_sem,Int.reduceToNat];omega)).trans ?_
  rw [show cut (qoC ([u8 121,u8 101,u8 116,u8 116]++big8 n)) (nat 0) (nsub (nat 8) (nat 0))=(qoC ([u8 121,u8 101,u8 116,u8 116]++big8 n)).take 8 from rfl,show app (none' UInt8) (big8 n)=big8 n from rfl]
  refine (qH (by simp only [go_sem,Int.reduceToNat];simp;omega)).trans ?_
  rfl
 ·rw [if_neg h]
  by_cases h1:n < 1
  ·refine (qF (a:=(true,())) (qC (by simp only [go_sem,Int.reduceToNat];omega))).trans ?_
   rfl
  ·refine (qF (a:=(true,())) ((qB (by simp only [go_sem,Int.reduceToNat];omega)).trans (by rw [show lt 4611686018427387904 n=true from lt_t (by omega)]))).trans ?_
   rfl
def vK (b:BB):Int×Bool×Unit :=
 if (xJ b 0 8).2.2.1=0∧(1≤(xJ b 0 8).1∧(xJ b 0 8).1≤4611686018427387904)∧recD (xJ b 0 8).1=b then ((xJ b 0 8).1,true,()) else (0,false,())
theorem qz8 (b:BB):(xJ b 0 8).1≤9223372036854775807:=by
 unfold xJ
 split
 ·decide
 split
 ·decide
 split
 ·decide
 ·rename_i h1 h2 h3
  have hl:0+8≤b.length:=by omega
  have:=qx6 hl (by omega) (fun h=>h3 ⟨rfl,by simpa using h.2⟩) 7 (by omega)
  have e:(tk b 0 8).take (7+1)=tk b 0 8:=List.take_of_length_le (by rw [vZ hl];omega)
  rw [e] at this
  show (((bev (tk b (0:Int).toNat (8:Int).toNat):Nat):Int))≤_
  rw [show (0:Int).toNat=0 from rfl,show (8:Int).toNat=8 from rfl]
  omega
theorem qmK (b:BB) (hb:b.length≤1000000):qi1 (b,())=some (vK b):=by
 unfold qi1 vK
 dsimp only
 rw [qt3 _ _ _ hb]
 have hle:=qz8 b
 generalize xJ b 0 8=t at hle
 obtain ⟨n,a,e,⟨⟩⟩:=t
 refine (qF rfl).trans ?_
 dsimp only at hle ⊢
 by_cases he:e=0
 ·refine (qB (by simp only [go_sem,Int.reduceToNat];omega)).trans ?_
  rw [qiC _ hle]
  refine (qF rfl).trans ?_
  by_cases hn:1≤n∧n≤4611686018427387904
  ·rw [if_pos hn]
   dsimp only
   refine (zZ (qB rfl)).trans ?_
   rw [qiP]
   by_cases hr:recD n=b
   ·rw [if_pos ⟨he,hn,hr⟩,D_t hr];rfl
   ·rw [if_neg (fun h=>hr h.2.2),D_f hr];rfl
  ·rw [if_neg hn,if_neg (fun h=>hn h.2.1)]
   rfl
 ·refine (qC (by simp only [go_sem,Int.reduceToNat];omega)).trans ?_
  rw [if_neg (fun h=>he h.1)]
theorem qc6 (b:BB) (hb:b.length≤1000000):qaK (b,())=some (vK b):=by
 unfold qaK vK
 dsimp only
 by_cases hl:b.length=16
 ·refine (qB (by simp only [go_sem,Int.reduceToNat];omega)).trans ?_
  rw [qd8 _ _ _ hb]
  have hle:=qz8 b
  generalize xJ b 0 8=t at hle
  obtain ⟨n,a,e,⟨⟩⟩:=t
  refine (qF rfl).trans ?_
  dsimp only at hle ⊢
  by_cases he:e=0
  ·refine (qB (by simp only [go_sem,Int.reduceToNat];omega)).trans ?_
   rw [qaJ _ hle]
   refine (qF rfl).trans ?_
   by_cases hn:1≤n∧n≤4611686018427387904
   ·rw [if_pos hn]
    dsimp only
    refine (zZ (qB rfl)).trans ?_
    rw [qX]
    by_cases hr:recD n=b
    ·rw [if_pos ⟨he,hn,hr⟩,qP0 hr];rfl
    ·rw [if_neg (fun h=>hr h.2.2),qP1 hr];rfl
   ·rw [if_neg hn,if_neg (fun h=>hn h.2.1)]
    rfl
  ·refine (qC (by simp only [go_sem,Int.reduceToNat];omega)).trans ?_
   rw [if_neg (fun h=>he h.1)]
 ·refine (qC (by simp only [go_sem,Int.reduceToNat];omega)).trans ?_
  rw [if_neg (fun h=>hl (by rw [← h.2.2,vB]))]
abbrev ST:=BB×BB×Unit
def zG (s:ST):Int×Int×Bool×Unit :=
 if (vK s.2.1).2.1=true∧((vK s.1).2.1=false∨(vK s.1).1 < (vK s.2.1).1) then ((vK s.2.1).1,1,true,()) else ((vK s.1).1,0,(vK s.1).2.1,())
theorem qmL (s:ST) (ha:s.1.length≤1000000) (hb:s.2.1.length≤1000000):qi2 (s,())=some (zG s):=by
 unfold qi2 zG qcR
 dsimp only
 rw [qmK _ ha,qmK _ hb]
 generalize vK s.1=a
 generalize vK s.2.1=b
 obtain ⟨n,i,⟨⟩⟩:=a
 obtain ⟨m,j,⟨⟩⟩:=b
 by_cases h:n < m
 ·cases i <;> cases j <;> (simp (disch:=omega) only [go_sem,Int.reduceToNat];try simp [h])
 ·cases i <;> cases j <;> (simp (disch:=omega) only [go_sem,Int.reduceToNat];try simp [h])
theorem qjQ (s:ST) (ha:s.1.length≤1000000) (hb:s.2.1.length≤1000000):xO (s,())=some (zG s):=by
 unfold xO zG
 dsimp only
 rw [qc6 _ ha,qc6 _ hb]
 generalize vK s.1=a
 generalize vK s.2.1=b
 obtain ⟨n,i,⟨⟩⟩:=a
 obtain ⟨m,j,⟨⟩⟩:=b
 by_cases h:n < m
 ·cases i <;> cases j <;> (simp (disch:=omega) only [go_sem,Int.reduceToNat];try simp [h])
 ·cases i <;> cases j <;> (simp (disch:=omega) only [go_sem,Int.reduceToNat];try simp [h])
end Yp
namespace Yp
open Go
set_option maxRecDepth 100000
set_option maxHeartbeats 2000000
theorem qFV (a b:BB) (ha:a.length≤1000000) (hb:b.length≤1000000):jB ([a,b],())=some (a++b,()):=by
 have:=qsE (c:=1) (z:=u8 0) (by omega) [a,b] (by simp) (fun x hx=>by
  rcases List.mem_cons.1 hx with rfl | hx
  ·exact ha
  ·rcases List.mem_cons.1 hx with rfl | hx
   ·exact hb
   ·cases hx)
 simp only [List.flatten_cons,List.flatten_nil,List.append_nil] at this
 exact this
theorem qNy {b:BB} (h:(vK b).2.1=true):(1≤(vK b).1∧(vK b).1≤4611686018427387904)∧recD (vK b).1=b:=by
 unfold vK at h ⊢
 split at h
 ·rename_i hc;rw [if_pos hc];exact hc.2
 ·cases h
theorem qn2 {s:ST} (h:(zG s).2.2.1=true):1≤(zG s).1∧(zG s).1≤4611686018427387904:=by
 unfold zG at h ⊢
 split
 ·rename_i hc;exact (qNy hc.1).1
 ·rename_i hc
  rw [if_neg hc] at h
  exact (qNy h).1
theorem qKC (s:ST):(zG s).2.1=0∨(zG s).2.1=1:=by
 unfold zG
 split
 ·exact .inr rfl
 ·exact .inl rfl
def qaS (cut:Int):Int:=if 0≤cut∧cut < 16 then cut else 16
def qpE (n:Int) (cut:Int) (old:BB):BB:=(recD (n+1)).take (qaS cut).toNat++old.drop (qaS cut).toNat
def xC (s:ST) (cut:Int):ST×Int×Int×Unit :=
 if (zG s).2.2.1=false then (s,0,12,())
 else if (zG s).1=4611686018427387904 then (s,0,10,())
 else
  let s':ST:=if (zG s).2.1=0 then (s.1,qpE (zG s).1 cut s.2.1,()) else (qpE (zG s).1 cut s.1,s.2.1,())
  if qaS cut < 16 then (s',0,11,()) else (s',(zG s).1,0,())
def jR (s:ST):Prop:=s.1.length=16∧s.2.1.length=16
theorem quF (c:Int):0≤qaS c∧qaS c≤16:=by unfold qaS;split <;> omega
theorem qyB (s:ST) (c:Int) (hs:jR s):qn8 (s,c,())=some (xC s c):=by
 obtain ⟨A,B,⟨⟩⟩:=s
 have hA:A.length=16:=hs.1
 have hB:B.length=16:=hs.2
 unfold qn8 xC
 dsimp only
 rw [qmL (A,B,()) (by show A.length≤1000000;omega) (by show B.length≤1000000;omega)]
 have h1:=qn2 (s:=(A,B,()))
 have h2:=qKC (A,B,())
 generalize zG (A,B,())=t at h1 h2
 obtain ⟨n,at',is,⟨⟩⟩:=t
 refine (qF rfl).trans ?_
 dsimp only at h1 h2 ⊢
 cases is
 ·rfl
 ·have h1:=h1 rfl
  refine (qB rfl).trans ?_
  rw [if_neg (by simp)]
  have e1:i64 (iadd n 1)=n+1:=zX (by show -9223372036854775808≤n+1;omega) (by show n+1≤9223372036854775807;omega)
  rw [e1,qiC _ (by omega)]
  refine (qF rfl).trans ?_
  by_cases hn:n=4611686018427387904
  ·rw [if_pos hn,if_neg (by omega)];rfl
  ·rw [if_neg hn,if_pos (by omega)]
   refine (qB rfl).trans ?_
   have hm:=quF c
   have hr:=vB (n+1)
   obtain ⟨m,hm'⟩:∃ m,m=qaS c:=⟨_,rfl⟩
   have ht:(sel (le 0 c) (some (lt c 16,())) (some (false,())):Option (Bool×Unit))=some (D (m < 16),()):=by
    rw [hm'];unfold qaS
    by_cases h0:0≤c
    ·by_cases h3:c < 16
     ·rw [if_pos ⟨h0,h3⟩];simp (disch:=omega) only [go_sem,Int.reduceToNat]
     ·rw [if_neg (fun h=>h3 h.2),D_f (show ¬ (16:Int) < 16 by omega)];simp (disch:=omega) only [go_sem,Int.reduceToNat];rw [D_f h3]
    ·rw [if_neg (fun h=>h0 h.1),D_f (by omega)];simp (disch:=omega) only [go_sem,Int.reduceToNat]
   rw [ht]
   refine (qF rfl).trans ?_
   dsimp only
   have ht2:(sel (bnot (D (m < 16))) (some (16,())) (some (c,())):Option (Int×Unit))=some (m,()):=by
    by_cases h:m < 16
    ·rw [D_t h]
     show some (c,())=_
     rw [hm'] at h ⊢
     unfold qaS at h ⊢
     split at h
     ·rename_i hc;rw [if_pos hc]
     ·omega
    ·rw [D_f h]
     show some ((16:Int),())=_
     rw [show m=16 by omega]
   rw [ht2]
   refine (qF rfl).trans ?_
   dsimp only
   have hL:∀ old:BB,old.length=16→jB ([cut (recD (n+1)) (nat 0) (nsub (nat m) (nat 0)),sub old m (len old)],())=some (qpE n c old,()):=by
    intro old ho
    have e2:cut (recD (n+1)) (nat 0) (nsub (nat m) (nat 0))=(recD (n+1)).take (qaS c).toNat:=by rw [hm'];rfl
    have e3:sub old m (len old)=old.drop (qaS c).toNat:=by
     unfold sub
     rw [hm',List.take_of_length_le]
     rw [List.length_drop]
     show _≤(old.length:Int).toNat - _
     omega
    rw [e2,e3,qFV _ _ (by rw [List.length_take];omega) (by rw [List.length_drop];omega)];rfl
   rcases h2 with rfl | rfl
   ·refine (qC rfl).trans ?_
    refine (qH (by simp only [go_sem,Int.reduceToNat];omega)).trans ?_
    refine (qH (by simp only [go_sem,Int.reduceToNat];omega)).trans ?_
    rw [hL B hB]
    refine (qF rfl).trans ?_
    rw [if_pos rfl,← hm']
    by_cases h:m < 16
    ·rw [D_t h,if_pos h];rfl
    ·rw [D_f h,if_neg h];rfl
   ·refine (qB rfl).trans ?_
    refine (qH (by simp only [go_sem,Int.reduceToNat];omega)).trans ?_
    refine (qH (by simp only [go_sem,Int.reduceToNat];omega)).trans ?_
    rw [hL A hA]
    refine (qF rfl).trans ?_
    rw [if_neg (show ¬ (1:Int)=0 by decide),← hm']
    by_cases h:m < 16
    ·rw [D_t h,if_pos h];rfl
    ·rw [D_f h,if_neg h];rfl
theorem qvT (s:ST) (c:Int) (hs:jR s):qlS (s,c,())=some (xC s c):=by
 obtain ⟨A,B,⟨⟩⟩:=s
 have hA:A.length=16:=hs.1
 have hB:B.length=16:=hs.2
 unfold qlS xC
 dsimp only
 rw [qjQ (A,B,()) (by show A.length≤1000000;omega) (by show B.length≤1000000;omega)]
 have h1:=qn2 (s:=(A,B,()))
 have h2:=qKC (A,B,())
 generalize zG (A,B,())=t at h1 h2
 obtain ⟨n,at',is,⟨⟩⟩:=t
 refine (qF rfl).trans ?_
 dsimp only at h1 h2 ⊢
 cases is
 ·rfl
 ·have h1:=h1 rfl
  refine (qB rfl).trans ?_
  rw [if_neg (by simp)]
  have e1:i64 (iadd n 1)=n+1:=zX (by show -9223372036854775808≤n+1;omega) (by show n+1≤9223372036854775807;omega)
  by_cases hn:n=4611686018427387904
  ·rw [if_pos hn]
   exact qC (by simp only [go_sem,Int.reduceToNat];omega)
  ·rw [if_neg hn]
   refine (qB (by simp only [go_sem,Int.reduceToNat];omega)).trans ?_
   rw [e1,qaJ _ (by omega),if_pos (by omega)]
   refine (qF rfl).trans ?_
   have hm:=quF c
   have hr:=vB (n+1)
   obtain ⟨m,hm'⟩:∃ m,m=qaS c:=⟨_,rfl⟩
   have ht:(sel (le 0 c) (some (lt c 16,())) (some (false,())):Option (Bool×Unit))=some (D (m < 16),()):=by
    rw [hm'];unfold qaS
    by_cases h0:0≤c
    ·by_cases h3:c < 16
     ·rw [if_pos ⟨h0,h3⟩];simp (disch:=omega) only [go_sem,Int.reduceToNat]
     ·rw [if_neg (fun h=>h3 h.2),D_f (show ¬ (16:Int) < 16 by omega)];simp (disch:=omega) only [go_sem,Int.reduceToNat];rw [D_f h3]
    ·rw [if_neg (fun h=>h0 h.1),D_f (by omega)];simp (disch:=omega) only [go_sem,Int.reduceToNat]
   rw [ht]
   refine (qF rfl).trans ?_
   dsimp only
   have ht2:(sel (D (m < 16)) (some (c,())) (some (16,())):Option (Int×Unit))=some (m,()):=by
    by_cases h:m < 16
    ·rw [D_t h]
     show some (c,())=_
     rw [hm'] at h ⊢
     unfold qaS at h ⊢
     split at h
     ·rename_i hc;rw [if_pos hc]
     ·omega
    ·rw [D_f h]
     show some ((16:Int),())=_
     rw [show m=16 by omega]
   rw [ht2]
   refine (qF rfl).trans ?_
   dsimp only
   rw [← hm']
   have e2:cut (recD (n+1)) (nat 0) (nsub (nat m) (nat 0))=(recD (n+1)).take (qaS c).toNat:=by rw [hm'];rfl
   have e3:∀ old:BB,old.length=16→sub old m (len old)=old.drop (qaS c).toNat:=by
    intro old ho
    unfold sub
    rw [hm',List.take_of_length_le]
    rw [List.length_drop]
    show _≤(old.length:Int).toNat - _
    omega
   rcases h2 with rfl | rfl
   ·refine (qF (a:=(B,())) (qB rfl)).trans ?_
    dsimp only
    rw [e2,e3 B hB]
    refine (qH (by simp only [go_sem,Int.reduceToNat];omega)).trans ?_
    refine (qH (by simp only [go_sem,Int.reduceToNat];simp;omega)).trans ?_
    refine (qH (by simp only [go_sem,Int.reduceToNat];omega)).trans ?_
    refine (qH (by simp only [go_sem,Int.reduceToNat];simp;omega)).trans ?_
    refine (qB rfl).trans ?_
    rw [if_pos rfl]
    by_cases h:m < 16
    ·rw [if_pos h];exact qC (by simp only [go_sem,Int.reduceToNat];omega)
    ·rw [if_neg h];exact qB (by simp only [go_sem,Int.reduceToNat];omega)
   ·refine (qF (a:=(A,())) (qC rfl)).trans ?_
    dsimp only
    rw [e2,e3 A hA]
    refine (qH (by simp only [go_sem,Int.reduceToNat];omega)).trans ?_
    refine (qH (by simp only [go_sem,Int.reduceToNat];simp;omega)).trans ?_
    refine (qH (by simp only [go_sem,Int.reduceToNat];omega)).trans ?_
    refine (qH (by simp only [go_sem,Int.reduceToNat];simp;omega)).trans ?_
    refine (qC rfl).trans ?_
    rw [if_neg (show ¬ (1:Int)=0 by decide)]
    by_cases h:m < 16
    ·rw [if_pos h];exact qC (by simp only [go_sem,Int.reduceToNat];omega)
    ·rw [if_neg h];exact qB (by simp only [go_sem,Int.reduceToNat];omega)
def newS:ST:=(recD 1,List.replicate 16 (u8 0),())
theorem qyZ:qoV ()=some (newS,()):=by
 unfold qoV
 rw [qaJ _ (by decide),if_pos (by decide)]
 rfl
theorem qR (s:ST):yL (s,())=some (D (jR s),()):=by
 unfold yL jR
 by_cases h:s.1.length=16
 ·simp only [go_sem,Int.reduceToNat,h];exact zW (by omega)
 ·rw [D_f (fun h'=>h h'.1)];simp (disch:=omega) only [go_sem,Int.reduceToNat];try omega
theorem qvU (s:ST):qlT (s,s,())=some (true,()):=by
 unfold qlT
 simp only [go_sem,Int.reduceToNat,qX]
theorem qy0 (s:ST):qoW (s,())=some (D (s.1.length≤100∧s.2.1.length≤100),()):=by
 unfold qoW
 by_cases h:s.1.length≤100
 ·simp only [go_sem,Int.reduceToNat];exact zW (by omega)
 ·rw [D_f (fun h'=>h h'.1)];simp (disch:=omega) only [go_sem,Int.reduceToNat];try omega
end Yp
namespace Yp
open Go
set_option maxRecDepth 100000
set_option maxHeartbeats 2000000
def jC (p:Int):Prop:=2≤p∧p≤6
def qpJ (p:Int):Prop:=p=3∨p=4∨p=5
instance (p:Int):Decidable (jC p):=by unfold jC;infer_instance
instance (p:Int):Decidable (qpJ p):=by unfold qpJ;infer_instance
def qIr (p:Int):Int:=if p=0 then 0 else if p=1 then 1 else if p=2 then 2 else if p=3 then 3 else if p=4 then 4 else if p=5 then 4 else if p=6 then 5 else -1
theorem qdH (p:Int):qaR (p,())=some (qIr p,()):=by
 unfold qaR qIr
 by_cases h0:p=0
 ·subst h0;rfl
 by_cases h1:p=1
 ·subst h1;rfl
 by_cases h2:p=2
 ·subst h2;rfl
 by_cases h3:p=3
 ·subst h3;rfl
 by_cases h4:p=4
 ·subst h4;rfl
 by_cases h5:p=5
 ·subst h5;rfl
 by_cases h6:p=6
 ·subst h6;rfl
 rw [if_neg h0,if_neg h1,if_neg h2,if_neg h3,if_neg h4,if_neg h5,if_neg h6]
 simp (disch:=omega) only [go_sem,Int.reduceToNat]
theorem qQI (p:Int):2≤qIr p↔jC p:=by
 unfold qIr jC
 repeat' split
 all_goals omega
theorem qOJ (p:Int):qIr p=3∨qIr p=4↔qpJ p:=by
 unfold qIr qpJ
 repeat' split
 all_goals omega
theorem kH (p:Int):y3 (p,())=some (D (jC p),()):=by
 unfold y3
 rw [qdH]
 simp only [go_sem,Int.reduceToNat,qQI]
theorem qwC (p:Int):ql7 (p,())=some (D (qpJ p),()):=by
 unfold ql7
 rw [qdH]
 simp only [go_sem,Int.reduceToNat,qdH,qOJ]
theorem kF (p:Int):x7 (p,())=some (D (jC p),()):=by
 unfold x7 jC
 simp only [go_sem,Int.reduceToNat]
theorem qc5 (p:Int):qfU (p,())=some (D (qpJ p),()):=by
 unfold qfU qpJ
 simp only [go_sem,Int.reduceToNat]
 exact zW or_assoc
def qzJ (c s:Int) (b:BB):Prop:=y5 c∧1≤s∧s≤999999∧1≤b.length∧b.length≤900
instance (c s:Int) (b:BB):Decidable (qzJ c s b):=by unfold qzJ;infer_instance
theorem qz2 (c:Int):qqB (c,())=some (D (y5 c),()):=by
 unfold qqB y5
 by_cases h1:c=1
 ·subst h1;simp only [go_sem,Int.reduceToNat]
 by_cases h2:c=2
 ·subst h2;simp (disch:=omega) only [go_sem,Int.reduceToNat]
 by_cases h3:c=101
 ·subst h3;simp (disch:=omega) only [go_sem,Int.reduceToNat]
 by_cases h4:c=201
 ·subst h4;simp (disch:=omega) only [go_sem,Int.reduceToNat]
 simp only [go_sem,Int.reduceToNat,h1,h2,h3,h4]
theorem qC8 (c s:Int) (b:BB):quN (c,s,b,())=some (D (qzJ c s b),()):=by
 unfold quN qzJ
 rw [qz2]
 by_cases hk:y5 c
 ·simp only [go_sem,Int.reduceToNat,hk];exact zW (by omega)
 ·rw [D_f (p:=_∧_) (fun h=>hk h.1)];simp only [go_sem,Int.reduceToNat,hk]
theorem qjO (c s:Int) (b:BB):qfS (c,s,b,())=some (D (qzJ c s b),()):=by
 unfold qfS qzJ
 rw [qiG]
 by_cases hk:y5 c
 ·simp only [go_sem,Int.reduceToNat,hk];exact zW (by omega)
 ·rw [D_f (p:=_∧_) (fun h=>hk h.1)];simp only [go_sem,Int.reduceToNat,hk]
def noA:TAsk:=(0,0,0,0,[],())
def qnE (c s:Int) (b:BB):TAsk×Int×Unit:=if qzJ c s b then ((c,s,8,3,b,()),0,()) else (noA,1,())
theorem qz3 (c s:Int) (b:BB):qqC (c,s,b,())=some (qnE c s b):=by
 unfold qqC qnE
 rw [qC8]
 by_cases h:qzJ c s b
 ·rw [D_t h,if_pos h];rfl
 ·rw [D_f h,if_neg h];rfl
theorem qtL (c s:Int) (b:BB):qgY (c,s,b,())=some (qnE c s b):=by
 unfold qgY qnE
 rw [qjO]
 by_cases h:qzJ c s b
 ·rw [D_t h,if_pos h];rfl
 ·rw [D_f h,if_neg h];rfl
theorem qjP (a:TAsk):qfT (a,())=some (D (a=noA),()):=by
 obtain ⟨c,s,d,l,b,⟨⟩⟩:=a
 unfold qfT noA
 simp only [go_sem,Int.reduceToNat]
 refine zW ?_
 simp only [Prod.mk.injEq,and_true]
 have hb:(b.length:Int)=0↔b=[]:=by rw [← List.length_eq_zero_iff];omega
 rw [hb]
 constructor
 ·rintro ⟨⟨⟨⟨h1,h2⟩,h3⟩,h4⟩,h5⟩;exact ⟨h1,h2,h3,h4,h5⟩
 ·rintro ⟨h1,h2,h3,h4,h5⟩;exact ⟨⟨⟨⟨h1,h2⟩,h3⟩,h4⟩,h5⟩
theorem qC7 (a:TAsk):quM (a,())=some (D (a=noA),()):=by
 obtain ⟨c,s,d,l,b,⟨⟩⟩:=a
 unfold quM qDa noA
 simp only [go_sem,Int.reduceToNat,qiP]
 refine zW ?_
 simp only [Prod.mk.injEq,and_true]
 constructor
 ·rintro ⟨⟨⟨⟨h1,h2⟩,h3⟩,h4⟩,h5⟩;exact ⟨h1,h2,h3,h4,h5⟩
 ·rintro ⟨h1,h2,h3,h4,h5⟩;exact ⟨⟨⟨⟨h1,h2⟩,h3⟩,h4⟩,h5⟩
def qm5 (a:TAsk) (c s:Int):Prop:=¬ a=noA∧a.1=c∧a.2.1=s
theorem qnF (a:TAsk) (c s:Int):qdZ (a,c,s,())=some (D (qm5 a c s),()):=by
 unfold qdZ qm5
 rw [qC7]
 simp only [go_sem,Int.reduceToNat]
theorem qtK (a:TAsk) (c s:Int):qgX (a,c,s,())=some (D (qm5 a c s),()):=by
 unfold qgX qm5
 rw [qjP]
 simp only [go_sem,Int.reduceToNat]
def qMq (a:TAsk):Prop:=a=noA∨qzJ a.1 a.2.1 a.2.2.2.2.1∧1≤a.2.2.1∧a.2.2.1≤8∧0≤a.2.2.2.1∧a.2.2.2.1≤3
theorem qtJ (a:TAsk):qgW (a,())=some (D (qMq a),()):=by
 unfold qgW qMq
 rw [qjP]
 simp only [go_sem,Int.reduceToNat,qjO]
 refine zW ?_
 simp only [and_assoc]
theorem qvS (a:TAsk):qlR (a,a,())=some (true,()):=by
 unfold qlR
 simp only [go_sem,Int.reduceToNat,qX]
def yJ (n:Int):Int:=if n < 0∨999999≤n then 1 else n+1
theorem qC9 (n:Int):quO (n,())=some (yJ n,()):=by
 unfold quO yJ
 by_cases h:n < 0∨999999≤n
 ·rw [if_pos h];simp (disch:=omega) only [go_sem,Int.reduceToNat]
 ·rw [if_neg h];simp (disch:=omega) only [go_sem,Int.reduceToNat]
theorem qvR (n:Int):qlQ (n,())=some (yJ n,()):=by
 unfold qlQ yJ
 by_cases h:n < 0∨999999≤n
 ·rw [if_pos h];simp (disch:=omega) only [go_sem,Int.reduceToNat]
 ·rw [if_neg h];simp (disch:=omega) only [go_sem,Int.reduceToNat]
def qRO (u:List Bool) (n:Nat):Option Nat:=((List.range 4).map fun i=>(n+i) % 4).find? fun c=>u.getD c false
def kX (h:THub):THub×Int×Int×Unit:=match qRO h.1 h.2.2.2.1.toNat with | none=>(h,0,11,()) | some c=>((h.1,h.2.1,h.2.2.1,(((c+1) % 4:Nat):Int),()),(c:Int),0,())
theorem four {α:Type} {w:List α} (h:w.length=4):∃ a b c d,w=[a,b,c,d]:=by
 match w,h with
 | [a,b,c,d],_=>exact ⟨a,b,c,d,rfl⟩
theorem qCe (h:THub) (hu:h.1.length=4) (hn:0≤h.2.2.2.1∧h.2.2.2.1 < 4):quK (h,())=some (kX h):=by
 obtain ⟨u,f,l,n,⟨⟩⟩:=h
 dsimp only at hu hn
 obtain ⟨a,b,c,d,rfl⟩:=four hu
 have:n=0∨n=1∨n=2∨n=3:=by omega
 unfold quK
 rcases this with rfl | rfl | rfl | rfl <;> cases a <;> cases b <;> cases c <;> cases d <;> (refine (zC (qhH 5 rfl)).trans ?_;kernel_rfl)
theorem qvY (h:THub) (hu:h.1.length=4) (hn:0≤h.2.2.2.1∧h.2.2.2.1 < 4):qlW (h,())=some (kX h):=by
 obtain ⟨u,f,l,n,⟨⟩⟩:=h
 dsimp only at hu hn
 obtain ⟨a,b,c,d,rfl⟩:=four hu
 have:n=0∨n=1∨n=2∨n=3:=by omega
 unfold qlW qvZ
 rcases this with rfl | rfl | rfl | rfl <;> cases a <;> cases b <;> cases c <;> cases d <;> first | (refine (qF (a:=(false,())) rfl).trans ?_;refine (qC rfl).trans ?_;kernel_rfl) | (refine (qF (a:=(true,())) rfl).trans ?_;refine (qB rfl).trans ?_;refine (zC (qhH 5 rfl)).trans ?_;kernel_rfl)
theorem qw0 (b:BB) (h:1≤b.length∧b.length≤1024):qmD (b,())=some (kY b,0,()):=by
 unfold qmD
 refine (qF (a:=(false,())) ((qB (by simp only [go_sem,Int.reduceToNat];omega)).trans (by rw [show lt 1024 (len b)=false from lt_f (by simp only [go_sem,Int.reduceToNat];omega)]))).trans ?_
 refine (qB rfl).trans ?_
 refine (qH (by simp only [go_sem,Int.reduceToNat];simp;omega)).trans ?_
 rfl
theorem qv0 (b:BB) (h:1≤b.length∧b.length≤1024):qlX (b,())=some (kY b,0,()):=by
 unfold qlX
 refine (qF (a:=(false,())) ((qB (by simp only [go_sem,Int.reduceToNat];omega)).trans (by rw [show lt 1024 (len b)=false from lt_f (by simp only [go_sem,Int.reduceToNat];omega)]))).trans ?_
 refine (qB rfl).trans ?_
 refine (qH (by simp only [go_sem,Int.reduceToNat];simp;omega)).trans ?_
 have q1:u8 (i64 (idiv (len b) 256))=u8 (shrI .i64 (len b) (n64 (u64 8))):=by
  have a1:idiv (len b) 256=((b.length / 256:Nat):Int):=by rw [g31 (by simp only [go_sem,Int.reduceToNat];omega)];simp only [go_sem,Int.reduceToNat];omega
  have a2:shrI .i64 (len b) (n64 (u64 8))=((b.length / 256:Nat):Int):=by show Int.fdiv (b.length:Int) (2 ^ 8)=_;rw [Int.fdiv_eq_ediv_of_nonneg _ (by decide)];omega
  rw [a1,a2,i64n rfl (by omega)]
 have q2:u8 (imod (len b) 256)=u8 (len b):=by
  rw [g32 (by simp only [go_sem,Int.reduceToNat];omega)];exact qDn (by simp only [go_sem,Int.reduceToNat];omega)
 dsimp only
 rw [q1,q2];rfl
end Yp
namespace Yp
open Go
set_option maxRecDepth 100000
set_option maxHeartbeats 2000000
abbrev GT:=Int×BB×Unit
def noG:GT:=(0,[],())
def noR:qiA:=(noG,noG,noG,0,0,())
theorem qSP (g:GT):(g.1=0∧(g.2.1.length:Int)=0)↔g=noG:=by
 obtain ⟨n,k,⟨⟩⟩:=g
 unfold noG
 have hb:(k.length:Int)=0↔k=[]:=by rw [← List.length_eq_zero_iff];omega
 simp only [Prod.mk.injEq,and_true,hb]
theorem qc9 (g:GT):y2 (g,())=some (D (g=noG),()):=by
 unfold y2
 simp only [go_sem,Int.reduceToNat]
 exact zW (qSP g)
def qf0 (g:GT):Prop:=1≤g.1∧g.1≤2147483647∧g.2.1.length=32
instance (g:GT):Decidable (qf0 g):=by unfold qf0;infer_instance
theorem qc8 (g:GT):qcI (g,())=some (D (qf0 g),()):=by
 unfold qcI qf0
 simp only [go_sem,Int.reduceToNat]
 exact zW (by omega)
theorem qSO (r:qiA):(r.1=noG∧r.2.1=noG∧r.2.2.1=noG∧r.2.2.2.1=0∧r.2.2.2.2.1=0)↔r=noR:=by
 obtain ⟨a,b,c,l,t,⟨⟩⟩:=r
 unfold noR
 simp only [Prod.mk.injEq,and_true]
theorem qbS (r:qiA):yN (r,())=some (D (r=noR),()):=by
 unfold yN
 simp only [go_sem,Int.reduceToNat,qc9]
 refine zW (Iff.trans ?_ (qSO r))
 simp only [and_assoc]
def qRq (r:qiA):qiA:=(r.1,r.2.1,noG,r.2.2.2)
def newR (k:BB):qiA×Int×Unit:=if k.length=32 then (((1,k,()),noG,noG,0,1,()),0,()) else (noR,1,())
theorem qBR (k:BB):qt8 (k,())=some (newR k):=by
 unfold qt8 newR
 by_cases h:k.length=32
 ·rw [if_pos h];simp (disch:=omega) only [go_sem,Int.reduceToNat];rfl
 ·rw [if_neg h];simp (disch:=omega) only [go_sem,Int.reduceToNat];rfl
def qoQ (r:qiA):Prop:=r=noR∨(qf0 r.1∧r.2.2.2.2.1≤2147483647∧r.1.1≤r.2.2.2.2.1∧r.2.2.1.1≤r.2.2.2.2.1 ∧
 (r.2.1=noG∧r.2.2.2.1=0∨¬ r.2.1=noG∧qf0 r.2.1∧r.2.1.1 < r.1.1∧1≤r.2.2.2.1∧r.2.2.2.1≤16)∧(r.2.2.1=noG∨qf0 r.2.2.1∧r.1.1 < r.2.2.1.1))
theorem qtN (r:qiA):qg0 (r,())=some (D (qoQ r),()):=by
 unfold qg0 qoQ
 dsimp only
 rw [qbS]
 refine (qF rfl).trans ?_
 by_cases h0:r=noR
 ·rw [D_t h0,D_t (.inl h0)];rfl
 ·rw [D_f h0]
  refine (qB rfl).trans ?_
  rw [qc8]
  refine (qF rfl).trans ?_
  by_cases h1:qf0 r.1∧r.2.2.2.2.1≤2147483647∧r.1.1≤r.2.2.2.2.1∧r.2.2.1.1≤r.2.2.2.2.1
  ·obtain ⟨a1,a2,a3,a4⟩:=h1
   refine (qF (a:=(false,())) (by simp (disch:=first | assumption | omega | (dsimp only;omega) | decide) only [go_sem,Int.reduceToNat,a1];try exact qiZ (by omega))).trans ?_
   refine (qB rfl).trans ?_
   rw [qc9,qc8,qc9,qc8]
   refine (qF rfl).trans ?_
   refine (qF rfl).trans ?_
   refine (qF rfl).trans ?_
   refine (qF rfl).trans ?_
   dsimp only
   by_cases h2:r.2.1=noG
   ·by_cases h3:r.2.2.2.1=0
    ·simp (disch:=first | assumption | omega | (dsimp only;omega) | decide) only [go_sem,Int.reduceToNat,h2,h3,a1,a2,a3,a4,h0]
    ·have:¬ (r=noR∨(qf0 r.1∧r.2.2.2.2.1≤2147483647∧r.1.1≤r.2.2.2.2.1∧r.2.2.1.1≤r.2.2.2.2.1∧(r.2.1=noG∧r.2.2.2.1=0∨¬ r.2.1=noG∧qf0 r.2.1∧r.2.1.1 < r.1.1∧1≤r.2.2.2.1∧r.2.2.2.1≤16)∧(r.2.2.1=noG∨qf0 r.2.2.1∧r.1.1 < r.2.2.1.1))):=by
      rintro (h | ⟨_,_,_,_,h | h,_⟩)
      ·exact h0 h
      ·exact h3 h.2
      ·exact h.1 h2
     rw [D_f this]
     simp (disch:=first | assumption | omega | (dsimp only;omega) | decide) only [go_sem,Int.reduceToNat,h2,h3]
   ·by_cases h3:qf0 r.2.1∧r.2.1.1 < r.1.1∧1≤r.2.2.2.1∧r.2.2.2.1≤16
    ·obtain ⟨b1,b2,b3,b4⟩:=h3
     simp (disch:=omega) only [go_sem,Int.reduceToNat,h2,b1,b2,b3,b4,a1,a2,a3,a4,h0]
    ·have:¬ (r=noR∨(qf0 r.1∧r.2.2.2.2.1≤2147483647∧r.1.1≤r.2.2.2.2.1∧r.2.2.1.1≤r.2.2.2.2.1∧(r.2.1=noG∧r.2.2.2.1=0∨¬ r.2.1=noG∧qf0 r.2.1∧r.2.1.1 < r.1.1∧1≤r.2.2.2.1∧r.2.2.2.1≤16)∧(r.2.2.1=noG∨qf0 r.2.2.1∧r.1.1 < r.2.2.1.1))):=by
      rintro (h | ⟨_,_,_,_,h | h,_⟩)
      ·exact h0 h
      ·exact h2 h.1
      ·exact h3 h.2
     rw [D_f this]
     by_cases c1:qf0 r.2.1
     ·have c2:¬ (r.2.1.1 < r.1.1∧1≤r.2.2.2.1∧r.2.2.2.1≤16):=fun h=>h3 ⟨c1,h⟩
      refine (qF (a:=(true,())) (by simp (disch:=omega) only [go_sem,Int.reduceToNat,h2,c1];try exact qi0 (by omega))).trans ?_
      rfl
     ·simp (disch:=omega) only [go_sem,Int.reduceToNat,h2,c1]
  ·have:¬ (r=noR∨(qf0 r.1∧r.2.2.2.2.1≤2147483647∧r.1.1≤r.2.2.2.2.1∧r.2.2.1.1≤r.2.2.2.2.1∧(r.2.1=noG∧r.2.2.2.1=0∨¬ r.2.1=noG∧qf0 r.2.1∧r.2.1.1 < r.1.1∧1≤r.2.2.2.1∧r.2.2.2.1≤16)∧(r.2.2.1=noG∨qf0 r.2.2.1∧r.1.1 < r.2.2.1.1))):=by
    rintro (h | ⟨b1,b2,b3,b4,_⟩)
    ·exact h0 h
    ·exact h1 ⟨b1,b2,b3,b4⟩
   rw [D_f this]
   by_cases c1:qf0 r.1
   ·have c2:¬ (r.2.2.2.2.1≤2147483647∧r.1.1≤r.2.2.2.2.1∧r.2.2.1.1≤r.2.2.2.2.1):=fun h=>h1 ⟨c1,h⟩
    refine (qF (a:=(true,())) (by simp (disch:=omega) only [go_sem,Int.reduceToNat,c1];try exact qi0 (by omega))).trans ?_
    rfl
   ·simp (disch:=omega) only [go_sem,Int.reduceToNat,c1]
theorem wJ (r:qiA):vU (r,r,())=some (true,()):=by
 unfold vU wI
 simp only [go_sem,Int.reduceToNat,qX]
def fewR (r:qiA):Prop:=r.1.2.1.length≤100∧r.2.1.2.1.length≤100∧r.2.2.1.2.1.length≤100
theorem qy1 (r:qiA):qoX (r,())=some (D (fewR r),()):=by
 unfold qoX fewR
 simp only [go_sem,Int.reduceToNat]
 exact zW (by omega)
end Yp
namespace Yp
open Go
set_option maxRecDepth 100000
set_option maxHeartbeats 2000000
def zN (n:Int):Prop:=0≤n∧n≤4611686018427387904
instance (n:Int):Decidable (zN n):=by unfold zN;infer_instance
def e0 (v:TEnv):Int:=nth v.2.2.1 0 0
def e1 (v:TEnv):Int:=nth v.2.2.1 1 0
def qeA (v:TEnv):Prop:=(v.1=1∨v.1=2)∧zN (e0 v)∧zN (e1 v)∧zN v.2.2.2.2.1∧(v.2.1=0∨v.2.1=1)∧(0≤v.2.2.2.1∧v.2.2.2.1≤2147483647)∧1≤v.2.2.2.2.2.1.length∧v.2.2.2.2.2.1.length≤900
theorem qdT (n hi:Int):qcN (n,hi,())=some (D (0≤n∧n≤hi),()):=by
 unfold qcN
 simp only [go_sem,Int.reduceToNat]
theorem qaL (n:Int):y0 (n,())=some (D (zN n),()):=by
 unfold y0 zN
 simp only [go_sem,Int.reduceToNat]
theorem qnA (v:TEnv):qkP (v,())=some (D (qeA v),()):=by
 obtain ⟨k,d,e,g,s,b,t,⟨⟩⟩:=v
 unfold qkP qeA e0 e1
 dsimp only
 by_cases hk:k=1∨k=2
 ·refine (qF (a:=(false,())) (by rcases hk with rfl | rfl <;> rfl)).trans ?_
  refine (qB rfl).trans ((qH rfl).trans ((qH rfl).trans ?_))
  rw [show nat 0=0 from rfl,show nat 1=1 from rfl]
  generalize nth e 0 0=x
  generalize nth e 1 0=y
  generalize hf:(fun (x_1:Bool×Int×Unit)=>(_:Option (LS (Bool×Int×Unit) (Bool×Unit))))=f
  have key:=qeC (f:=f) [x,y,s] (fun i=>(false,(i:Int),())) 0 ((false,()):Bool×Unit) zN (fun i h hp => ?_) (fun i h hp => ?_) ?_
  ·rcases key with ⟨h,hl⟩ | ⟨h,hl⟩
   ·refine (zC (show loop f (false,0,())=_ from hl)).trans ?_
    refine (qH g62).trans ?_
    have h1:=h x (by simp)
    have h2:=h y (by simp)
    have h3:=h s (by simp)
    simp only [go_sem,Int.reduceToNat,qdT]
    refine zW ?_
    simp only [hk,h1,h2,h3,true_and]
    omega
   ·refine (zC (show loop f (false,0,())=_ from hl)).trans ?_
    rw [D_f (fun hc=>h fun z hz => ?_)]
    ·rfl
    ·simp only [List.mem_cons,List.not_mem_nil,or_false] at hz
     rcases hz with rfl | rfl | rfl
     ·exact hc.2.1
     ·exact hc.2.2.1
     ·exact hc.2.2.2.1
  ·subst hf
   have h3:i < 3:=h
   have hi':i64 (iadd (i:Int) 1)=((i+1:Nat):Int):=i64n (by show (i:Int)+1=_;omega) (by omega)
   refine (qC (by simp only [go_sem,Int.reduceToNat];omega)).trans ?_
   refine (qH (by simp only [go_sem,Int.reduceToNat];omega)).trans ?_
   dsimp only
   rw [hi',qP,qL h,qdT,D_t (show 0≤[x,y,s][i]∧[x,y,s][i]≤4611686018427387904 from hp)];rfl
  ·subst hf
   have h3:i < 3:=h
   refine (qC (by simp only [go_sem,Int.reduceToNat];omega)).trans ?_
   refine (qH (by simp only [go_sem,Int.reduceToNat];omega)).trans ?_
   dsimp only
   rw [qP,qL h,qdT,D_f (show ¬ (0≤[x,y,s][i]∧[x,y,s][i]≤4611686018427387904) from hp)];rfl
  ·subst hf
   exact qB rfl
 ·rw [D_f (fun h=>hk h.1)]
  simp only [not_or] at hk
  obtain ⟨h1,h2⟩:=hk
  refine (qF (a:=(true,())) (by simp only [go_sem,Int.reduceToNat,h1,h2])).trans ?_
  rfl
theorem qiH (v:TEnv):qc7 (v,())=some (D (qeA v),()):=by
 obtain ⟨k,d,e,g,s,b,t,⟨⟩⟩:=v
 unfold qc7 qeA e0 e1
 dsimp only
 refine (qH rfl).trans ?_
 rw [qaL]
 refine (qF rfl).trans ?_
 refine (qH rfl).trans ?_
 rw [qaL]
 refine (qF rfl).trans ?_
 rw [qaL]
 refine (qF rfl).trans ?_
 dsimp only
 rw [show nat 0=0 from rfl,show nat 1=1 from rfl]
 by_cases h1:zN (nth e 0 0)∧zN (nth e 1 0)∧zN s
 ·obtain ⟨a1,a2,a3⟩:=h1
  rw [D_t a1,D_t a2,D_t a3]
  by_cases hk:k=1
  ·subst hk
   by_cases hd:d=0
   ·subst hd
    simp only [go_sem,Int.reduceToNat];refine zW ?_;simp only [a1,a2,a3,true_and];omega
   ·by_cases hd':d=1
    ·subst hd'
     simp only [go_sem,Int.reduceToNat];refine zW ?_;simp only [a1,a2,a3,true_and];omega
    ·rw [D_f (p:=_∧_) (fun h=>by have:=h.2.2.2.2.1;omega)];simp (disch:=omega) only [go_sem,Int.reduceToNat]
  ·by_cases hk':k=2
   ·subst hk'
    by_cases hd:d=0
    ·subst hd
     simp only [go_sem,Int.reduceToNat];refine zW ?_;simp only [a1,a2,a3,true_and];omega
    ·by_cases hd':d=1
     ·subst hd'
      simp only [go_sem,Int.reduceToNat];refine zW ?_;simp only [a1,a2,a3,true_and];omega
     ·rw [D_f (p:=_∧_) (fun h=>by have:=h.2.2.2.2.1;omega)];simp (disch:=omega) only [go_sem,Int.reduceToNat]
   ·rw [D_f (p:=_∧_) (fun h=>by have:=h.1;omega)];simp (disch:=omega) only [go_sem,Int.reduceToNat]
 ·rw [D_f (p:=(k=1∨k=2)∧_) (fun h=>h1 ⟨h.2.1,h.2.2.1,h.2.2.2.1⟩)]
  by_cases c1:zN (nth e 0 0)
  ·by_cases c2:zN (nth e 1 0)
   ·have c3:¬ zN s:=fun h=>h1 ⟨c1,c2,h⟩
    rw [D_t c1,D_t c2,D_f c3];rfl
   ·rw [D_t c1,D_f c2];rfl
  ·rw [D_f c1];rfl
def bigN (w:Nat) (n:Int):BB:=ps 256 byt n.toNat w
theorem qW (w:Nat) (n:Int):(bigN w n).length=w:=zP _ _ _ _
def qT (v:TEnv):BB:=bigN 1 v.1++bigN 1 v.2.1++bigN 8 (e0 v)++bigN 8 (e1 v)++bigN 4 v.2.2.2.1++bigN 8 v.2.2.2.2.1++v.2.2.2.2.2.1
theorem j6 (v:TEnv):(qT v).length=30+v.2.2.2.2.2.1.length:=by unfold qT;simp only [List.length_append,qW]
theorem qO7 {n:Int} {w:Nat} (h1:1≤w) (h8:w≤8) (h0:0≤n) (h:n < 256 ^ w) (hn:n≤9223372036854775807):wV (n,(w:Int),())=some (bigN w n,0,()):=by
 rw [qkR _ _ hn,if_pos ⟨by omega,by omega,h0,by rw [Int.toNat_natCast];exact h⟩,Int.toNat_natCast];rfl
theorem qf1 {n:Int} {w:Nat} (h1:1≤w) (h8:w≤8) (h0:0≤n) (h:n < 256 ^ w) (hn:n≤9223372036854775807):jO (n,(w:Int),())=some (bigN w n,()):=by
 unfold jO
 dsimp only
 rw [qm2 _ _ hn,if_pos ⟨by omega,by omega,h0,by rw [Int.toNat_natCast];exact h⟩,Int.toNat_natCast];rfl
theorem quG {f:Int×BB×Unit→Option (LS (Int×BB×Unit) Unit)} (w:Nat) (l:List Int) (acc:BB) (h1:1≤w) (h8:w≤8) (hl:l.length≤10) (ha:acc.length≤1000) (h:∀ n∈l,0≤n∧n < 256 ^ w∧n≤9223372036854775807)
  (hf:f=fun (x_1:Int×BB×Unit)=>sel (lt x_1.1 (len l)) (ck (inB x_1.1 (len l)) (ob (wV (nth l (nat x_1.1) 0,(w:Int),())) fun (a:BB×Int×Unit)=>ck (rm 1 (nadd (ln x_1.2.1) (ln a.1))) (some (LS.nx (i64 (iadd x_1.1 1),app x_1.2.1 a.1,()))))) (some (LS.ex 0 (x_1.1,x_1.2.1,())))) :
  loop f (0,acc,())=some (.ex 0 ((l.length:Int),acc++l.flatMap (bigN w),())):=by
 have hL:∀ i,((l.take i).flatMap (bigN w)).length≤8*i:=by
  intro i
  rw [List.length_flatMap]
  have:((l.take i).map fun a=>(bigN w a).length)=(l.take i).map fun _=>w:=List.map_congr_left fun a _=>qW w a
  rw [this,List.map_const',List.sum_replicate_nat,List.length_take]
  have:min i l.length*w≤i*8:=Nat.mul_le_mul (Nat.min_le_left _ _) h8
  omega
 have step:∀ i:Nat,i < l.length→f ((i:Int),acc++(l.take i).flatMap (bigN w),())=some (.nx (((i+1:Nat):Int),acc++(l.take (i+1)).flatMap (bigN w),())):=by
  intro i hi
  subst hf
  have hi':i64 (iadd (i:Int) 1)=((i+1:Nat):Int):=i64n (by show (i:Int)+1=_;omega) (by omega)
  obtain ⟨q1,q2,q3⟩:=h l[i] (List.getElem_mem hi)
  have hLi:=hL i
  refine (qC (by simp only [go_sem,Int.reduceToNat];omega)).trans ?_
  refine (qH (by simp only [go_sem,Int.reduceToNat];omega)).trans ?_
  dsimp only
  rw [hi',qP,qL hi,qO7 h1 h8 q1 q2 q3]
  refine (qF rfl).trans ?_
  have hb:=qW w l[i]
  refine (qH (by simp only [go_sem,Int.reduceToNat];simp only [List.length_append,qW];omega)).trans ?_
  rw [List.take_succ_eq_append_getElem hi,List.flatMap_append,List.flatMap_cons,List.flatMap_nil,List.append_nil]
  unfold app
  rw [List.append_assoc]
 have hend:∀ u,f ((l.length:Int),u,())=some (.ex 0 ((l.length:Int),u,())):=by subst hf;intro u;exact qB (by simp only [go_sem,Int.reduceToNat];omega)
 have:=(qN (f:=f) (fun i=>((i:Int),acc++(l.take i).flatMap (bigN w),())) l.length step 0 (Nat.zero_le _)).trans (qV (hend _))
 rw [List.take_of_length_le (Nat.le_refl _),List.take_zero,List.flatMap_nil,List.append_nil] at this
 exact this
theorem qnB (v:TEnv) (hv:qeA v):qkQ (v,())=some (qT v,0,()):=by
 unfold qkQ
 dsimp only
 rw [qnA,D_t hv]
 refine (qF rfl).trans ?_
 refine (qB rfl).trans ?_
 obtain ⟨k,d,e,g,s,b,t,⟨⟩⟩:=v
 unfold qT
 obtain ⟨h1,h2,h3,h4,h5,h6,h7,h8⟩:=hv
 unfold e0 zN at h2
 unfold e1 zN at h3
 unfold zN at h4
 unfold e0 e1
 dsimp only at *
 rw [show nat 0=0 from rfl,show nat 1=1 from rfl]
 generalize nth e 0 0=x at h2
 generalize nth e 1 0=y at h3
 refine (zC (quG 1 [k,d] [] (by omega) (by omega) (by simp) (by simp) (fun n hn => ?_) rfl)).trans ?_
 ·simp only [List.mem_cons,List.not_mem_nil,or_false] at hn
  rcases hn with rfl | rfl <;> omega
 refine (qH g62).trans ((qH rfl).trans ((qH rfl).trans ?_))
 refine (zC (quG 8 [x,y] _ (by omega) (by omega) (by simp) (by simp [qW]) (fun n hn => ?_) rfl)).trans ?_
 ·simp only [List.mem_cons,List.not_mem_nil,or_false] at hn
  rcases hn with rfl | rfl <;> omega
 refine (qH g62).trans ?_
 refine (zC (quG 4 [g] _ (by omega) (by omega) (by simp) (by simp [qW]) (fun n hn => ?_) rfl)).trans ?_
 ·simp only [List.mem_cons,List.not_mem_nil,or_false] at hn
  subst hn;omega
 refine (qH g62).trans ?_
 refine (zC (quG 8 [s] _ (by omega) (by omega) (by simp) (by simp [qW]) (fun n hn => ?_) rfl)).trans ?_
 ·simp only [List.mem_cons,List.not_mem_nil,or_false] at hn
  subst hn;omega
 refine (qH g62).trans ?_
 dsimp only
 refine (qH (by simp only [go_sem,Int.reduceToNat];simp [qW];omega)).trans ?_
 unfold app
 simp only [List.flatMap_cons,List.flatMap_nil,List.append_nil,List.nil_append,List.append_assoc]
theorem qbR (v:TEnv) (hv:qeA v):yM (v,())=some (qT v,0,()):=by
 unfold yM
 dsimp only
 rw [qiH,D_t hv]
 refine (qF rfl).trans ?_
 refine (qB rfl).trans ?_
 obtain ⟨k,d,e,g,s,b,t,⟨⟩⟩:=v
 unfold qT
 obtain ⟨h1,h2,h3,h4,h5,h6,h7,h8⟩:=hv
 unfold e0 zN at h2
 unfold e1 zN at h3
 unfold zN at h4
 unfold e0 e1
 dsimp only at *
 rw [show nat 0=0 from rfl,show nat 1=1 from rfl]
 generalize nth e 0 0=x at h2
 generalize nth e 1 0=y at h3
 rw [show jO (k,1,())=_ from qf1 (w:=1) (by omega) (by omega) (by omega) (by omega) (by omega)]
 refine (qF rfl).trans ?_
 rw [show jO (d,1,())=_ from qf1 (w:=1) (by omega) (by omega) (by omega) (by omega) (by omega)]
 refine (qF rfl).trans ?_
 have l1:=qW 1 k
 have l2:=qW 1 d
 refine (qH (by simp only [go_sem,Int.reduceToNat];omega)).trans ?_
 refine (qH rfl).trans ?_
 rw [show jO (x,8,())=_ from qf1 (w:=8) (by omega) (by omega) (by omega) (by omega) (by omega)]
 refine (qF rfl).trans ?_
 refine (qH (by simp only [go_sem,Int.reduceToNat];simp [qW])).trans ?_
 refine (qH rfl).trans ?_
 rw [show jO (y,8,())=_ from qf1 (w:=8) (by omega) (by omega) (by omega) (by omega) (by omega)]
 refine (qF rfl).trans ?_
 refine (qH (by simp only [go_sem,Int.reduceToNat];simp [qW])).trans ?_
 rw [show jO (g,4,())=_ from qf1 (w:=4) (by omega) (by omega) (by omega) (by omega) (by omega)]
 refine (qF rfl).trans ?_
 refine (qH (by simp only [go_sem,Int.reduceToNat];simp [qW])).trans ?_
 rw [show jO (s,8,())=_ from qf1 (w:=8) (by omega) (by omega) (by omega) (by omega) (by omega)]
 refine (qF rfl).trans ?_
 refine (qH (by simp only [go_sem,Int.reduceToNat];simp [qW])).trans ?_
 refine (qH (by simp only [go_sem,Int.reduceToNat];simp [qW];omega)).trans ?_
 rfl
def qmU (v:TEnv):Prop:=qeA v∧v.2.2.2.2.2.2.1.length=16
def kR (v:TEnv) (t:BB):TEnv:=(v.1,v.2.1,v.2.2.1,v.2.2.2.1,v.2.2.2.2.1,v.2.2.2.2.2.1,t,())
theorem qzL (v:TEnv):qpR (v,())=some (D (qmU v),()):=by
 unfold qpR qmU
 rw [qnA]
 simp only [go_sem,Int.reduceToNat]
 exact zW (and_congr_right fun _=>by omega)
theorem qiI (v:TEnv):qaM (v,())=some (D (qmU v),()):=by
 unfold qaM qmU
 rw [qiH]
 simp only [go_sem,Int.reduceToNat]
 exact zW (and_congr_right fun _=>by omega)
theorem qzK (v:TEnv) (hv:qmU v):qpQ (v,())=some (qT v++v.2.2.2.2.2.2.1,0,()):=by
 unfold qpQ
 dsimp only
 rw [qzL,D_t hv]
 refine (qF rfl).trans ?_
 refine (qB rfl).trans ?_
 rw [qnB _ hv.1]
 refine (qF rfl).trans ?_
 have h1:=j6 v
 have h2:=hv.2
 have h3:=hv.1.2.2.2.2.2.2.2
 refine (qH (by simp only [go_sem,Int.reduceToNat];omega)).trans ?_
 rfl
theorem qtM (v:TEnv) (hv:qmU v):qgZ (v,())=some (qT v++v.2.2.2.2.2.2.1,0,()):=by
 unfold qgZ
 dsimp only
 rw [qiI,D_t hv]
 refine (qF rfl).trans ?_
 refine (qB rfl).trans ?_
 rw [qbR _ hv.1]
 refine (qF rfl).trans ?_
 have h1:=j6 v
 have h2:=hv.2
 have h3:=hv.1.2.2.2.2.2.2.2
 refine (qH (by simp only [go_sem,Int.reduceToNat];omega)).trans ?_
 rfl
end Yp
namespace Yp
open Go
set_option maxRecDepth 100000
set_option maxHeartbeats 2000000
abbrev WT:=Int×List UInt64×Unit
abbrev qPc:=Int×BB×Unit
abbrev EvT:=Int×List Int×Int×BB×Unit
structure En' where
 id:Int
 key:BB
 ph:Int
 store:ST
 power:Int
 own:Int
 oth:Int
 seen:Int
 seq:Int
 win:WT
 ring:qiA
 ask:TAsk
 stan:Int
 day:Int
 queue:List BB
 hub:THub
 out:List qPc
 got:List EvT
 cnt:List Int
def En'.t (e:En'):TEnd:=(e.id,e.key,e.ph,e.store,e.power,e.own,e.oth,e.seen,e.seq,e.win,e.ring,e.ask,e.stan,e.day,e.queue,e.hub,e.out,e.got,e.cnt,())
structure Si where
 e:En'
 p:xX
def Si.t (s:Si):kC:=(s.e.t,s.p,())
def toEn (x:TEnd):En':=⟨x.1,x.2.1,x.2.2.1,x.2.2.2.1,x.2.2.2.2.1,x.2.2.2.2.2.1,x.2.2.2.2.2.2.1,x.2.2.2.2.2.2.2.1,x.2.2.2.2.2.2.2.2.1,x.2.2.2.2.2.2.2.2.2.1,x.2.2.2.2.2.2.2.2.2.2.1,x.2.2.2.2.2.2.2.2.2.2.2.1,x.2.2.2.2.2.2.2.2.2.2.2.2.1,
 x.2.2.2.2.2.2.2.2.2.2.2.2.2.1,x.2.2.2.2.2.2.2.2.2.2.2.2.2.2.1,x.2.2.2.2.2.2.2.2.2.2.2.2.2.2.2.1,x.2.2.2.2.2.2.2.2.2.2.2.2.2.2.2.2.1,x.2.2.2.2.2.2.2.2.2.2.2.2.2.2.2.2.2.1,x.2.2.2.2.2.2.2.2.2.2.2.2.2.2.2.2.2.2.1⟩
theorem qRD (x:kC):∃ s:Si,x=s.t:=⟨⟨toEn x.1,x.2.1⟩,rfl⟩
def noW:WT:=(0,[u64 0,u64 0,u64 0,u64 0,u64 0,u64 0,u64 0,u64 0,u64 0,u64 0,u64 0,u64 0,u64 0,u64 0,u64 0,u64 0],())
structure okE (n:Nat) (e:En'):Prop where
 id:e.id=0∨e.id=1
 key:e.key.length≤1000
 ph:0≤e.ph∧e.ph≤8
 store:jR e.store
 own:zN e.own
 oth:zN e.oth
 seq:zN e.seq
 ring:qoQ e.ring
 up:e.hub.1.length=4
 next:0≤e.hub.2.2.2.1∧e.hub.2.2.2.1 < 4
 out:e.out.length≤n
 got:e.got.length≤n
 cnt:e.cnt.length=4
 win:e.win.2.1.length=16
 feed:e.hub.2.1.length=4
 life:e.hub.2.2.1.length=4
 queue:e.queue.length≤1000
structure okS (n:Nat) (s:Si):Prop where
 e:okE n s.e
 p:s.p.2.1.length≤n
def qb7 (e:En'):List Int:=if e.id=0 then [e.own,e.oth] else if e.id=1 then [e.oth,e.own] else [0,0]
theorem qaU (hi n:Int):vC (hi,[n],())=some (D (0≤n∧n≤hi),()):=by
 unfold vC
 dsimp only
 by_cases h:0≤n∧n≤hi
 ·rw [D_t h]
  refine (zC (vW (y:=(false,1,())) ?_)).trans ((zC (qV (y:=(false,1,())) (k:=0) rfl)).trans rfl)
  refine (qC rfl).trans ((qH rfl).trans ?_)
  dsimp only
  rw [show nth [n] (nat 0) 0=n from rfl]
  simp (disch:=omega) only [go_sem,Int.reduceToNat]
  rfl
 ·rw [D_f h]
  refine (zC (qeY (r:=(false,())) ?_)).trans rfl
  refine (qC rfl).trans ((qH rfl).trans ?_)
  dsimp only
  rw [show nth [n] (nat 0) 0=n from rfl]
  refine (qF (a:=(true,())) (by simp only [go_sem,Int.reduceToNat];try exact qi0 (by omega))).trans ?_
  rfl
theorem qrD (hi n m:Int):vC (hi,[n,m],())=some (D ((0≤n∧n≤hi)∧(0≤m∧m≤hi)),()):=by
 unfold vC
 dsimp only
 by_cases h:0≤n∧n≤hi
 ·refine (zC (vW (y:=(false,1,())) ?_)).trans ?_
  ·refine (qC rfl).trans ((qH rfl).trans ?_)
   dsimp only
   rw [show nth [n,m] (nat 0) 0=n from rfl]
   simp (disch:=omega) only [go_sem,Int.reduceToNat]
   rfl
  ·by_cases h':0≤m∧m≤hi
   ·rw [D_t ⟨h,h'⟩]
    refine (zC (vW (y:=(false,2,())) ?_)).trans ((zC (qV (y:=(false,2,())) (k:=0) rfl)).trans rfl)
    refine (qC rfl).trans ((qH rfl).trans ?_)
    dsimp only
    rw [show nth [n,m] (nat 1) 0=m from rfl]
    simp (disch:=omega) only [go_sem,Int.reduceToNat]
    rfl
   ·rw [D_f (fun x=>h' x.2)]
    refine (zC (qeY (r:=(false,())) ?_)).trans rfl
    refine (qC rfl).trans ((qH rfl).trans ?_)
    dsimp only
    rw [show nth [n,m] (nat 1) 0=m from rfl]
    refine (qF (a:=(true,())) (by simp only [go_sem,Int.reduceToNat];try exact qi0 (by omega))).trans ?_
    rfl
 ·rw [D_f (fun x=>h x.1)]
  refine (zC (qeY (r:=(false,())) ?_)).trans rfl
  refine (qC rfl).trans ((qH rfl).trans ?_)
  dsimp only
  rw [show nth [n,m] (nat 0) 0=n from rfl]
  refine (qF (a:=(true,())) (by simp only [go_sem,Int.reduceToNat];try exact qi0 (by omega))).trans ?_
  rfl
theorem kZ (e:En'):xS (e.t,())=some (qb7 e,()):=by
 unfold xS qb7
 dsimp only [En'.t]
 rw [qaU]
 by_cases h0:e.id=0
 ·rw [h0,D_t (by omega),if_pos rfl];rfl
 ·rw [if_neg h0]
  by_cases h1:e.id=1
  ·rw [h1,D_t (by omega),if_pos rfl];rfl
  ·rw [if_neg h1,D_f (by omega)];rfl
theorem v5 (e:En'):jN (e.t,())=some (qb7 e,()):=by
 unfold jN qb7
 dsimp only [En'.t]
 by_cases h0:e.id=0
 ·rw [h0,if_pos rfl];rfl
 ·rw [if_neg h0]
  by_cases h1:e.id=1
  ·rw [h1,if_pos rfl];rfl
  ·rw [if_neg h1];simp (disch:=omega) only [go_sem,Int.reduceToNat]
def qiV (key:BB):BB:=qw8 key [98,97,115,101] []
theorem qk8 (key:BB):(qiV key).length=32:=qzO _ _ _
theorem qzD (key:BB) (h:key.length≤1000000):qkH (key,())=some (qiV key,()):=by
 unfold qkH
 dsimp only
 rw [qkA _ _ _ h (by decide) (by decide) (by simp [none'])];rfl
theorem qc2 (key:BB) (h:key.length≤1000000):yY (key,())=some (qiV key,()):=by
 unfold yY
 dsimp only
 rw [qq8 _ _ _ h (by decide) (by decide) (by simp [none'])];rfl
def keyD (key:BB) (p:List Int) (gen:Int) (nonce:BB):BB :=
 if zN (nth p 0 0)∧zN (nth p 1 0)∧0≤gen∧gen≤2147483647 then qw8 key [108,105,110,107] [bigN 8 (nth p 0 0),bigN 8 (nth p 1 0),bigN 4 gen,nonce] else []
theorem xN (n:Int):x3 (n,())=some (D (zN n),()):=by
 unfold x3 zN
 simp only [go_sem,Int.reduceToNat]
theorem bigI {n:Int} {w:Int} (hw:w=8∨w=4) (h:0≤n∧n < 256 ^ w.toNat) (hn:n≤9223372036854775807):wV (n,w,())=some (bigN w.toNat n,0,()):=by
 rw [qkR _ _ hn,if_pos ⟨by omega,by omega,h.1,h.2⟩];rfl
theorem qNh {a b:BB} {c nonce:BB} (ha:a.length=8) (hb:b.length=8) (hc:c.length=4) (hn:nonce.length≤1000):∀ p∈[a,b,c,nonce],p.length≤1000:=by
 intro p hp
 simp only [List.mem_cons,List.not_mem_nil,or_false] at hp
 rcases hp with rfl | rfl | rfl | rfl <;> omega
theorem p8 {n:Int} (h:zN n):0≤n∧n < 256 ^ (8:Int).toNat:=⟨h.1,by have:=h.2;show n < 256 ^ 8;omega⟩
theorem qB6 (key:BB) (p:List Int) (gen:Int) (nonce:BB) (hk:key.length≤1000000) (hn:nonce.length≤1000):qpD (key,p,gen,nonce,())=some (keyD key p gen nonce,()):=by
 unfold qpD keyD
 refine (qH rfl).trans ((qH rfl).trans ?_)
 dsimp only
 rw [show nat 0=0 from rfl,show nat 1=1 from rfl]
 generalize nth p 0 0=x
 generalize nth p 1 0=y
 rw [qrD]
 by_cases h:zN x∧zN y
 ·rw [D_t (show (0≤x∧x≤4611686018427387904)∧(0≤y∧y≤4611686018427387904) from h)]
  refine (qF rfl).trans ((qB rfl).trans ?_)
  rw [qaU]
  by_cases hg:0≤gen∧gen≤2147483647
  ·rw [D_t hg,if_pos ⟨h.1,h.2,hg⟩]
   refine (qF rfl).trans ((qB rfl).trans ((qH rfl).trans ?_))
   rw [bigI (.inl rfl) (p8 h.1) (by have:=h.1.2;omega)]
   refine (qF rfl).trans ((qH rfl).trans ?_)
   rw [bigI (.inl rfl) (p8 h.2) (by have:=h.2.2;omega)]
   refine (qF rfl).trans ?_
   rw [bigI (.inr rfl) ⟨hg.1,by show gen < 256 ^ 4;omega⟩ (by omega)]
   refine (qF rfl).trans ?_
   dsimp only
   rw [show (8:Int).toNat=8 from rfl,show (4:Int).toNat=4 from rfl,qkA key [108,105,110,107] _ hk (by simp) (by simp) (qNh (qW _ _) (qW _ _) (qW _ _) hn)];rfl
  ·rw [D_f hg,if_neg (fun h=>hg h.2.2)];rfl
 ·rw [D_f (show ¬ ((0≤x∧x≤4611686018427387904)∧(0≤y∧y≤4611686018427387904)) from h),if_neg (fun h'=>h ⟨h'.1,h'.2.1⟩)];rfl
def qIp (e:En') (p:Int):En':={ e with ph:=p,own:=0,oth:=0,seq:=0,win:=noW,ring:=noR,ask:=noA,queue:=[],got:=if jC e.ph then e.got++[(5,qb7 e,0,[],())] else e.got }
theorem qAC (l:List EvT):zH (l,())=some (l,()):=by
 unfold zH
 dsimp only
 rw [qG2]
 exact qH (qIN l)
theorem qLp (l:List qPc):z2 (l,())=some (l,()):=by
 unfold z2
 dsimp only
 rw [qG2]
 exact qH (qIN l)
theorem qm8 (e:En') (p:Int) (hg:e.got.length≤1000000):qdO (e.t,p,())=some ((qIp e p).t,()):=by
 unfold qdO qIp
 dsimp only [En'.t]
 rw [kH]
 refine (qF rfl).trans ?_
 by_cases h:jC e.ph
 ·rw [D_t h,if_pos h]
  refine (qC rfl).trans ?_
  rw [qAC]
  refine (qF rfl).trans ?_
  rw [show xS ((e.id,e.key,e.ph,e.store,e.power,e.own,e.oth,e.seen,e.seq,e.win,e.ring,e.ask,e.stan,e.day,e.queue,e.hub,e.out,e.got,e.cnt,()),())=_ from kZ e]
  refine (qF rfl).trans ?_
  refine (qH (by simp only [go_sem,Int.reduceToNat];simp;omega)).trans ?_
  rfl
 ·rw [D_f h,if_neg h];rfl
theorem qmW (e:En') (k:Int) (p:List Int) (s:Int) (b:BB) (hg:e.got.length≤1000000):qfQ (e.t,k,p,s,b,())=some (({ e with got:=e.got++[(k,p,s,b,())] }:En').t,()):=by
 unfold qfQ
 dsimp only [En'.t]
 refine (qH (by simp only [go_sem,Int.reduceToNat];omega)).trans ?_
 refine (qH (by simp only [go_sem,Int.reduceToNat];simp;omega)).trans ?_
 rfl
theorem qjL (e:En') (p:Int) (hg:e.got.length≤1000000):qaH (e.t,p,())=some ((qIp e p).t,()):=by
 unfold qaH qIp
 rw [show (e.t,p,()).1.2.2.1=e.ph from rfl,kF]
 refine (qF rfl).trans ?_
 by_cases h:jC e.ph
 ·rw [D_t h,if_pos h]
  refine (qC rfl).trans ?_
  dsimp only
  rw [v5]
  refine (qF rfl).trans ?_
  dsimp only
  rw [show (none' UInt8:BB)=[] from rfl,qmW _ _ _ _ _ hg]
  rfl
 ·rw [D_f h,if_neg h];rfl
end Yp
namespace Yp
open Go
set_option maxRecDepth 100000
set_option maxHeartbeats 2000000
theorem bq_f {a b:Int} (h:a=b):bnot (beq a b)=false:=by rw [kM h];rfl
theorem bq_t {a b:Int} (h:¬ a=b):bnot (beq a b)=true:=by rw [vX h];rfl
theorem qqZ {r:qiA} (h:qoQ r):0≤r.1.1∧r.1.1≤2147483647∧r.1.2.1.length≤32:=by
 rcases h with rfl | ⟨⟨h1,h2,h3⟩,_⟩
 ·exact ⟨by decide,by decide,by decide⟩
 ·omega
def qiT (s:Si) (v:TEnv) (key:BB):Si×Int :=
 if (kX s.e.hub).2.2.1=0 then
  (⟨{ s.e with hub:=(kX s.e.hub).1,out:=s.e.out++[((kX s.e.hub).2.1,kY (qT v++kN key (qT v)),())] },ptag s.p key (qT v)⟩,0)
 else (s,(kX s.e.hub).2.2.1)
theorem qm6 {s:Si} {n:Nat} (hs:okS n s) (hn:n≤900000) (v:TEnv) (hv:qeA v) (key:BB) (hk:key.length≤1000000):qkE (s.t,v,key,())=some ((qiT s v key).1.t,(qiT s v key).2,()):=by
 unfold qkE qiT
 dsimp only [Si.t,En'.t]
 have hp:=hs.p
 have ho:=hs.e.out
 rw [qCe _ hs.e.up hs.e.next]
 refine (qF rfl).trans ?_
 by_cases hh:(kX s.e.hub).2.2.1=0
 ·rw [if_pos hh]
  refine (qB (by simp only [go_sem,Int.reduceToNat];exact not_not_intro hh)).trans ?_
  rw [qnB _ hv]
  refine (qF rfl).trans ?_
  have hb:=hv.2.2.2.2.2.2
  have hl:=j6 v
  dsimp only
  rw [qBW _ _ _ (by omega) hk (by omega)]
  refine (qF rfl).trans ?_
  dsimp only
  have ht:=qb3 key (qT v)
  rw [qzK (v.1,v.2.1,v.2.2.1,v.2.2.2.1,v.2.2.2.2.1,v.2.2.2.2.2.1,kN key (qT v),v.2.2.2.2.2.2.2) ⟨hv,ht⟩]
  refine (qF rfl).trans ?_
  dsimp only
  rw [show qT (v.1,v.2.1,v.2.2.1,v.2.2.2.1,v.2.2.2.2.1,v.2.2.2.2.2.1,kN key (qT v),v.2.2.2.2.2.2.2)=qT v from rfl,qw0 _ (by rw [List.length_append];omega)]
  refine (qF rfl).trans ?_
  rw [qLp]
  refine (qF rfl).trans ?_
  refine (qH (by simp only [go_sem,Int.reduceToNat];simp;omega)).trans ?_
  rfl
 ·rw [if_neg hh]
  refine (qC (by simp only [go_sem,Int.reduceToNat];exact hh)).trans ?_
  rfl
theorem qjI {s:Si} {n:Nat} (hs:okS n s) (hn:n≤900000) (v:TEnv) (hv:qeA v) (key:BB) (hk:key.length≤1000000):qcG (s.t,v,key,())=some ((qiT s v key).1.t,(qiT s v key).2,()):=by
 unfold qcG qiT
 dsimp only [Si.t,En'.t]
 have hp:=hs.p
 have ho:=hs.e.out
 rw [qvY _ hs.e.up hs.e.next]
 refine (qF rfl).trans ?_
 by_cases hh:(kX s.e.hub).2.2.1=0
 ·rw [if_pos hh]
  refine (qB (by simp only [go_sem,Int.reduceToNat];exact not_not_intro hh)).trans ?_
  rw [qbR _ hv]
  refine (qF rfl).trans ?_
  have hb:=hv.2.2.2.2.2.2
  have hl:=j6 v
  dsimp only
  rw [qy3 _ _ _ (by omega) hk (by omega)]
  refine (qF rfl).trans ?_
  dsimp only
  have ht:=qb3 key (qT v)
  rw [qtM (v.1,v.2.1,v.2.2.1,v.2.2.2.1,v.2.2.2.2.1,v.2.2.2.2.2.1,kN key (qT v),v.2.2.2.2.2.2.2) ⟨hv,ht⟩]
  refine (qF rfl).trans ?_
  dsimp only
  rw [show qT (v.1,v.2.1,v.2.2.1,v.2.2.2.1,v.2.2.2.2.1,v.2.2.2.2.2.1,kN key (qT v),v.2.2.2.2.2.2.2)=qT v from rfl,qv0 _ (by rw [List.length_append];omega)]
  refine (qF rfl).trans ?_
  refine (qH (by simp only [go_sem,Int.reduceToNat];omega)).trans ?_
  refine (qH (by simp only [go_sem,Int.reduceToNat];simp;omega)).trans ?_
  rfl
 ·rw [if_neg hh]
  refine (qC (by simp only [go_sem,Int.reduceToNat];exact hh)).trans ?_
  rfl
def qoH (e:En') (body:BB):TEnv:=(2,e.id,qb7 e,e.ring.1.1,e.seq,body,[],())
def setV (e:En') (other:Int) (body:BB):TEnv:=(1,e.id,qb7 { e with oth:=other },0,0,body,[],())
def qdQ (b:BB):Prop:=1≤b.length∧b.length≤900
instance (b:BB):Decidable (qdQ b):=by unfold qdQ;infer_instance
theorem qBZ {e:En'} (h1:zN e.own) (h2:zN e.oth):zN (nth (qb7 e) 0 0)∧zN (nth (qb7 e) 1 0):=by
 unfold qb7
 split
 ·exact ⟨h1,h2⟩
 split
 ·exact ⟨h2,h1⟩
 ·exact ⟨by decide,by decide⟩
theorem qu6 {n:Nat} {e:En'} (h:okE n e) {body:BB} (hb:qdQ body):qeA (qoH e body):=by
 have hr:=qqZ h.ring
 exact ⟨.inr rfl,(qBZ h.own h.oth).1,(qBZ h.own h.oth).2,h.seq,h.id,⟨hr.1,hr.2.1⟩,hb.1,hb.2⟩
theorem qqP {n:Nat} {e:En'} (h:okE n e) {o:Int} (ho:zN o) {body:BB} (hb:qdQ body):qeA (setV e o body):=by
 have:=qBZ (e:={ e with oth:=o }) h.own ho
 exact ⟨.inl rfl,this.1,this.2,by show zN 0;decide,h.id,⟨by show (0:Int)≤0;decide,by show (0:Int)≤2147483647;decide⟩,hb.1,hb.2⟩
def qjD (s:Si) (body:BB):Si×Int :=
 if ¬ qdQ body then (s,1) else if ¬ jC s.e.ph then (s,7) else if s.e.seq=4611686018427387904 then (s,10)
 else let r:=qiT s (qoH s.e body) s.e.ring.1.2.1;if r.2=0 then (⟨{ r.1.e with seq:=r.1.e.seq+1 },r.1.p⟩,0) else r
theorem qw6 (s:Si) (v:TEnv) (key:BB):(qiT s v key).1.e.seq=s.e.seq:=by unfold qiT;split <;> rfl
theorem qeZ (b:BB):qkD (b,())=some (D (qdQ b),()):=by
 unfold qkD qdQ
 simp only [go_sem,Int.reduceToNat]
 exact zW (by omega)
theorem qDB {s:Si} {r:Si×Int} (hseq:zN r.1.e.seq) (h10:¬ r.1.e.seq=4611686018427387904) :
    (ob (some (r.1.t,r.2,())) fun (a:kC×Int×Unit) =>
   sel (beq a.2.1 0) (some (((a.1.1.1,a.1.1.2.1,a.1.1.2.2.1,a.1.1.2.2.2.1,a.1.1.2.2.2.2.1,a.1.1.2.2.2.2.2.1,a.1.1.2.2.2.2.2.2.1,a.1.1.2.2.2.2.2.2.2.1,i64 (iadd a.1.1.2.2.2.2.2.2.2.2.1 1),a.1.1.2.2.2.2.2.2.2.2.2),a.1.2),a.2.1,())) (some (a.1,a.2.1,()))) =
      some ((if r.2=0 then (⟨{ r.1.e with seq:=r.1.e.seq+1 },r.1.p⟩,0) else r:Si×Int).1.t,(if r.2=0 then (⟨{ r.1.e with seq:=r.1.e.seq+1 },r.1.p⟩,0) else r:Si×Int).2,()):=by
  obtain ⟨⟨e,p⟩,c⟩:=r
  refine (qF rfl).trans ?_
  by_cases h:c=0
  · subst h
    rw [if_pos rfl]
    refine (qC rfl).trans ?_
    dsimp only [Si.t,En'.t] at hseq ⊢
    obtain ⟨q1,q2⟩:=hseq
    rw [show i64 (iadd e.seq 1)=e.seq+1 from zX (by show -9223372036854775808≤e.seq+1;omega) (by show e.seq+1≤9223372036854775807;omega)]
  · rw [if_neg h]
    refine (qB (by simp only [go_sem,Int.reduceToNat];exact h)).trans ?_
    rfl
theorem qm7 {s:Si} {n:Nat} (hs:okS n s) (hn:n≤900000) (b:BB):qkG (s.t,b,())=some ((qjD s b).1.t,(qjD s b).2,()):=by
 unfold qkG qjD
 dsimp only
 rw [qeZ]
 refine (qF rfl).trans ?_
 by_cases hb:qdQ b
 ·rw [D_t hb,if_neg (not_not_intro hb)]
  refine (qB rfl).trans ?_
  rw [show s.t.1.2.2.1=s.e.ph from rfl,kH]
  refine (qF rfl).trans ?_
  by_cases hl:jC s.e.ph
  ·rw [D_t hl,if_neg (not_not_intro hl)]
   refine (qB rfl).trans ?_
   by_cases hq:s.e.seq=4611686018427387904
   ·rw [if_pos hq]
    exact qC (by simp only [go_sem,Int.reduceToNat];exact hq)
   ·rw [if_neg hq]
    refine (qB (by simp only [go_sem,Int.reduceToNat];exact hq)).trans ?_
    rw [show xS (s.t.1,())=_ from kZ s.e]
    refine (qF rfl).trans ?_
    have hv:=qu6 hs.e hb
    have hk:=(qqZ hs.e.ring).2.2
    have hem:=qm6 hs hn _ hv s.e.ring.1.2.1 (by omega)
    have h1:=qw6 s (qoH s.e b) s.e.ring.1.2.1
    exact Eq.trans (zZ hem) (qDB (s:=s) (r:=qiT s (qoH s.e b) s.e.ring.1.2.1) (by rw [h1];exact hs.e.seq) (by rw [h1];exact hq))
  ·rw [D_f hl,if_pos hl];rfl
 ·rw [D_f hb,if_pos hb];rfl
theorem qjJ {s:Si} {n:Nat} (hs:okS n s) (hn:n≤900000) (b:BB):qcH (s.t,b,())=some ((qjD s b).1.t,(qjD s b).2,()):=by
 unfold qcH qjD
 dsimp only
 by_cases hb:qdQ b
 ·rw [if_neg (not_not_intro hb)]
  have hb1:=hb.1
  have hb2:=hb.2
  refine (qF (a:=(false,())) (by simp only [go_sem,Int.reduceToNat];try exact qiZ (by omega))).trans ?_
  refine (qB rfl).trans ?_
  rw [show s.t.1.2.2.1=s.e.ph from rfl,kF]
  refine (qF rfl).trans ?_
  by_cases hl:jC s.e.ph
  ·rw [D_t hl,if_neg (not_not_intro hl)]
   refine (qB rfl).trans ?_
   by_cases hq:s.e.seq=4611686018427387904
   ·rw [if_pos hq]
    exact qC (by simp only [go_sem,Int.reduceToNat];exact hq)
   ·rw [if_neg hq]
    refine (qB (by simp only [go_sem,Int.reduceToNat];exact hq)).trans ?_
    rw [show jN (s.t.1,())=_ from v5 s.e]
    refine (qF rfl).trans ?_
    have hv:=qu6 hs.e hb
    have hk:=(qqZ hs.e.ring).2.2
    have hem:=qjI hs hn _ hv s.e.ring.1.2.1 (by omega)
    have h1:=qw6 s (qoH s.e b) s.e.ring.1.2.1
    exact Eq.trans (zZ hem) (qDB (s:=s) (r:=qiT s (qoH s.e b) s.e.ring.1.2.1) (by rw [h1];exact hs.e.seq) (by rw [h1];exact hq))
  ·rw [D_f hl,if_pos hl];rfl
 ·rw [if_pos hb]
  unfold qdQ at hb
  refine (qF (a:=(true,())) (by simp only [go_sem,Int.reduceToNat];try exact qi0 (by omega))).trans ?_
  rfl
def w8 (s:Si) (other:Int) (body:BB):Si×Int:=if zN other∧qdQ body then qiT s (setV s.e other body) (qiV s.e.key) else (s,1)
theorem qkF {s:Si} {n:Nat} (hs:okS n s) (hn:n≤900000) (o:Int) (b:BB):qgB (s.t,o,b,())=some ((w8 s o b).1.t,(w8 s o b).2,()):=by
 unfold qgB w8
 dsimp only
 rw [qaU]
 refine (qF rfl).trans ?_
 by_cases hb:zN o∧qdQ b
 ·rw [if_pos hb,D_t (show 0≤o∧o≤4611686018427387904 from hb.1)]
  refine (qF (a:=(false,())) ((qB rfl).trans (by rw [qeZ,D_t hb.2];rfl))).trans ?_
  refine (qB rfl).trans ?_
  have hp:=kZ { s.e with oth:=o }
  refine (zZ (show xS ((s.t.1.1,s.t.1.2.1,s.t.1.2.2.1,s.t.1.2.2.2.1,s.t.1.2.2.2.2.1,s.t.1.2.2.2.2.2.1,o,s.t.1.2.2.2.2.2.2.2),())=_ from hp)).trans ?_
  refine (qF rfl).trans ?_
  have hk:=hs.e.key
  rw [show qkH (s.t.1.2.1,())=_ from qzD s.e.key (by omega)]
  refine (qF rfl).trans ?_
  have hem:=qm6 hs hn _ (qqP hs.e hb.1 hb.2) (qiV s.e.key) (by rw [qk8];omega)
  exact (zZ hem).trans rfl
 ·rw [if_neg hb]
  refine (qF (a:=(true,())) ?_).trans rfl
  by_cases h1:zN o
  ·rw [D_t (show 0≤o∧o≤4611686018427387904 from h1)]
   refine (qB rfl).trans ?_
   rw [qeZ,D_f (fun h=>hb ⟨h1,h⟩)];rfl
  ·rw [D_f (show ¬ (0≤o∧o≤4611686018427387904) from h1)];rfl
theorem qtH {s:Si} {n:Nat} (hs:okS n s) (hn:n≤900000) (o:Int) (b:BB):qgV (s.t,o,b,())=some ((w8 s o b).1.t,(w8 s o b).2,()):=by
 unfold qgV w8
 dsimp only
 rw [xN]
 refine (qF rfl).trans ?_
 have hk:=hs.e.key
 by_cases hb:zN o∧qdQ b
 ·rw [if_pos hb,D_t hb.1]
  have hb1:=hb.2.1
  have hb2:=hb.2.2
  refine (qF (a:=(false,())) (by simp only [go_sem,Int.reduceToNat];try exact qiZ (by omega))).trans ?_
  refine (qB rfl).trans ?_
  have hem:=qjI hs hn _ (qqP hs.e hb.1 hb.2) (qiV s.e.key) (by rw [qk8];omega)
  rcases hs.e.id with hi | hi
  ·refine (qB (by show beq s.e.id 1=false;rw [hi];rfl)).trans ?_
   rw [show yY (s.t.1.2.1,())=_ from qc2 s.e.key (by omega)]
   refine (qF rfl).trans ?_
   have e:setV s.e o b=(1,s.e.id,[s.e.own,o],0,0,b,[],()):=by unfold setV qb7;dsimp only;rw [if_pos hi]
   rw [e] at hem ⊢
   exact (zZ hem).trans rfl
  ·refine (qC (by show beq s.e.id 1=true;rw [hi];rfl)).trans ?_
   rw [show yY (s.t.1.2.1,())=_ from qc2 s.e.key (by omega)]
   refine (qF rfl).trans ?_
   have e:setV s.e o b=(1,s.e.id,[o,s.e.own],0,0,b,[],()):=by unfold setV qb7;dsimp only;rw [if_neg (by omega),if_pos hi]
   rw [e] at hem ⊢
   exact (zZ hem).trans rfl
 ·rw [if_neg hb]
  refine (qF (a:=(true,())) ?_).trans rfl
  by_cases h1:zN o
  ·rw [D_t h1]
   have h2:¬ (1≤b.length∧b.length≤900):=fun h=>hb ⟨h1,h⟩
   simp only [go_sem,Int.reduceToNat];try exact qi0 (by omega)
  ·rw [D_f h1];rfl
def qQ3 (c:List Int) (i:Nat):List Int:=upd c i (i64 (iadd (nth c i 0) 1))
def w9 (s:Si) (i:Nat):Si:=⟨{ s.e with cnt:=qQ3 s.e.cnt i },s.p⟩
theorem qFw (s:Si):qmA (s.t,13,())=some ((w9 s 3).t,()):=by
 unfold qmA
 exact (zC (qhH 5 rfl)).trans rfl
theorem qBU (s:Si):xE (s.t,13,())=some ((w9 s 3).t,()):=by
 unfold xE
 exact (zC (qhH 5 rfl)).trans rfl
end Yp
namespace Yp
open Go
set_option maxRecDepth 100000
set_option maxHeartbeats 2000000
theorem wN {n m:Nat} {e:En'} (h:okE n e) (hm:n≤m):okE m e:={ h with out:=Nat.le_trans h.out hm,got:=Nat.le_trans h.got hm }
theorem zO {n m:Nat} {s:Si} (h:okS n s) (hm:n≤m):okS m s:=⟨wN h.e hm,Nat.le_trans h.p hm⟩
theorem qJX (h:THub):(kX h).1.1=h.1:=by unfold kX;split <;> rfl
theorem qK7 (h:THub):(kX h).1.2.1=h.2.1:=by unfold kX;split <;> rfl
theorem qK6 (h:THub):(kX h).1.2.2.1=h.2.2.1:=by unfold kX;split <;> rfl
theorem qAe {h:THub} (hn:0≤h.2.2.2.1∧h.2.2.2.1 < 4):0≤(kX h).1.2.2.2.1∧(kX h).1.2.2.2.1 < 4:=by
 unfold kX
 split
 ·exact hn
 ·rename_i c _
  show (0:Int)≤((c+1) % 4:Nat)∧(((c+1) % 4:Nat):Int) < 4
  omega
theorem qJ4 {n:Nat} {s:Si} (h:okS n s) (v:TEnv) (key:BB):okS (n+1) (qiT s v key).1:=by
 unfold qiT
 split
 ·refine ⟨{ h.e with up:=(by rw [← h.e.up];exact congrArg List.length (qJX s.e.hub)),next:=qAe h.e.next,feed:=(by rw [← h.e.feed];exact congrArg List.length (qK7 s.e.hub)),life:=(by rw [← h.e.life];exact congrArg List.length (qK6 s.e.hub)),out := ?_,got:=Nat.le_succ_of_le h.e.got }, ?_⟩
  ·have:=h.e.out
   simp only [List.length_append,List.length_cons,List.length_nil];omega
  ·have:=qRN s.p key (qT v)
   have:=h.p
   show (ptag s.p key (qT v)).2.1.length≤n+1
   omega
 ·exact zO h (by omega)
theorem qo3 {n:Nat} {s:Si} (h:okS n s) (b:BB):okS (n+1) (qjD s b).1:=by
 unfold qjD
 split
 ·exact zO h (by omega)
 split
 ·exact zO h (by omega)
 split
 ·exact zO h (by omega)
 ·rename_i h1 h2 h3
  have h4:=qJ4 h (qoH s.e b) s.e.ring.1.2.1
  have h5:=qw6 s (qoH s.e b) s.e.ring.1.2.1
  dsimp only
  split
  ·refine ⟨{ h4.e with seq := ?_ },h4.p⟩
   have:=h.e.seq
   show zN (_+1)
   rw [h5]
   unfold zN at *
   omega
  ·exact h4
theorem qFi {n:Nat} {s:Si} (h:okS n s) (o:Int) (b:BB):okS (n+1) (w8 s o b).1:=by
 unfold w8
 split
 ·exact qJ4 h _ _
 ·exact zO h (by omega)
theorem qwL {n:Nat} {s:Si} (h:okS n s) (i:Nat):okS n (w9 s i):=⟨{ h.e with cnt:=by show (qQ3 s.e.cnt i).length=4;unfold qQ3 upd;rw [List.length_set];exact h.e.cnt },h.p⟩
def qqA (s:Si) (q:jT):Si:=⟨{ s.e with stan:=yJ s.e.stan,ask:=(qnE q.2.1 (yJ s.e.stan) (wrN (q.1,q.2.1,yJ s.e.stan,q.2.2.2)).1).1 },s.p⟩
def kP (s:Si) (q:jT):Si :=
 if (wrN (q.1,q.2.1,yJ s.e.stan,q.2.2.2)).2.1=0∧(qnE q.2.1 (yJ s.e.stan) (wrN (q.1,q.2.1,yJ s.e.stan,q.2.2.2)).1).2.1=0 then
  (if q.2.1=1 then (w8 (qqA s q) 0 (wrN (q.1,q.2.1,yJ s.e.stan,q.2.2.2)).1).1 else (qjD (qqA s q) (wrN (q.1,q.2.1,yJ s.e.stan,q.2.2.2)).1).1)
 else s
theorem ql8 {n:Nat} {s:Si} (h:okS n s) (q:jT):okS n (qqA s q):=⟨{ h.e with },h.p⟩
theorem qj3 {n:Nat} {s:Si} (h:okS n s) (q:jT):okS (n+1) (kP s q):=by
 unfold kP
 split
 ·split
  ·exact qFi (ql8 h q) _ _
  ·exact qo3 (ql8 h q) _
 ·exact zO h (by omega)
theorem qd3 {s:Si} {n:Nat} (hs:okS n s) (hn:n≤900000) (q:jT):wD (s.t,q,())=some ((kP s q).t,()):=by
 unfold wD kP
 dsimp only
 rw [show s.t.1.2.2.2.2.2.2.2.2.2.2.2.2.1=s.e.stan from rfl,qC9]
 refine (qF rfl).trans ?_
 dsimp only
 rw [qdM]
 have hok:=ql8 hs q
 have hset:=qkF hok hn 0 (wrN (q.1,q.2.1,yJ s.e.stan,q.2.2.2)).1
 have hsend:=qm7 hok hn (wrN (q.1,q.2.1,yJ s.e.stan,q.2.2.2)).1
 unfold qqA at hset hsend ⊢
 generalize wrN (q.1,q.2.1,yJ s.e.stan,q.2.2.2)=w at hset hsend ⊢
 obtain ⟨b,we,⟨⟩⟩:=w
 refine (qF rfl).trans ?_
 dsimp only at hset hsend ⊢
 rw [qz3]
 generalize qnE q.2.1 (yJ s.e.stan) b=a at hset hsend ⊢
 obtain ⟨a,ae,⟨⟩⟩:=a
 refine (qF rfl).trans ?_
 dsimp only at hset hsend ⊢
 by_cases h:we=0∧ae=0
 ·obtain ⟨rfl,rfl⟩:=h
  rw [if_pos ⟨rfl,rfl⟩]
  refine (qF (a:=(false,())) rfl).trans ((qB rfl).trans ?_)
  by_cases hc:q.2.1=1
  ·rw [if_pos hc]
   refine (qC (by simp only [go_sem,Int.reduceToNat];exact hc)).trans ?_
   exact (zZ hset).trans rfl
  ·rw [if_neg hc]
   refine (qB (by simp only [go_sem,Int.reduceToNat];exact hc)).trans ?_
   exact (zZ hsend).trans rfl
 ·rw [if_neg h]
  refine (qF (a:=(true,())) ?_).trans rfl
  by_cases h1:we=0
  ·have h2:¬ ae=0:=fun h2=>h ⟨h1,h2⟩
   exact (qB (by rw [h1];rfl)).trans (by rw [show beq ae 0=false from vX h2];rfl)
  ·exact qC (by rw [show beq we 0=false from vX h1];rfl)
theorem qc0 {s:Si} {n:Nat} (hs:okS n s) (hn:n≤900000) (q:jT):kU (s.t,q,())=some ((kP s q).t,()):=by
 unfold kU kP
 dsimp only
 rw [show s.t.1.2.2.2.2.2.2.2.2.2.2.2.2.1=s.e.stan from rfl,qvR]
 refine (qF rfl).trans ?_
 dsimp only
 rw [qbP]
 have hok:=ql8 hs q
 have hset:=qtH hok hn 0 (wrN (q.1,q.2.1,yJ s.e.stan,q.2.2.2)).1
 have hsend:=qjJ hok hn (wrN (q.1,q.2.1,yJ s.e.stan,q.2.2.2)).1
 unfold qqA at hset hsend ⊢
 generalize wrN (q.1,q.2.1,yJ s.e.stan,q.2.2.2)=w at hset hsend ⊢
 obtain ⟨b,we,⟨⟩⟩:=w
 refine (qF rfl).trans ?_
 dsimp only at hset hsend ⊢
 by_cases h1:we=0
 ·refine (qB (bq_f h1)).trans ?_
  rw [qtL]
  generalize qnE q.2.1 (yJ s.e.stan) b=a at hset hsend ⊢
  obtain ⟨a,ae,⟨⟩⟩:=a
  refine (qF rfl).trans ?_
  dsimp only at hset hsend ⊢
  by_cases h2:ae=0
  ·rw [if_pos ⟨h1,h2⟩]
   refine (qB (bq_f h2)).trans ?_
   by_cases hc:q.2.1=1
   ·rw [if_pos hc]
    refine (qC (by simp only [go_sem,Int.reduceToNat];exact hc)).trans ?_
    exact (zZ hset).trans rfl
   ·rw [if_neg hc]
    refine (qB (by simp only [go_sem,Int.reduceToNat];exact hc)).trans ?_
    exact (zZ hsend).trans rfl
  ·rw [if_neg (fun h=>h2 h.2)]
   exact qC (bq_t h2)
 ·rw [if_neg (fun h=>h1 h.1)]
  exact qC (bq_t h1)
def qfA (c:Int):jT:=(true,c,0,0,0,[],[],0,())
theorem qa5 {s:Si} {n:Nat} (hs:okS n s) (hn:n≤900000) (c:Int):qcU (s.t,c,())=some ((kP s (qfA c)).t,()):=by
 unfold qcU
 exact (zZ (qd3 hs hn (qfA c))).trans rfl
theorem qcY {s:Si} {n:Nat} (hs:okS n s) (hn:n≤900000) (c:Int):qcF (s.t,c,())=some ((kP s (qfA c)).t,()):=by
 unfold qcF
 exact (zZ (qc0 hs hn (qfA c))).trans rfl
theorem qH6 {r:qiA} (h:qoQ r):qoQ (qRq r):=by
 rcases h with rfl | ⟨h1,h2,h3,h4,h5,h6⟩
 ·exact .inl rfl
 ·refine .inr ⟨h1,h2,h3, ?_,h5, .inl rfl⟩
  have:=h1.1
  show (0:Int)≤r.2.2.2.2.1
  omega
end Yp
namespace Yp
open Go
set_option maxRecDepth 100000
set_option maxHeartbeats 2000000
def qcX (n:jT) (res:Int):BB:=(wrN (ansN n res).1).1
theorem qiE (n:jT) (res:Int):qcZ (n,res,())=some (qcX n res,()):=by
 unfold qcZ
 dsimp only
 rw [qq3]
 refine (qF rfl).trans ?_
 rw [qbP];rfl
theorem qtC (s:Si):qaF (s.t,())=some ((w9 s 3).t,()):=by
 unfold qaF
 exact (zZ (qBU s)).trans rfl
theorem qKL (s:Si):(ob (qaF (s.t,())) fun (a:kC×Unit)=>(some (a.1,()):Option (kC×Unit)))=some ((w9 s 3).t,()):=(zZ (qtC s)).trans rfl
instance (a:TAsk) (c s:Int):Decidable (qm5 a c s):=by unfold qm5;infer_instance
end Yp
namespace Yp
open Go
set_option maxRecDepth 100000
set_option maxHeartbeats 2000000
theorem qFn (x:UInt64):n64 x=(x.toNat:Int):=rfl
theorem qJW {k:Nat} (h:k≤63):2 ^ k≤9223372036854775808:=by
 have:=Nat.pow_le_pow_right (show 0 < 2 by omega) h
 have e:2 ^ 63=9223372036854775808:=by decide
 omega
theorem qtO (k:Nat) (hk:k≤63):qdA ((k:Int),())=some (u64 ((2 ^ k:Nat):Int),()):=by
 unfold qdA
 dsimp only
 generalize hf:(fun (x_1:UInt64×Int×Unit)=>(_:Option (LS (UInt64×Int×Unit) (UInt64×Unit))))=f
 have step:∀ i:Nat,i < k→f (u64 ((2 ^ i:Nat):Int),(i:Int),())=some (.nx (u64 ((2 ^ (i+1):Nat):Int),((i+1:Nat):Int),())):=by
  intro i hi
  subst hf
  have hi':i64 (iadd (i:Int) 1)=((i+1:Nat):Int):=i64n (by show (i:Int)+1=_;omega) (by omega)
  have hp:=qJW (k:=i) (by omega)
  have e:imul (n64 (u64 2)) (n64 (u64 ((2 ^ i:Nat):Int)))=((2 ^ (i+1):Nat):Int):=by
   rw [Nat.pow_succ]
   generalize 2 ^ i=m at hp
   rw [qj7 (by decide),qj7 (by omega)]
   show (2:Int)*(m:Int)=_
   omega
  refine (qC (by simp only [go_sem,Int.reduceToNat];omega)).trans ?_
  dsimp only
  rw [hi',e]
 have hend:∀ u,f (u,(k:Int),())=some (.ex 0 (u,(k:Int),())):=by subst hf;intro u;exact qB (by simp only [go_sem,Int.reduceToNat];omega)
 have hloop:=(qN (f:=f) (fun i=>(u64 ((2 ^ i:Nat):Int),(i:Int),())) k step 0 (Nat.zero_le _)).trans (qV (hend _))
 refine (zC (show loop f (u64 1,0,())=_ from hloop)).trans ?_
 exact qH g62
def bitW (w:WT) (p:Nat):Bool:=(nth w.2.1 (p / 64) (u64 0)).toNat / 2 ^ (p % 64) % 2 == 1
theorem qeS (w:WT) (hw:w.2.1.length=16) (p:Nat) (hp:p < 1024):qbE (w,(p:Int),())=some (bitW w p,()):=by
 unfold qbE bitW
 dsimp only
 have e1:i64 (idiv (p:Int) 64)=((p / 64:Nat):Int):=by rw [g31 (by omega)];exact i64n (by omega) (by omega)
 have e2:imod (p:Int) 64=((p % 64:Nat):Int):=by rw [g32 (by omega)];omega
 rw [e1,e2]
 refine (qH (by simp only [go_sem,Int.reduceToNat];omega)).trans ?_
 rw [qtO _ (by omega)]
 refine (qF rfl).trans ?_
 have hq:=qJW (k:=p % 64) (by omega)
 have hq0:0 < 2 ^ (p % 64):=Nat.pow_pos (by omega)
 generalize 2 ^ (p % 64)=m at hq hq0 ⊢
 have e3:n64 (u64 (m:Int))=(m:Int):=qj7 (by omega)
 dsimp only
 rw [e3]
 refine (qH (by simp only [go_sem,Int.reduceToNat];omega)).trans ?_
 rw [qP]
 generalize nth w.2.1 (p / 64) (u64 0)=x
 have hx:=x.toNat_lt
 have e4:idiv (n64 x) (m:Int)=((x.toNat / m:Nat):Int):=by
  rw [g31 (by rw [qFn];omega),qFn,Int.natCast_ediv]
 have hle:x.toNat / m≤x.toNat:=Nat.div_le_self _ _
 rw [e4]
 generalize x.toNat / m=q at hle ⊢
 rw [show n64 (u64 (q:Int))=(q:Int) from qj7 (by omega),show n64 (u64 2)=2 from qj7 (by decide),show imod (q:Int) 2=((q % 2:Nat):Int) by rw [g32 (by omega)];omega,
  show n64 (u64 ((q % 2:Nat):Int))=((q % 2:Nat):Int) from qj7 (by omega),show n64 (u64 1)=1 from qj7 (by decide)]
 congr 2
 unfold beq
 rw [Bool.eq_iff_iff,beq_iff_eq,beq_iff_eq]
 omega
def qMl (w:WT):Prop:=(0≤w.1∧w.1≤4611686018427387905)∧(∀ p∈(List.range 1024).drop w.1.toNat,bitW w p=false)∧(w.1=0∨bitW w ((w.1 - 1) % 1024).toNat=true)
theorem qtP (w:WT) (hw:w.2.1.length=16):qg1 (w,())=some (D (qMl w),()):=by
 unfold qg1 qMl
 dsimp only
 by_cases h0:0≤w.1∧w.1≤4611686018427387905
 ·refine (qF (a:=(false,())) (by simp only [go_sem,Int.reduceToNat];try exact qiZ (by omega))).trans ((qB rfl).trans ?_)
  generalize hf:(fun (x_1:Bool×Int×Unit)=>(_:Option (LS (Bool×Int×Unit) (Bool×Unit))))=f
  have hlen:((List.range 1024).drop w.1.toNat).length=1024 - w.1.toNat:=by rw [List.length_drop,List.length_range]
  have hT:w.1=(w.1.toNat:Int):=by omega
  generalize w.1.toNat=T at hT hlen
  have hget:∀ i (h:i < ((List.range 1024).drop T).length),((List.range 1024).drop T)[i]=T+i:=fun i h=>by rw [List.getElem_drop,List.getElem_range]
  have fin:(ck (neb 0 0) (ob (sel (beq w.1 0) (some (true,())) (ob (qbE (w,imod (i64 (isub w.1 1)) 1024,())) fun (a:Bool×Unit)=>some (a.1,()))) fun (a:Bool×Unit)=>some (a.1,())):Option (Bool×Unit))=some (D (w.1=0∨bitW w ((w.1 - 1) % 1024).toNat=true),()):=by
   refine (qH g62).trans ?_
   by_cases hz:w.1=0
   ·rw [D_t (.inl hz),hz];rfl
   ·have e:imod (i64 (isub w.1 1)) 1024=((((w.1 - 1) % 1024).toNat:Nat):Int):=by
     rw [show i64 (isub w.1 1)=w.1 - 1 from zX (by show -9223372036854775808≤w.1 - 1;omega) (by show w.1 - 1≤9223372036854775807;omega),g32 (by omega)];omega
    refine (zZ ((qB (vX hz)).trans (by rw [e,qeS w hw _ (by omega)]))).trans ?_
    refine (qF rfl).trans ?_
    cases hb:bitW w ((w.1 - 1) % 1024).toNat
    ·rw [D_f (fun h=>h.elim hz (by simp))]
    ·rw [D_t (.inr rfl)]
  have key:=qeC (f:=f) ((List.range 1024).drop T) (fun i=>(false,((T+i:Nat):Int),())) 0 ((false,()):Bool×Unit) (fun p=>bitW w p=false) (fun i h hp => ?_) (fun i h hp => ?_) ?_
  ·rcases key with ⟨h,hl⟩ | ⟨h,hl⟩
   ·rw [Nat.add_zero,← hT] at hl
    refine (zC hl).trans ?_
    refine fin.trans (zW ?_)
    exact ⟨fun h'=>⟨h0,h,h'⟩,fun h'=>h'.2.2⟩
   ·rw [Nat.add_zero,← hT] at hl
    refine (zC hl).trans ?_
    rw [D_f (fun h'=>h h'.2.1)];rfl
  ·subst hf
   have hi':i64 (iadd ((T+i:Nat):Int) 1)=((T+(i+1):Nat):Int):=i64n (by show ((T+i:Nat):Int)+1=_;omega) (by omega)
   rw [hget i h] at hp
   refine (qC (by simp only [go_sem,Int.reduceToNat];omega)).trans ?_
   dsimp only
   rw [qeS w hw _ (by omega),hp,hi'];rfl
  ·subst hf
   rw [hget i h,Bool.not_eq_false] at hp
   refine (qC (by simp only [go_sem,Int.reduceToNat];omega)).trans ?_
   dsimp only
   rw [qeS w hw _ (by omega),hp];rfl
  ·subst hf
   refine qB ?_
   show lt ((T+((List.range 1024).drop T).length:Nat):Int) 1024=false
   rw [List.length_drop,List.length_range]
   exact lt_f (by omega)
 ·rw [D_f (fun h=>h0 h.1)]
  refine (qF (a:=(true,())) (by simp only [go_sem,Int.reduceToNat];try exact qi0 (by omega))).trans ?_
  rfl
end Yp
namespace Yp
open Go
set_option maxRecDepth 100000
set_option maxHeartbeats 2000000
abbrev FT:=BB×Int×Int×Unit
def noF:FT:=([],0,0,())
def qO3 (f:FT):Int:=256*n8 (nth f.1 0 (u8 0))+n8 (nth f.1 1 (u8 0))
def qvL (f:FT):Prop:=¬ (f.2.1 < 0∨65535 < f.2.1∨0 < f.2.1∧0 < f.1.length)∧(f.1.length < 2∨1≤qO3 f∧qO3 f≤1024∧(f.1.length:Int) < qO3 f+2)
theorem qAm (c:UInt8):0≤n8 c∧n8 c < 256:=by have:=c.toNat_lt;unfold n8;omega
theorem qiJ (f:FT):qg3 (f,())=some (D (qvL f),()):=by
 unfold qg3 qvL qO3
 dsimp only
 by_cases h1:f.2.1 < 0∨65535 < f.2.1∨0 < f.2.1∧0 < f.1.length
 ·rw [D_f (fun h=>h.1 h1)]
  refine (qF (a:=(true,())) (by simp only [go_sem,Int.reduceToNat];try exact qi0 (by omega))).trans ?_
  rfl
 ·refine (qF (a:=(false,())) (by simp only [go_sem,Int.reduceToNat];try exact qiZ (by omega))).trans ((qB rfl).trans ?_)
  by_cases h2:f.1.length < 2
  ·rw [D_t ⟨h1, .inl h2⟩]
   exact qC (by simp only [go_sem,Int.reduceToNat];omega)
  ·refine (qB (by simp only [go_sem,Int.reduceToNat];omega)).trans ?_
   refine (qH (by simp only [go_sem,Int.reduceToNat];omega)).trans ?_
   refine (qH (by simp only [go_sem,Int.reduceToNat];omega)).trans ?_
   rw [show nat 0=0 from rfl,show nat 1=1 from rfl]
   have hx:=qAm (nth f.1 0 (u8 0))
   have hy:=qAm (nth f.1 1 (u8 0))
   generalize n8 (nth f.1 0 (u8 0))=x at hx
   generalize n8 (nth f.1 1 (u8 0))=y at hy
   have e:i64 (iadd (i64 (imul 256 (i64 x))) (i64 y))=256*x+y:=by
    rw [show i64 x=x from zX (by omega) (by omega),show i64 y=y from zX (by omega) (by omega),show i64 (imul 256 x)=256*x from zX (by show -9223372036854775808≤256*x;omega) (by show 256*x≤9223372036854775807;omega)]
    exact zX (by show -9223372036854775808≤256*x+y;omega) (by show 256*x+y≤9223372036854775807;omega)
   rw [e,show i64 (iadd (256*x+y) 2)=256*x+y+2 from zX (by show -9223372036854775808≤256*x+y+2;omega) (by show 256*x+y+2≤9223372036854775807;omega)]
   simp only [go_sem,Int.reduceToNat]
   refine zW ⟨fun h=>⟨h1, .inr (by omega)⟩,fun h=>by have:=h.2;omega⟩
theorem qdB (a b:FT):qaN (a,b,())=some (D (a=b),()):=by
 obtain ⟨x,y,z,⟨⟩⟩:=a
 obtain ⟨x',y',z',⟨⟩⟩:=b
 unfold qaN
 simp only [go_sem,Int.reduceToNat,qX]
 refine zW ?_
 simp only [Prod.mk.injEq,and_true,and_assoc]
def qMo (h:THub):Prop:=(∀ c∈List.range 4,qvL (nth h.2.1 c noF)∧(nth h.1 c false=true∨nth h.2.1 c noF=noF))∧0≤h.2.2.2.1∧h.2.2.2.1 < 4
theorem qtQ (h:THub):qg2 (h,())=some (D (qMo h),()):=by
 unfold qg2 qMo
 dsimp only
 generalize hf:(fun (x_1:Bool×Int×Unit)=>(_:Option (LS (Bool×Int×Unit) (Bool×Unit))))=f
 have hget:∀ i (hi:i < (List.range 4).length),(List.range 4)[i]=i:=fun i hi=>List.getElem_range _
 have key:=qeC (f:=f) (List.range 4) (fun i=>(false,(i:Int),())) 0 ((false,()):Bool×Unit) (fun c=>qvL (nth h.2.1 c noF)∧(nth h.1 c false=true∨nth h.2.1 c noF=noF)) (fun i hi hp => ?_) (fun i hi hp => ?_) ?_
 ·rcases key with ⟨hk,hl⟩ | ⟨hk,hl⟩
  ·refine (zC (show loop f (false,0,())=_ from hl)).trans ?_
   refine (qH g62).trans ?_
   simp only [go_sem,Int.reduceToNat]
   exact zW ⟨fun h'=>⟨hk,h'⟩,fun h'=>h'.2⟩
  ·refine (zC (show loop f (false,0,())=_ from hl)).trans ?_
   rw [D_f (fun h'=>hk h'.1)];rfl
 ·subst hf
  rw [hget i hi] at hp
  have hi4:i < 4:=by simpa using hi
  have hi':i64 (iadd (i:Int) 1)=((i+1:Nat):Int):=i64n (by show (i:Int)+1=_;omega) (by omega)
  refine (qC (by simp only [go_sem,Int.reduceToNat];omega)).trans ?_
  dsimp only
  rw [hi',qP]
  refine (qH (by simp only [go_sem,Int.reduceToNat];omega)).trans ?_
  rw [show nth h.2.1 i (none' UInt8,0,0,())=nth h.2.1 i noF from rfl,qiJ,D_t hp.1]
  refine (qF rfl).trans ?_
  refine (qH (by simp only [go_sem,Int.reduceToNat];omega)).trans ?_
  rw [show qaN (nth h.2.1 i noF,(none' UInt8,0,0,()),())=_ from qdB _ noF]
  refine (qF rfl).trans ?_
  refine (qF (a:=(false,())) ((qB rfl).trans ((qH (by simp only [go_sem,Int.reduceToNat];omega)).trans ?_))).trans rfl
  rcases hp.2 with h1 | h1
  ·rw [h1];rfl
  ·rw [D_t h1];cases nth h.1 i false <;> rfl
 ·subst hf
  rw [hget i hi] at hp
  have hi4:i < 4:=by simpa using hi
  refine (qC (by simp only [go_sem,Int.reduceToNat];omega)).trans ?_
  dsimp only
  rw [qP]
  refine (qH (by simp only [go_sem,Int.reduceToNat];omega)).trans ?_
  rw [show nth h.2.1 i (none' UInt8,0,0,())=nth h.2.1 i noF from rfl,qiJ]
  refine (qF rfl).trans ?_
  refine (qH (by simp only [go_sem,Int.reduceToNat];omega)).trans ?_
  rw [show qaN (nth h.2.1 i noF,(none' UInt8,0,0,()),())=_ from qdB _ noF]
  refine (qF rfl).trans ?_
  by_cases h1:qvL (nth h.2.1 i noF)
  ·rw [D_t h1]
   refine (qF (a:=(true,())) ((qB rfl).trans ((qH (by simp only [go_sem,Int.reduceToNat];omega)).trans ?_))).trans rfl
   have h2:¬ (nth h.1 i false=true∨nth h.2.1 i noF=noF):=fun h2=>hp ⟨h1,h2⟩
   simp only [not_or,Bool.not_eq_true] at h2
   rw [h2.1,D_f h2.2];rfl
  ·rw [D_f h1];rfl
 ·subst hf;exact qB rfl
def fewH (h:THub):Prop:=(nth h.2.1 0 noF).1.length≤1200∧(nth h.2.1 1 noF).1.length≤1200∧(nth h.2.1 2 noF).1.length≤1200∧(nth h.2.1 3 noF).1.length≤1200
theorem qy2 (h:THub):qoY (h,())=some (D (fewH h),()):=by
 unfold qoY fewH
 rw [show (none' UInt8,0,0,())=noF from rfl]
 refine (qH rfl).trans ?_
 dsimp only
 rw [show nat 0=0 from rfl,show nat 1=1 from rfl,show nat 2=2 from rfl,show nat 3=3 from rfl]
 rw [qH (show inB 1 (ofn 4)=true from rfl),qH (show inB 2 (ofn 4)=true from rfl),qH (show inB 3 (ofn 4)=true from rfl)]
 simp only [go_sem,Int.reduceToNat]
 exact zW (by omega)
theorem qCd (h:THub) (h1:h.1.length=4) (h2:h.2.1.length=4) (h3:h.2.2.1.length=4):qlV (h,h,())=some (true,()):=by
 unfold qlV
 dsimp only
 generalize hf:(fun (x_1:Bool×Int×Unit)=>(_:Option (LS (Bool×Int×Unit) (Bool×Unit))))=f
 have step:∀ i:Nat,i < 4→f (false,(i:Int),())=some (.nx (false,((i+1:Nat):Int),())):=by
  intro i hi
  subst hf
  have hi':i64 (iadd (i:Int) 1)=((i+1:Nat):Int):=i64n (by show (i:Int)+1=_;omega) (by omega)
  refine (qC (by simp (disch:=omega) only [go_sem,Int.reduceToNat];omega)).trans ?_
  dsimp only
  rw [hi']
  simp (disch:=omega) only [go_sem,Int.reduceToNat,qdB]
 have hend:f (false,((4:Nat):Int),())=some (.ex 0 (false,((4:Nat):Int),())):=by subst hf;exact qB rfl
 have hloop:=(qN (f:=f) (fun i=>(false,(i:Int),())) 4 step 0 (Nat.zero_le _)).trans (qV hend)
 refine (zC (show loop f (false,0,())=_ from hloop)).trans ?_
 refine (qH g62).trans ?_
 simp (disch:=omega) only [go_sem,Int.reduceToNat]
def qMm (e:En'):Prop:=e.queue.length≤8∧(e.queue=[]∨qpJ e.ph)∧∀ b∈e.queue,qdQ b
theorem qtG (e:En'):qgU (e.t,())=some (D (qMm e),()):=by
 unfold qgU qMm
 dsimp only [En'.t]
 have hq0:(e.queue=[])↔e.queue.length=0:=List.length_eq_zero_iff.symm
 by_cases h1:e.queue.length≤8∧(e.queue=[]∨qpJ e.ph)
 ·refine (qF (a:=(false,())) ?_).trans ((qB rfl).trans ?_)
  ·refine (qB (by simp (disch:=first | assumption | omega | (dsimp only;omega) | decide) only [go_sem,Int.reduceToNat];omega)).trans ?_
   by_cases h2:e.queue.length=0
   ·exact qB (by simp (disch:=first | assumption | omega | (dsimp only;omega) | decide) only [go_sem,Int.reduceToNat];omega)
   ·refine (qC (by simp (disch:=first | assumption | omega | (dsimp only;omega) | decide) only [go_sem,Int.reduceToNat];omega)).trans ?_
    rw [qc5,D_t (h1.2.resolve_left (fun h=>h2 (hq0.1 h)))];rfl
  generalize hf:(fun (x_1:Bool×Int×Unit)=>(_:Option (LS (Bool×Int×Unit) (Bool×Unit))))=f
  have key:=qeC (f:=f) e.queue (fun i=>(false,(i:Int),())) 0 ((false,()):Bool×Unit) qdQ (fun i hi hp => ?_) (fun i hi hp => ?_) ?_
  ·rcases key with ⟨hk,hl⟩ | ⟨hk,hl⟩
   ·refine (zC (show loop f (false,0,())=_ from hl)).trans ?_
    refine (qH g62).trans ?_
    rw [D_t ⟨h1.1,h1.2,hk⟩]
   ·refine (zC (show loop f (false,0,())=_ from hl)).trans ?_
    rw [D_f (fun h'=>hk h'.2.2)];rfl
  ·subst hf
   have hi':i64 (iadd (i:Int) 1)=((i+1:Nat):Int):=i64n (by show (i:Int)+1=_;omega) (by omega)
   refine (qC (by simp (disch:=omega) only [go_sem,Int.reduceToNat];omega)).trans ?_
   refine (qH (by simp (disch:=omega) only [go_sem,Int.reduceToNat];omega)).trans ?_
   dsimp only
   rw [hi',qP,qL hi]
   have q1:=hp.1
   have q2:=hp.2
   simp (disch:=omega) only [go_sem,Int.reduceToNat]
  ·subst hf
   refine (qC (by simp (disch:=omega) only [go_sem,Int.reduceToNat];omega)).trans ?_
   refine (qH (by simp (disch:=omega) only [go_sem,Int.reduceToNat];omega)).trans ?_
   dsimp only
   rw [qP,qL hi]
   unfold qdQ at hp
   by_cases q1:e.queue[i].length < 1
   ·simp (disch:=omega) only [go_sem,Int.reduceToNat]
   ·simp (disch:=omega) only [go_sem,Int.reduceToNat]
  ·subst hf
   exact qB (by simp (disch:=omega) only [go_sem,Int.reduceToNat];omega)
 ·rw [D_f (fun h=>h1 ⟨h.1,h.2.1⟩)]
  refine (qF (a:=(true,())) ?_).trans rfl
  by_cases h2:e.queue.length≤8
  ·have h3:¬ (e.queue=[]∨qpJ e.ph):=fun h3=>h1 ⟨h2,h3⟩
   simp only [not_or] at h3
   have h4:¬ e.queue.length=0:=fun h=>h3.1 (hq0.2 h)
   refine (qB (by simp (disch:=omega) only [go_sem,Int.reduceToNat];omega)).trans ((qC (by simp (disch:=omega) only [go_sem,Int.reduceToNat];omega)).trans ?_)
   rw [qc5,D_f h3.2];rfl
  ·exact qC (by simp (disch:=omega) only [go_sem,Int.reduceToNat];omega)
end Yp
namespace Yp
open Go
set_option maxRecDepth 100000
set_option maxHeartbeats 2000000
theorem qQu {a b:UInt64}:n64 a=n64 b↔a=b:=by
 constructor
 ·intro h
  unfold n64 at h
  exact UInt64.toNat_inj.1 (by omega)
 ·rintro rfl;rfl
theorem qN6:∀ {l m:List UInt64},l.length=m.length→(all2 (fun (p q:UInt64)=>beq (n64 p) (n64 q)) l m=true↔l=m)
 | [],[],_=>by simp [all2]
 | a :: l,b :: m,h=>by
  have ih:=qN6 (l:=l) (m:=m) (by simpa using h)
  unfold all2 at ih ⊢
  rw [List.zip_cons_cons,List.all_cons,Bool.and_eq_true,ih]
  unfold beq
  rw [beq_iff_eq,qQu,List.cons.injEq]
 | [],_ :: _,h=>by simp at h
 | _ :: _,[],h=>by simp at h
def qRe (e:En'):Prop:=e.oth=0∧e.seq=0∧e.win=noW∧e.ring=noR
theorem qvP (e:En') (hw:e.win.2.1.length=16):qlO (e.t,())=some (D (qRe e),()):=by
 unfold qlO qRe
 dsimp only [En'.t]
 rw [qbS]
 refine (qF rfl).trans ?_
 have hwin:band (beq e.win.1 0) (band (all2 (fun (p q:UInt64)=>beq (n64 p) (n64 q)) e.win.2.1 [u64 0,u64 0,u64 0,u64 0,u64 0,u64 0,u64 0,u64 0,u64 0,u64 0,u64 0,u64 0,u64 0,u64 0,u64 0,u64 0]) true)=D (e.win=noW):=by
  refine qlB ?_
  generalize e.win=w at hw ⊢
  obtain ⟨t,b,⟨⟩⟩:=w
  unfold noW
  dsimp only at hw ⊢
  unfold band
  rw [Bool.and_true,Bool.and_eq_true,qN6 (by rw [hw];rfl)]
  unfold beq
  rw [beq_iff_eq]
  simp only [Prod.mk.injEq,and_true]
 dsimp only
 rw [hwin]
 simp only [go_sem,Int.reduceToNat]
 refine zW ?_
 simp only [and_assoc]
def qO9 (p:Int):Int:=nth [0,1,0,0,101,201,2,0,0] p.toNat 0
def qQD (e:En'):Prop:=(e.ask.1=qO9 e.ph∨e.ph=3∧e.ask.1=301)∧(jC e.ph∧0 < e.own∧0 < e.oth∧0 < e.ring.1.1∧(¬ e.ph=4∨0 < e.ring.2.2.1.1)∨¬ jC e.ph∧qRe e∧(0 < e.own↔e.ph=1))
theorem qq0 (e:En') (hw:e.win.2.1.length=16) (hp:0≤e.ph∧e.ph≤8):qd5 (e.t,())=some (D (qQD e),()):=by
 unfold qd5 qQD qq1
 rw [show (e.t,()).1.2.2.1=e.ph from rfl]
 dsimp only
 rw [qH (show inB e.ph (len [0,1,0,0,101,201,2,0,0])=true by simp only [go_sem,Int.reduceToNat];simp;omega)]
 refine (qF rfl).trans ?_
 rw [show nth [0,1,0,0,101,201,2,0,0] (nat e.ph) 0=qO9 e.ph from rfl,show e.t.2.2.2.2.2.2.2.2.2.2.2.1.1=e.ask.1 from rfl,show e.t.2.2.2.2.2.1=e.own from rfl,show e.t.2.2.2.2.2.2.1=e.oth from rfl,show e.t.2.2.2.2.2.2.2.2.2.2.1=e.ring from rfl]
 by_cases h1:e.ask.1=qO9 e.ph∨e.ph=3∧e.ask.1=301
 ·refine (qF (a:=(false,())) ?_).trans ((qB rfl).trans ?_)
  ·rcases h1 with h1 | ⟨h1,h2⟩
   ·exact qB (bq_f h1)
   ·by_cases h3:e.ask.1=qO9 e.ph
    ·exact qB (bq_f h3)
    ·refine (qC (bq_t h3)).trans ((qB (bq_f h1)).trans ?_)
     rw [bq_f h2]
  rw [qvP e hw]
  refine (qF rfl).trans ?_
  rw [kF]
  refine (qF rfl).trans ?_
  by_cases hl:jC e.ph
  ·rw [D_t hl]
   refine (qC rfl).trans ?_
   simp only [go_sem,Int.reduceToNat]
   refine zW ?_
   simp only [h1,hl,true_and,not_true_eq_false,false_and,or_false,and_assoc]
  ·rw [D_f hl]
   refine (qB rfl).trans ?_
   simp only [go_sem,Int.reduceToNat]
   refine zW ?_
   simp only [h1,hl,true_and,not_false_eq_true,false_and,false_or]
 ·rw [D_f (fun h=>h1 h.1)]
  simp only [not_or,not_and] at h1
  refine (qF (a:=(true,())) ((qC (bq_t h1.1)).trans ?_)).trans rfl
  by_cases h3:e.ph=3
  ·refine (qB (bq_f h3)).trans ?_
   rw [bq_t (h1.2 h3)]
  ·exact qC (bq_t h3)
structure qPn (e:En'):Prop where
 id:0≤e.id∧e.id≤1
 key:e.key.length=32
 ph:0≤e.ph∧e.ph≤8
 stan:0≤e.stan∧e.stan≤999999
 day:0≤e.day∧e.day≤999999
 own:zN e.own
 oth:zN e.oth
 seen:zN e.seen
 seq:zN e.seq
 store:jR e.store
 win:qMl e.win
 ring:qoQ e.ring
 ask:qMq e.ask
 hub:qMo e.hub
 queue:qMm e
 link:qQD e
theorem qSY (a b c d f g h i j k l:Prop):(sel (D a) (sel (D b) (sel (D c) (sel (D d) (sel (D f) (sel (D g) (sel (D h) (sel (D i) (sel (D j) (sel (D k) (some (D l,())) (some (false,()))) (some (false,()))) (some (false,()))) (some (false,()))) (some (false,()))) (some (false,()))) (some (false,()))) (some (false,()))) (some (false,()))) (some (false,())):Option (Bool×Unit)) =
  some (D (a∧b∧c∧d∧f∧g∧h∧i∧j∧k∧l),()):=by
 simp only [go_sem,Int.reduceToNat]
 try (refine zW ?_;simp only [and_assoc])
theorem qtI (e:En') (hw:e.win.2.1.length=16):qc1 (e.t,())=some (D (qPn e),()):=by
 unfold qc1
 dsimp only
 rw [show e.t.1=e.id from rfl,show e.t.2.1=e.key from rfl,show e.t.2.2.1=e.ph from rfl,show e.t.2.2.2.2.2.2.2.2.2.2.2.2.1=e.stan from rfl,show e.t.2.2.2.2.2.2.2.2.2.2.2.2.2.1=e.day from rfl,show e.t.2.2.2.2.2.1=e.own from rfl,show e.t.2.2.2.2.2.2.1=e.oth from rfl,show e.t.2.2.2.2.2.2.2.1=e.seen from rfl,
  show e.t.2.2.2.2.2.2.2.2.1=e.seq from rfl,show e.t.2.2.2.1=e.store from rfl,show e.t.2.2.2.2.2.2.2.2.2.1=e.win from rfl,show e.t.2.2.2.2.2.2.2.2.2.2.1=e.ring from rfl,show e.t.2.2.2.2.2.2.2.2.2.2.2.1=e.ask from rfl,show e.t.2.2.2.2.2.2.2.2.2.2.2.2.2.2.2.1=e.hub from rfl]
 by_cases h:(0≤e.id∧e.id≤1)∧e.key.length=32∧(0≤e.ph∧e.ph≤8)∧(0≤e.stan∧e.stan≤999999)∧(0≤e.day∧e.day≤999999)
 ·obtain ⟨a1,a2,a3,a4,a5⟩:=h
  refine (qF (a:=(false,())) (by simp only [go_sem,Int.reduceToNat];try exact qiZ (by omega))).trans ((qB rfl).trans ?_)
  rw [xN]
  refine (qF rfl).trans ?_
  rw [xN]
  refine (qF rfl).trans ?_
  rw [xN]
  refine (qF rfl).trans ?_
  rw [xN]
  refine (qF rfl).trans ?_
  rw [qR]
  refine (qF rfl).trans ?_
  rw [qtP _ hw]
  refine (qF rfl).trans ?_
  rw [qtN]
  refine (qF rfl).trans ?_
  rw [qtJ]
  refine (qF rfl).trans ?_
  rw [qtQ]
  refine (qF rfl).trans ?_
  rw [qtG]
  refine (qF rfl).trans ?_
  dsimp only
  rw [qq0 e hw a3]
  refine (zZ (qSY _ _ _ _ _ _ _ _ _ _ _)).trans ?_
  refine (qF rfl).trans ?_
  refine zW ?_
  constructor
  ·rintro ⟨b1,b2,b3,b4,b5,b6,b7,b8,b9,b10,b11⟩
   exact ⟨a1,a2,a3,a4,a5,b1,b2,b3,b4,b5,b6,b7,b8,b9,b10,b11⟩
  ·rintro ⟨_,_,_,_,_,b1,b2,b3,b4,b5,b6,b7,b8,b9,b10,b11⟩
   exact ⟨b1,b2,b3,b4,b5,b6,b7,b8,b9,b10,b11⟩
 ·rw [D_f (fun r=>h ⟨r.id,r.key,r.ph,r.stan,r.day⟩)]
  refine (qF (a:=(true,())) (by simp only [go_sem,Int.reduceToNat];try exact qi0 (by omega))).trans ?_
  rfl
end Yp
namespace Yp
open Go
set_option maxRecDepth 100000
set_option maxHeartbeats 2000000
def qLc (acc:Int):List BB→Int
 | []=>acc
 | x :: r=>if 9000 - acc < (x.length:Int) then 9001 else qLc (acc+x.length) r
def qNb (q:List BB):Int:=if 9000 < (q.length:Int) then 9001 else qLc q.length q
theorem qwA (q:List BB):ql6 (q,9000,())=some (qNb q,()):=by
 unfold ql6 qNb
 dsimp only
 by_cases h0:9000 < (q.length:Int)
 ·rw [if_pos h0]
  exact (qC (lt_t h0)).trans rfl
 ·rw [if_neg h0]
  refine (qB (lt_f h0)).trans ?_
  generalize hf:(fun (x_1:Int×Int×Int×Unit)=>(_:Option (LS (Int×Int×Int×Unit) (Int×Unit))))=f
  have hl9:q.length≤9000:=by omega
  have key:∀ (n i:Nat) (acc:Int),q.length - i=n→i≤q.length→0≤acc→acc≤9000→(loop f (0,acc,(i:Int),())=some (.rt (9001,()))∧qLc acc (q.drop i)=9001)∨(loop f (0,acc,(i:Int),())=some (.ex 0 (0,qLc acc (q.drop i),(q.length:Int),()))):=by
   intro n
   induction n with
   | zero =>
    intro i acc hn hi ha hb
    have:i=q.length:=by omega
    subst this
    rw [List.drop_length]
    refine .inr (qV ?_)
    subst hf
    exact qB (by simp only [go_sem,Int.reduceToNat];omega)
   | succ n ih =>
    intro i acc hn hi ha hb
    have hil:i < q.length:=by omega
    have hi':i64 (iadd (i:Int) 1)=((i+1:Nat):Int):=i64n (by show (i:Int)+1=_;omega) (by omega)
    rw [List.drop_eq_getElem_cons hil]
    have e1:i64 (isub 9000 acc)=9000 - acc:=zX (by show -9223372036854775808≤9000 - acc;omega) (by show 9000 - acc≤9223372036854775807;omega)
    by_cases hx:9000 - acc < (q[i].length:Int)
    ·refine .inl ⟨qeY ?_,by rw [qLc,if_pos hx]⟩
     subst hf
     refine (qC (by simp only [go_sem,Int.reduceToNat];omega)).trans ((qH (by simp only [go_sem,Int.reduceToNat];omega)).trans ?_)
     dsimp only
     rw [e1,qP,qL hil]
     exact (qC (lt_t hx)).trans rfl
    ·have e2:i64 (iadd acc (len q[i]))=acc+(q[i].length:Int):=zX (by show -9223372036854775808≤acc+(q[i].length:Int);omega) (by show acc+(q[i].length:Int)≤9223372036854775807;omega)
     have hst:f (0,acc,(i:Int),())=some (.nx (0,acc+(q[i].length:Int),((i+1:Nat):Int),())):=by
      subst hf
      refine (qC (by simp only [go_sem,Int.reduceToNat];omega)).trans ((qH (by simp only [go_sem,Int.reduceToNat];omega)).trans ?_)
      dsimp only
      rw [e1,qP,qL hil,e2,hi']
      refine (qB (lt_f hx)).trans ?_
      exact qH (by simp only [go_sem,Int.reduceToNat];omega)
     rw [vW hst,qLc,if_neg hx]
     exact ih (i+1) _ (by omega) (by omega) (by omega) (by omega)
  rcases key q.length 0 q.length (by omega) (Nat.zero_le _) (by omega) (by omega) with ⟨h1,h2⟩ | h1
  ·rw [List.drop_zero] at h2
   rw [h2]
   exact (zC (show loop f (0,len q,0,())=_ from h1)).trans rfl
  ·rw [List.drop_zero] at h1
   refine (zC (show loop f (0,len q,0,())=_ from h1)).trans ?_
   exact qH g62
structure fewE (e:En'):Prop where
 store:e.store.1.length≤100∧e.store.2.1.length≤100
 ring:fewR e.ring
 hub:fewH e.hub
 key:e.key.length≤100
 ask:e.ask.2.2.2.2.1.length≤1000
 queue:qNb e.queue≤9000
 out:e.out.length≤20
 got:e.got.length≤40
 outs:∀ x∈e.out,x.2.1.length≤1100
 gots:∀ x∈e.got,x.2.2.2.1.length≤1000
theorem qyX (e:En'):qjM (e.t,())=some (D (fewE e),()):=by
 unfold qjM
 dsimp only
 rw [show e.t.2.2.2.1=e.store from rfl,show e.t.2.2.2.2.2.2.2.2.2.2.1=e.ring from rfl,show e.t.2.2.2.2.2.2.2.2.2.2.2.2.2.2.2.1=e.hub from rfl,show e.t.2.1=e.key from rfl,show e.t.2.2.2.2.2.2.2.2.2.2.2.1=e.ask from rfl,show e.t.2.2.2.2.2.2.2.2.2.2.2.2.2.2.1=e.queue from rfl,show e.t.2.2.2.2.2.2.2.2.2.2.2.2.2.2.2.2.1=e.out from rfl,show e.t.2.2.2.2.2.2.2.2.2.2.2.2.2.2.2.2.2.1=e.got from rfl]
 rw [qy0]
 refine (qF rfl).trans ?_
 rw [qy1]
 refine (qF rfl).trans ?_
 rw [qy2]
 refine (qF rfl).trans ?_
 dsimp only
 rw [qwA]
 by_cases h:(e.store.1.length≤100∧e.store.2.1.length≤100)∧fewR e.ring∧fewH e.hub∧e.key.length≤100∧e.ask.2.2.2.2.1.length≤1000∧qNb e.queue≤9000∧e.out.length≤20∧e.got.length≤40
 ·obtain ⟨a1,a2,a3,a4,a5,a6,a7,a8⟩:=h
  rw [D_t a1,D_t a2,D_t a3]
  refine (qF (a:=(false,())) (by simp only [go_sem,Int.reduceToNat];try exact qiZ (by omega))).trans ((qB rfl).trans ?_)
  generalize hf:(fun (x_1:Bool×Int×Unit)=>sel (lt x_1.2.1 (len e.out)) _ _)=f
  generalize hg:(fun (x_1:Bool×Int×Unit)=>(_:Option (LS (Bool×Int×Unit) (Bool×Unit))))=g
  have k1:=qeC (f:=f) e.out (fun i=>(false,(i:Int),())) 0 ((false,()):Bool×Unit) (fun x=>x.2.1.length≤1100) (fun i hi hp => ?_) (fun i hi hp => ?_) ?_
  ·have k2:=qeC (f:=g) e.got (fun i=>(false,(i:Int),())) 2 ((false,()):Bool×Unit) (fun x=>x.2.2.2.1.length≤1000) (fun i hi hp => ?_) (fun i hi hp => ?_) ?_
   ·rcases k1 with ⟨h1,hl1⟩ | ⟨h1,hl1⟩
    ·refine (zC (show loop f (false,0,())=_ from hl1)).trans ((qH g62).trans ?_)
     rcases k2 with ⟨h2,hl2⟩ | ⟨h2,hl2⟩
     ·refine (zC (show loop g (false,0,())=_ from hl2)).trans ((qH g62).trans ?_)
      rw [D_t ⟨a1,a2,a3,a4,a5,a6,a7,a8,h1,h2⟩]
     ·refine (zC (show loop g (false,0,())=_ from hl2)).trans ?_
      rw [D_f (fun r=>h2 r.gots)];rfl
    ·refine (zC (show loop f (false,0,())=_ from hl1)).trans ?_
     rw [D_f (fun r=>h1 r.outs)];rfl
   ·subst hg
    have hi':i64 (iadd (i:Int) 1)=((i+1:Nat):Int):=i64n (by show (i:Int)+1=_;omega) (by omega)
    refine (qC (by simp only [go_sem,Int.reduceToNat];omega)).trans ((qH (by simp only [go_sem,Int.reduceToNat];omega)).trans ?_)
    dsimp only
    rw [qP,qL hi,hi']
    exact qB (by simp only [go_sem,Int.reduceToNat];omega)
   ·subst hg
    refine (qC (by simp only [go_sem,Int.reduceToNat];omega)).trans ((qH (by simp only [go_sem,Int.reduceToNat];omega)).trans ?_)
    dsimp only
    rw [qP,qL hi]
    exact qC (by simp only [go_sem,Int.reduceToNat];omega)
   ·subst hg;exact qB (by simp only [go_sem,Int.reduceToNat];omega)
  ·subst hf
   have hi':i64 (iadd (i:Int) 1)=((i+1:Nat):Int):=i64n (by show (i:Int)+1=_;omega) (by omega)
   refine (qC (by simp only [go_sem,Int.reduceToNat];omega)).trans ((qH (by simp only [go_sem,Int.reduceToNat];omega)).trans ?_)
   dsimp only
   rw [qP,qL hi,hi']
   exact qB (by simp only [go_sem,Int.reduceToNat];omega)
  ·subst hf
   refine (qC (by simp only [go_sem,Int.reduceToNat];omega)).trans ((qH (by simp only [go_sem,Int.reduceToNat];omega)).trans ?_)
   dsimp only
   rw [qP,qL hi]
   exact qC (by simp only [go_sem,Int.reduceToNat];omega)
  ·subst hf;exact qB (by simp only [go_sem,Int.reduceToNat];omega)
 ·rw [D_f (p:=fewE e) (fun r=>h ⟨r.store,r.ring,r.hub,r.key,r.ask,r.queue,r.out,r.got⟩)]
  refine (qF (a:=(true,())) ?_).trans rfl
  by_cases c1:e.store.1.length≤100∧e.store.2.1.length≤100
  ·rw [D_t c1]
   by_cases c2:fewR e.ring
   ·rw [D_t c2]
    by_cases c3:fewH e.hub
    ·rw [D_t c3]
     have c4:¬ (e.key.length≤100∧e.ask.2.2.2.2.1.length≤1000∧qNb e.queue≤9000∧e.out.length≤20∧e.got.length≤40):=fun c4=>h ⟨c1,c2,c3,c4⟩
     simp only [go_sem,Int.reduceToNat]
     try exact qi0 (by omega)
    ·rw [D_f c3];rfl
   ·rw [D_f c2];rfl
  ·rw [D_f c1];rfl
structure mayS (s:Si):Prop where
 few:fewE s.e
 prov:fewP s.p 40
 right:qPn s.e
structure qDw (e:En'):Prop where
 win:e.win.2.1.length=16
 up:e.hub.1.length=4
 feed:e.hub.2.1.length=4
 life:e.hub.2.2.1.length=4
 cnt:e.cnt.length=4
theorem qmV (s:Si) (hw:qDw s.e):qjK (s.t,())=some (D (mayS s),()):=by
 unfold qjK
 dsimp only
 rw [show qjM (s.t.1,())=_ from qyX s.e]
 refine (qF rfl).trans ?_
 rw [show qjS (s.t.2.1,40,())=_ from qy4 s.p 40 (by decide)]
 refine (qF rfl).trans ?_
 rw [show qc1 (s.t.1,())=_ from qtI s.e hw.win]
 simp only [go_sem,Int.reduceToNat]
 exact zW ⟨fun h=>⟨h.1,h.2.1,h.2.2⟩,fun h=>⟨h.few,h.prov,h.right⟩⟩
theorem qMT {s:Si} (hw:qDw s.e) (h:mayS s):okS 50 s:=by
 have hr:=h.right
 have hf:=h.few
 refine ⟨⟨by have:=hr.id;omega,by have:=hr.key;omega,hr.ph,hr.store,hr.own,hr.oth,hr.seq,hr.ring,hw.up,⟨hr.hub.2.1,hr.hub.2.2⟩,by have:=hf.out;omega,by have:=hf.got;omega,hw.cnt,hw.win,hw.feed,hw.life,by have:=hr.queue.1;omega⟩, ?_⟩
 have:=h.prov.1
 omega
end Yp
namespace Yp
open Go
set_option maxRecDepth 100000
set_option maxHeartbeats 2000000
theorem wY (a:Int):beq a a=true:=kM rfl
theorem qlF (a:BB):seq a a=true:=qP0 rfl
theorem qMi (q:List BB) (hq:q.length≤1000000):ql5 (q,q,())=some (true,()):=by
 unfold ql5
 dsimp only
 rw [wY]
 refine (qB rfl).trans ?_
 generalize hf:(fun (x_1:Bool×Int×Unit)=>(_:Option (LS (Bool×Int×Unit) (Bool×Unit))))=f
 have step:∀ i:Nat,i < q.length→f (false,(i:Int),())=some (.nx (false,((i+1:Nat):Int),())):=by
  intro i hi
  subst hf
  have hi':i64 (iadd (i:Int) 1)=((i+1:Nat):Int):=i64n (by show (i:Int)+1=_;omega) (by omega)
  refine (qC (by simp only [go_sem,Int.reduceToNat];omega)).trans ((qH (by simp only [go_sem,Int.reduceToNat];omega)).trans ((qH (by simp only [go_sem,Int.reduceToNat];omega)).trans ?_))
  dsimp only
  rw [hi',qlF];rfl
 have hend:f (false,(q.length:Int),())=some (.ex 0 (false,(q.length:Int),())):=by subst hf;exact qB (by simp only [go_sem,Int.reduceToNat];omega)
 have hloop:=(qN (f:=f) (fun i=>(false,(i:Int),())) q.length step 0 (Nat.zero_le _)).trans (qV hend)
 exact (zC (show loop f (false,0,())=_ from hloop)).trans (qH g62)
theorem qL6 (q:List qPc) (hq:q.length≤1000000):qlN (q,q,())=some (true,()):=by
 unfold qlN
 dsimp only
 rw [wY]
 refine (qB rfl).trans ?_
 generalize hf:(fun (x_1:Bool×Int×Unit)=>(_:Option (LS (Bool×Int×Unit) (Bool×Unit))))=f
 have step:∀ i:Nat,i < q.length→f (false,(i:Int),())=some (.nx (false,((i+1:Nat):Int),())):=by
  intro i hi
  subst hf
  have hi':i64 (iadd (i:Int) 1)=((i+1:Nat):Int):=i64n (by show (i:Int)+1=_;omega) (by omega)
  have hc:inB (i:Int) (len q)=true:=by simp only [go_sem,Int.reduceToNat];omega
  refine (qC (by simp only [go_sem,Int.reduceToNat];omega)).trans ((qH hc).trans ((qH hc).trans ?_))
  dsimp only
  rw [hi',wY,hc]
  refine (qF (a:=(false,())) ((qB rfl).trans ((qH rfl).trans ((qH rfl).trans ?_)))).trans rfl
  rw [qX,qlF];rfl
 have hend:f (false,(q.length:Int),())=some (.ex 0 (false,(q.length:Int),())):=by subst hf;exact qB (by simp only [go_sem,Int.reduceToNat];omega)
 have hloop:=(qN (f:=f) (fun i=>(false,(i:Int),())) q.length step 0 (Nat.zero_le _)).trans (qV hend)
 exact (zC (show loop f (false,0,())=_ from hloop)).trans (qH g62)
theorem qID (q:List EvT) (hq:q.length≤1000000):qd6 (q,q,())=some (true,()):=by
 unfold qd6
 dsimp only
 rw [wY]
 refine (qB rfl).trans ?_
 generalize hf:(fun (x_1:Bool×Int×Unit)=>(_:Option (LS (Bool×Int×Unit) (Bool×Unit))))=f
 have step:∀ i:Nat,i < q.length→f (false,(i:Int),())=some (.nx (false,((i+1:Nat):Int),())):=by
  intro i hi
  subst hf
  have hi':i64 (iadd (i:Int) 1)=((i+1:Nat):Int):=i64n (by show (i:Int)+1=_;omega) (by omega)
  have hc:inB (i:Int) (len q)=true:=by simp only [go_sem,Int.reduceToNat];omega
  refine (qC (by simp only [go_sem,Int.reduceToNat];omega)).trans ((qH hc).trans ((qH hc).trans ?_))
  dsimp only
  rw [hi',hc]
  generalize nth q (nat (i:Int)) (0,[0,0],0,none' UInt8,())=e
  rw [wY,wY,wY,wY,qX,qlF]
  rfl
 have hend:f (false,(q.length:Int),())=some (.ex 0 (false,(q.length:Int),())):=by subst hf;exact qB (by simp only [go_sem,Int.reduceToNat];omega)
 have hloop:=(qN (f:=f) (fun i=>(false,(i:Int),())) q.length step 0 (Nat.zero_le _)).trans (qV hend)
 exact (zC (show loop f (false,0,())=_ from hloop)).trans (qH g62)
theorem qGQ:∀ l:List UInt64,all2 (fun (p q:UInt64)=>beq (n64 p) (n64 q)) l l=true
 | []=>rfl
 | a :: l=>by
  have ih:=qGQ l
  unfold all2 at ih ⊢
  rw [List.zip_cons_cons,List.all_cons,ih,Bool.and_true]
  exact wY _
theorem qAH:∀ l:List Int,all2 (fun (p q:Int)=>beq p q) l l=true
 | []=>rfl
 | a :: l=>by
  have ih:=qAH l
  unfold all2 at ih ⊢
  rw [List.zip_cons_cons,List.all_cons,ih,Bool.and_true]
  exact wY _
theorem qu8 {n:Nat} {e:En'} (h:okE n e) (hn:n≤1000000):kE (e.t,e.t,())=some (true,()):=by
 unfold kE
 dsimp only
 rw [qvU]
 refine (qF rfl).trans ?_
 rw [wJ]
 refine (qF rfl).trans ?_
 rw [qvS]
 refine (qF rfl).trans ?_
 have hq:=h.queue
 have ho:=h.out
 have hg:=h.got
 rw [show e.t.2.2.2.2.2.2.2.2.2.2.2.2.2.2.1=e.queue from rfl,qMi e.queue (by omega)]
 refine (qF rfl).trans ?_
 rw [show e.t.2.2.2.2.2.2.2.2.2.2.2.2.2.2.2.1=e.hub from rfl,qCd e.hub h.up h.feed h.life]
 refine (qF rfl).trans ?_
 rw [show e.t.2.2.2.2.2.2.2.2.2.2.2.2.2.2.2.2.1=e.out from rfl,qL6 e.out (by omega)]
 refine (qF rfl).trans ?_
 rw [show e.t.2.2.2.2.2.2.2.2.2.2.2.2.2.2.2.2.2.1=e.got from rfl,qID e.got (by omega)]
 refine (qF rfl).trans ?_
 dsimp only
 rw [qX,qlF,qGQ,qAH]
 simp only [wY]
 rfl
theorem wC {n:Nat} {s:Si} (h:okS n s) (hn:n≤1000000):zT (s.t,s.t,())=some (true,()):=by
 unfold zT
 dsimp only
 rw [show kE (s.t.1,s.t.1,())=_ from qu8 h.e hn]
 refine (qF rfl).trans ?_
 have hp:=h.p
 rw [show qfX (s.t.2.1,s.t.2.1,())=_ from qv6 s.p (by omega)]
 rfl
end Yp
namespace Yp
open Go
set_option maxRecDepth 100000
set_option maxHeartbeats 2000000
theorem qz6 {A B C:BB} {a w:Nat} (hA:A.length=a) (hB:B.length=w):tk (A++(B++C)) a w=B:=by
 unfold tk
 rw [← hA,List.drop_left,← hB,List.take_left]
theorem qz9 {b:BB} {A W:Nat} {n:Int} (hW1:1≤W) (hW:W≤8) (hl:A+W≤b.length) (h0:0≤n) (hn:n < 256 ^ W) (hL:n≤4611686018427387904) (ht:tk b A W=bigN W n):xJ b (A:Int) (W:Int)=(n,((A+W:Nat):Int),0,()):=by
 have hv:bev (tk b A W)=n.toNat:=by
  rw [ht];unfold bigN
  rw [qSB,Nat.mod_eq_of_lt]
  have:((n.toNat:Nat):Int) < ((256 ^ W:Nat):Int):=by rw [Int.toNat_of_nonneg h0];push_cast;exact hn
  exact Int.ofNat_lt.1 this
 unfold xJ
 rw [if_neg (by omega),if_neg (by omega),if_neg]
 ·rw [Int.toNat_natCast,Int.toNat_natCast,hv]
  refine Prod.ext (by dsimp only;omega) (Prod.ext (by dsimp only;omega) rfl)
 ·rintro ⟨h8,h127⟩
  have hW8:W=8:=by omega
  subst hW8
  rw [Int.toNat_natCast] at h127
  have hg:nth b A (u8 0)=(bigN 8 n)[0]'(by rw [qW];omega):=by
   have h1:0 < (tk b A 8).length:=by rw [vZ hl];omega
   have h2:(tk b A 8)[0]=b[A]:=qJz h1 (by omega)
   rw [qL (by omega:A < b.length)]
   rw [← h2];simp only [ht]
  rw [hg] at h127
  unfold bigN at h127
  rw [qJV] at h127
  unfold byt at h127
  have hq:n.toNat / 256 ^ 7 % 256≤127:=by
   have:n.toNat≤4611686018427387904:=by omega
   have e:256 ^ 7=72057594037927936:=by decide
   rw [e];omega
  rw [show 8 - 1 - 0=7 from rfl,UInt8.toNat_ofNat_of_lt' (by show _ < 256;omega)] at h127
  omega
def tkI (b:BB) (a w:Int):Int:=if (xJ b a w).2.2.1=0 then (xJ b a w).1 else -1
theorem xP (b:BB) (a w:Int) (hb:b.length≤1000000):kG (b,a,w,())=some (tkI b a w,()):=by
 unfold kG tkI
 dsimp only
 rw [qd8 _ _ _ hb]
 refine (qF rfl).trans ?_
 by_cases h:(xJ b a w).2.2.1=0
 ·rw [if_pos h];exact qB (bq_f h)
 ·rw [if_neg h];exact qC (bq_t h)
def noV:TEnv:=(0,0,[0,0],0,0,[],[],())
def rdV0 (b:BB):TEnv:=(tkI b 0 1,tkI b 1 1,[tkI b 2 8,tkI b 10 8],tkI b 18 4,tkI b 22 8,(b.drop 30).take (b.length - 46),b.drop (b.length - 16),())
instance (v:TEnv):Decidable (qeA v):=by unfold qeA;infer_instance
instance (v:TEnv):Decidable (qmU v):=by unfold qmU;infer_instance
def rdV (b:BB):TEnv×Int×Unit:=if b.length < 47 then (noV,3,()) else if 946 < b.length then (noV,4,()) else if qmU (rdV0 b) then (rdV0 b,0,()) else (noV,2,())
theorem qvV (b:BB) (hb:b.length≤1000000):qlU (b,())=some (rdV b):=by
 unfold qlU rdV
 dsimp only
 by_cases h1:b.length < 47
 ·rw [if_pos h1];exact qC (by simp only [go_sem,Int.reduceToNat];omega)
 ·rw [if_neg h1]
  refine (qB (by simp only [go_sem,Int.reduceToNat];omega)).trans ?_
  by_cases h2:946 < b.length
  ·rw [if_pos h2];exact qC (by simp only [go_sem,Int.reduceToNat];omega)
  ·rw [if_neg h2]
   refine (qB (by simp only [go_sem,Int.reduceToNat];omega)).trans ?_
   rw [xP _ _ _ hb]
   refine (qF rfl).trans ?_
   rw [xP _ _ _ hb]
   refine (qF rfl).trans ?_
   rw [xP _ _ _ hb]
   refine (qF rfl).trans ?_
   rw [xP _ _ _ hb]
   refine (qF rfl).trans ?_
   rw [xP _ _ _ hb]
   refine (qF rfl).trans ?_
   rw [xP _ _ _ hb]
   refine (qF rfl).trans ?_
   have e:i64 (isub (len b) 16)=((b.length - 16:Nat):Int):=i64n (by show (b.length:Int) - 16=_;omega) (by omega)
   rw [e]
   refine (qH (by simp only [go_sem,Int.reduceToNat];omega)).trans ((qH (by simp only [go_sem,Int.reduceToNat];omega)).trans ?_)
   dsimp only
   have s1:sub b 30 ((b.length - 16:Nat):Int)=(b.drop 30).take (b.length - 46):=by
    unfold sub
    rw [show (30:Int).toNat=30 from rfl,Int.toNat_natCast];congr 1
   have s2:sub b ((b.length - 16:Nat):Int) (len b)=b.drop (b.length - 16):=by
    unfold sub
    rw [Int.toNat_natCast,List.take_of_length_le]
    rw [List.length_drop];show _≤(b.length:Int).toNat - _;omega
   rw [s1,s2,show qaM ((tkI b 0 1,tkI b 1 1,[tkI b 2 8,tkI b 10 8],tkI b 18 4,tkI b 22 8,(b.drop 30).take (b.length - 46),b.drop (b.length - 16),()),())=_ from qiI (rdV0 b)]
   refine (qF rfl).trans ?_
   by_cases h:qmU (rdV0 b)
   ·rw [D_t h,if_pos h];rfl
   ·rw [D_f h,if_neg h];rfl
theorem qz7 {b:BB} {A W:Nat} {n:Int} (hW1:1≤W) (hW:W≤8) (hl:A+W≤b.length) (h0:0≤n) (hn:n < 256 ^ W) (hL:n≤4611686018427387904) (ht:tk b A W=bigN W n):tkI b (A:Int) (W:Int)=n:=by
 unfold tkI
 rw [qz9 hW1 hW hl h0 hn hL ht,if_pos rfl]
theorem qMw {v:TEnv} {t:BB} (hv:qeA v) (he:v.2.2.1=[e0 v,e1 v]) (ht:t.length=16):rdV (qT v++t)=(kR v t,0,()):=by
 have hlen:(qT v++t).length=46+v.2.2.2.2.2.1.length:=by rw [List.length_append,j6,ht];omega
 have hbody:=hv.2.2.2.2.2.2
 obtain ⟨h1,h2,h3,h4,h5,h6,h7,h8⟩:=hv
 have l1:=qW 1 v.1
 have l2:=qW 1 v.2.1
 have l3:=qW 8 (e0 v)
 have l4:=qW 8 (e1 v)
 have l5:=qW 4 v.2.2.2.1
 have l6:=qW 8 v.2.2.2.2.1
 have n2:=h2.2
 have n3:=h3.2
 have n4:=h4.2
 obtain ⟨rest,hrest⟩:∃ rest,rest=v.2.2.2.2.2.1++t:=⟨_,rfl⟩
 have hE:qT v++t=bigN 1 v.1++(bigN 1 v.2.1++(bigN 8 (e0 v)++(bigN 8 (e1 v)++(bigN 4 v.2.2.2.1++(bigN 8 v.2.2.2.2.1++rest))))):=by unfold qT;rw [hrest];simp only [List.append_assoc]
 have t1:tk (qT v++t) 0 1=bigN 1 v.1:=by rw [hE];exact qz6 (A:=[]) rfl l1
 have t2:tk (qT v++t) 1 1=bigN 1 v.2.1:=by rw [hE];exact qz6 l1 l2
 have t3:tk (qT v++t) 2 8=bigN 8 (e0 v):=by rw [hE,← List.append_assoc];exact qz6 (by rw [List.length_append,l1,l2]) l3
 have t4:tk (qT v++t) 10 8=bigN 8 (e1 v):=by rw [hE,← List.append_assoc,← List.append_assoc];exact qz6 (by simp only [List.length_append,l1,l2,l3]) l4
 have t5:tk (qT v++t) 18 4=bigN 4 v.2.2.2.1:=by rw [hE,← List.append_assoc,← List.append_assoc,← List.append_assoc];exact qz6 (by simp only [List.length_append,l1,l2,l3,l4]) l5
 have t6:tk (qT v++t) 22 8=bigN 8 v.2.2.2.2.1:=by rw [hE,← List.append_assoc,← List.append_assoc,← List.append_assoc,← List.append_assoc];exact qz6 (by simp only [List.length_append,l1,l2,l3,l4,l5]) l6
 have hz:rdV0 (qT v++t)=kR v t:=by
  unfold rdV0 kR
  have q1:tkI (qT v++t) 0 1=v.1:=qz7 (A:=0) (W:=1) (by omega) (by omega) (by omega) (by omega) (by omega) (by omega) t1
  have q2:tkI (qT v++t) 1 1=v.2.1:=qz7 (A:=1) (W:=1) (by omega) (by omega) (by omega) (by omega) (by omega) (by omega) t2
  have q3:tkI (qT v++t) 2 8=e0 v:=qz7 (A:=2) (W:=8) (by omega) (by omega) (by omega) h2.1 (by omega) n2 t3
  have q4:tkI (qT v++t) 10 8=e1 v:=qz7 (A:=10) (W:=8) (by omega) (by omega) (by omega) h3.1 (by omega) n3 t4
  have q5:tkI (qT v++t) 18 4=v.2.2.2.1:=qz7 (A:=18) (W:=4) (by omega) (by omega) (by omega) h6.1 (by omega) (by omega) t5
  have q6:tkI (qT v++t) 22 8=v.2.2.2.2.1:=qz7 (A:=22) (W:=8) (by omega) (by omega) (by omega) h4.1 (by omega) n4 t6
  have hpre:(bigN 1 v.1++bigN 1 v.2.1++bigN 8 (e0 v)++bigN 8 (e1 v)++bigN 4 v.2.2.2.1++bigN 8 v.2.2.2.2.1).length=30:=by simp only [List.length_append,l1,l2,l3,l4,l5,l6]
  have q7:((qT v++t).drop 30).take ((qT v++t).length - 46)=v.2.2.2.2.2.1:=by
   rw [hlen]
   unfold qT
   rw [List.append_assoc,← hpre,List.drop_left,Nat.add_sub_cancel_left,List.take_left]
  have q8:(qT v++t).drop ((qT v++t).length - 16)=t:=by
   rw [hlen,show 46+v.2.2.2.2.2.1.length - 16=(qT v).length by rw [j6];omega,List.drop_left]
  rw [q1,q2,q3,q4,q5,q6,q7,q8,← he]
 unfold rdV
 rw [if_neg (by omega),if_neg (by omega),hz,if_pos]
 exact ⟨⟨h1,h2,h3,h4,h5,h6,h7,h8⟩,ht⟩
end Yp
namespace Yp
open Go
set_option maxRecDepth 100000
set_option maxHeartbeats 2000000
theorem qPv {a:Int} (h:0≤a):n8 (u8 a)=a % 256:=by
 show (((BitVec.ofNat 8 ((a % 2 ^ 8).toNat)).toNat:Nat):Int)=a % 256
 rw [BitVec.toNat_ofNat];omega
theorem qQM (x:BB) (hx:x.length≤1024):256*n8 (u8 (shrI .i64 (len x) (n64 (u64 8))))+n8 (u8 (len x))=(x.length:Int):=by
 have a2:shrI .i64 (len x) (n64 (u64 8))=((x.length / 256:Nat):Int):=by show Int.fdiv (x.length:Int) (2 ^ 8)=_;rw [Int.fdiv_eq_ediv_of_nonneg _ (by decide)];omega
 rw [a2,qPv (by omega),qPv (by show (0:Int)≤(x.length:Int);omega)]
 show 256*(((x.length / 256:Nat):Int) % 256)+(x.length:Int) % 256=_
 omega
theorem qQj {b:BB} {n:Nat} {c:UInt8} (hb1:b.length≤2000) (hn:1≤n∧n≤1024) (hl:b.length+1 < n+2) (hnum:2≤b.length+1→256*n8 (nth (b++[c]) 0 (u8 0))+n8 (nth (b++[c]) 1 (u8 0))=(n:Int)):qfV ((b,0,0,()),c,())=some ((b++[c],0,0,()),[],()):=by
 unfold qfV
 refine (qB rfl).trans ?_
 dsimp only
 rw [show app (app (none' UInt8) b) [c]=b++[c] from rfl,show app (none' UInt8) b=b from rfl]
 refine (qH (by simp only [go_sem,Int.reduceToNat];omega)).trans ((qH (by simp only [go_sem,Int.reduceToNat];simp;omega)).trans ?_)
 have hlen:(b++[c]).length=b.length+1:=by simp
 by_cases h2:b.length+1 < 2
 ·exact qC (by simp only [go_sem,Int.reduceToNat];omega)
 ·refine (qB (by simp only [go_sem,Int.reduceToNat];omega)).trans ?_
  refine (qH (by simp only [go_sem,Int.reduceToNat];omega)).trans ((qH (by simp only [go_sem,Int.reduceToNat];omega)).trans ?_)
  have hnum:=hnum (by omega)
  rw [show nat 0=0 from rfl,show nat 1=1 from rfl]
  have hx:=qAm (nth (b++[c]) 0 (u8 0))
  have hy:=qAm (nth (b++[c]) 1 (u8 0))
  generalize n8 (nth (b++[c]) 0 (u8 0))=x at hx hnum
  generalize n8 (nth (b++[c]) 1 (u8 0))=y at hy hnum
  have e:i64 (iadd (i64 (imul 256 (i64 x))) (i64 y))=(n:Int):=by
   rw [show i64 x=x from zX (by omega) (by omega),show i64 y=y from zX (by omega) (by omega),show i64 (imul 256 x)=256*x from zX (by show -9223372036854775808≤256*x;omega) (by show 256*x≤9223372036854775807;omega)]
   rw [← hnum]
   exact zX (by show -9223372036854775808≤256*x+y;omega) (by show 256*x+y≤9223372036854775807;omega)
  rw [e,show i64 (iadd (n:Int) 2)=((n+2:Nat):Int) from i64n (by show (n:Int)+2=_;omega) (by omega)]
  refine (qF (a:=(false,())) ((qB (vX (by omega))).trans (by rw [lt_f (by omega)]))).trans ((qB rfl).trans ?_)
  exact qC (by simp only [go_sem,Int.reduceToNat];omega)
theorem qQk {b:BB} {n:Nat} {c:UInt8} (hn:1≤n∧n≤1024) (hl:b.length+1=n+2) (hnum:256*n8 (nth (b++[c]) 0 (u8 0))+n8 (nth (b++[c]) 1 (u8 0))=(n:Int)):qfV ((b,0,0,()),c,())=some (noF,(b++[c]).drop 2,()):=by
 unfold qfV
 refine (qB rfl).trans ?_
 dsimp only
 rw [show app (app (none' UInt8) b) [c]=b++[c] from rfl,show app (none' UInt8) b=b from rfl]
 refine (qH (by simp only [go_sem,Int.reduceToNat];omega)).trans ((qH (by simp only [go_sem,Int.reduceToNat];simp;omega)).trans ?_)
 have hlen:(b++[c]).length=b.length+1:=by simp
 refine (qB (by simp only [go_sem,Int.reduceToNat];omega)).trans ?_
 refine (qH (by simp only [go_sem,Int.reduceToNat];omega)).trans ((qH (by simp only [go_sem,Int.reduceToNat];omega)).trans ?_)
 rw [show nat 0=0 from rfl,show nat 1=1 from rfl]
 have hx:=qAm (nth (b++[c]) 0 (u8 0))
 have hy:=qAm (nth (b++[c]) 1 (u8 0))
 generalize n8 (nth (b++[c]) 0 (u8 0))=x at hx hnum
 generalize n8 (nth (b++[c]) 1 (u8 0))=y at hy hnum
 have e:i64 (iadd (i64 (imul 256 (i64 x))) (i64 y))=(n:Int):=by
  rw [show i64 x=x from zX (by omega) (by omega),show i64 y=y from zX (by omega) (by omega),show i64 (imul 256 x)=256*x from zX (by show -9223372036854775808≤256*x;omega) (by show 256*x≤9223372036854775807;omega)]
  rw [← hnum]
  exact zX (by show -9223372036854775808≤256*x+y;omega) (by show 256*x+y≤9223372036854775807;omega)
 rw [e,show i64 (iadd (n:Int) 2)=((n+2:Nat):Int) from i64n (by show (n:Int)+2=_;omega) (by omega)]
 refine (qF (a:=(false,())) ((qB (vX (by omega))).trans (by rw [lt_f (by omega)]))).trans ((qB rfl).trans ?_)
 refine (qB (by simp only [go_sem,Int.reduceToNat];omega)).trans ?_
 refine (qH (by simp only [go_sem,Int.reduceToNat];omega)).trans ?_
 have hc:cut (b++[c]) (nat 2) (nsub (nat (len (b++[c]))) (nat 2))=(b++[c]).drop 2:=by
  unfold cut
  rw [show nat 2=2 from rfl,List.take_of_length_le (by rw [List.length_drop];show _≤((b++[c]).length:Int).toNat - 2;omega)]
 rw [hc];rfl
theorem qNv (x:BB) (hx:1≤x.length∧x.length≤1024):qlK (kY x,())=some (x,()):=by
 unfold qlK qq7
 dsimp only
 generalize hf:(fun (x_1:List BB×Int×FT×Unit)=>(_:Option (LS (List BB×Int×FT×Unit) (FT×List BB×Unit))))=f
 have hl:(kY x).length=x.length+2:=qr6 x
 have hnum:∀ i,2≤i→256*n8 (nth ((kY x).take i) 0 (u8 0))+n8 (nth ((kY x).take i) 1 (u8 0))=(x.length:Int):=by
  intro i hi
  obtain ⟨j,rfl⟩:∃ j,i=j+2:=⟨i - 2,by omega⟩
  rw [← qQM x hx.2];rfl
 have tk1:∀ i (h:i < (kY x).length),(kY x).take i++[nth (kY x) (nat (i:Int)) (u8 0)]=(kY x).take (i+1):=fun i h=>by rw [qP,qL h,List.take_succ_eq_append_getElem h]
 have step:∀ i:Nat,i < x.length+1→f ([],(i:Int),((kY x).take i,0,0,()),())=some (.nx ([],((i+1:Nat):Int),((kY x).take (i+1),0,0,()),())):=by
  intro i hi
  subst hf
  have hi':i64 (iadd (i:Int) 1)=((i+1:Nat):Int):=i64n (by show (i:Int)+1=_;omega) (by omega)
  have htl:((kY x).take i).length=i:=by rw [List.length_take];omega
  refine (qC (by simp only [go_sem,Int.reduceToNat];omega)).trans ((qH (by simp only [go_sem,Int.reduceToNat];omega)).trans ?_)
  dsimp only
  rw [qQj (n:=x.length) (by omega) hx (by omega) (fun h=>by rw [tk1 i (by omega)];exact hnum _ (by omega)),tk1 i (by omega),hi']
  rfl
 have hlast:f ([],((x.length+1:Nat):Int),((kY x).take (x.length+1),0,0,()),())=some (.nx ([x],((x.length+2:Nat):Int),noF,())):=by
  subst hf
  have hi':i64 (iadd ((x.length+1:Nat):Int) 1)=((x.length+2:Nat):Int):=i64n (by show ((x.length+1:Nat):Int)+1=_;omega) (by omega)
  have htl:((kY x).take (x.length+1)).length=x.length+1:=by rw [List.length_take];omega
  refine (qC (by simp only [go_sem,Int.reduceToNat];omega)).trans ((qH (by simp only [go_sem,Int.reduceToNat];omega)).trans ?_)
  dsimp only
  rw [qQk (n:=x.length) hx (by omega) (by rw [tk1 _ (by omega)];exact hnum _ (by omega)),tk1 _ (by omega),hi',List.take_of_length_le (by omega)]
  rw [show (kY x).drop 2=x from rfl]
  refine (qF rfl).trans ((qC (by simp only [go_sem,Int.reduceToNat];omega)).trans ((qH (by simp only [go_sem,Int.reduceToNat];simp)).trans ?_))
  rfl
 have hend:f ([x],((x.length+2:Nat):Int),noF,())=some (.ex 0 ([x],((x.length+2:Nat):Int),noF,())):=by subst hf;exact qB (by simp only [go_sem,Int.reduceToNat];omega)
 have hloop:=(qN (f:=f) (fun i=>([],(i:Int),((kY x).take i,0,0,()),())) (x.length+1) step 0 (Nat.zero_le _)).trans ((vW hlast).trans (qV hend))
 refine (zZ (zC (show loop f (none' BB,0,(none' UInt8,0,0,()),())=_ from hloop))).trans ?_
 rfl
theorem qIm {σ ρ:Type} {f:σ→Option (LS σ ρ)} (P:Nat→σ→Prop) (Q:σ→Prop) (n e:Nat) (hs:∀ i,i < n→∀ x,P i x→∃ y,f x=some (.nx y)∧P (i+1) y) (he:∀ x,P n x→∃ y,f x=some (.ex e y)∧Q y) {x:σ} (h0:P 0 x):∃ y,loop f x=some (.ex e y)∧Q y:=by
 have key:∀ k i x,i+k=n→P i x→∃ y,loop f x=some (.ex e y)∧Q y:=by
  intro k
  induction k with
  | zero =>
   intro i x hi hp
   have:i=n:=by omega
   subst this
   obtain ⟨y,h1,h2⟩:=he x hp
   exact ⟨y,qV h1,h2⟩
  | succ k ih =>
   intro i x hi hp
   obtain ⟨y,h1,h2⟩:=hs i (by omega) x hp
   rw [vW h1]
   exact ih (i+1) y (by omega) h2
 exact key n 0 x (by omega) h0
end Yp
namespace Yp
open Go
set_option maxRecDepth 100000
set_option maxHeartbeats 2000000
theorem qOw (e:En'):qb7 e=[nth (qb7 e) 0 0,nth (qb7 e) 1 0]:=by
 unfold qb7
 split
 ·rfl
 ·split <;> rfl
theorem qSN {i:Int} (h:i=0∨i=1):i64 (isub 1 i)=1 - i:=zX (by show -9223372036854775808≤1 - i;omega) (by show 1 - i≤9223372036854775807;omega)
theorem qOi {s:Si} {b:BB} (hb:qdQ b) (hl:jC s.e.ph) (hq:s.e.seq≤900000) (hh:(kX s.e.hub).2.2.1=0):qjD s b =
  (⟨{ s.e with hub:=(kX s.e.hub).1,out:=s.e.out++[((kX s.e.hub).2.1,kY (qT (qoH s.e b)++kN s.e.ring.1.2.1 (qT (qoH s.e b))),())],seq:=s.e.seq+1 },ptag s.p s.e.ring.1.2.1 (qT (qoH s.e b))⟩,0):=by
 unfold qjD qiT
 rw [if_neg (not_not_intro hb),if_neg (not_not_intro hl),if_neg (by omega),if_pos hh]
 rfl
end Yp
namespace Yp
open Go
set_option maxRecDepth 100000
set_option maxHeartbeats 2000000
def hub1:THub:=([true,false,false,false],[noF,noF,noF,noF],[1,0,0,0],0,())
theorem qK2 {x:BB} (hx:x.length=32):qoQ ((1,x,()),noG,noG,0,1,()):=by
 refine .inr ⟨⟨?_, ?_,hx⟩, ?_, ?_, ?_, .inl ⟨rfl,rfl⟩, .inl rfl⟩
 ·show (1:Int)≤1;omega
 ·show (1:Int)≤2147483647;omega
 ·show (1:Int)≤2147483647;omega
 ·show (1:Int)≤1;omega
 ·show (0:Int)≤1;omega
theorem qRL:qnO (([false,false,false,false],[(none' UInt8,0,0,()),(none' UInt8,0,0,()),(none' UInt8,0,0,()),(none' UInt8,0,0,())],[0,0,0,0],0,()),0,())=some (hub1,0,()):=by kernel_rfl
end Yp
namespace Yp
open Go
set_option maxRecDepth 100000
set_option maxHeartbeats 2000000
def upH (h:THub):Prop:=h.1=[true,false,false,false]∧0≤h.2.2.2.1∧h.2.2.2.1 < 4
theorem qLS:upH hub1:=⟨rfl,by show (0:Int)≤0;omega,by show (0:Int) < 4;omega⟩
theorem qId {h:THub} (hu:upH h):(kX h).2.2.1=0∧upH (kX h).1:=by
 refine ⟨?_,(qJX h).trans hu.1,qAe hu.2⟩
 obtain ⟨u,f,l,n,⟨⟩⟩:=h
 obtain ⟨h1,h2,h3⟩:=hu
 dsimp only at h1 h2 h3
 subst h1
 have hc:qRO [true,false,false,false] n.toNat=some 0:=by
  have:n=0∨n=1∨n=2∨n=3:=by omega
  rcases this with rfl | rfl | rfl | rfl <;> decide
 unfold kX
 dsimp only
 rw [hc]
def qOh (s:Si) (b:BB):Si:=⟨{ s.e with hub:=(kX s.e.hub).1,out:=s.e.out++[((kX s.e.hub).2.1,kY (qT (qoH s.e b)++kN s.e.ring.1.2.1 (qT (qoH s.e b))),())],seq:=s.e.seq+1 },ptag s.p s.e.ring.1.2.1 (qT (qoH s.e b))⟩
theorem qL7 {s:Si} {b:BB} (hb:qdQ b) (hl:jC s.e.ph) (hq:s.e.seq≤900000) (hu:upH s.e.hub):qjD s b=(qOh s b,0):=qOi hb hl hq (qId hu).1
def yR (n:jT):BB:=wrM (msgN n)
theorem vN {n:jT} (h:jE n):qdQ (yR n):=⟨by
 unfold yR wrM
 rw [List.length_append,List.length_append,kL]
 split <;> omega,qPM h⟩
theorem qp7 {n:jT} (h:jE n):rdN (yR n)=(n,0,()):=qRJ h
theorem quZ (n:Int):1≤yJ n∧yJ n≤999999:=by unfold yJ;split <;> omega
def stN (s:Si) (q:jT):jT:=(q.1,q.2.1,yJ s.e.stan,q.2.2.2)
theorem qC6 {s:Si} {q:jT} (hr:jE (stN s q)):qnE q.2.1 (yJ s.e.stan) (yR (stN s q))=((q.2.1,yJ s.e.stan,8,3,yR (stN s q),()),0,()):=by
 unfold qnE
 rw [if_pos]
 have h:=quZ s.e.stan
 exact ⟨hr.1,h.1,h.2,(vN hr).1,(vN hr).2⟩
def askS (s:Si) (q:jT):Si:=⟨{ s.e with stan:=yJ s.e.stan,ask:=(q.2.1,yJ s.e.stan,8,3,yR (stN s q),()) },s.p⟩
theorem qGP {s:Si} {q:jT} (hr:jE (stN s q)):qqA s q=askS s q:=by
 unfold qqA askS
 have e:wrN (q.1,q.2.1,yJ s.e.stan,q.2.2.2)=(yR (stN s q),0,()):=qN9 hr
 rw [e,qC6 hr]
theorem qE9 {s:Si} {q:jT} (hr:jE (stN s q)) (h1:¬ q.2.1=1) (hl:jC s.e.ph) (hq:s.e.seq≤900000) (hu:upH s.e.hub):kP s q=qOh (askS s q) (yR (stN s q)):=by
 have e:wrN (q.1,q.2.1,yJ s.e.stan,q.2.2.2)=(yR (stN s q),0,()):=qN9 hr
 unfold kP
 rw [e,qGP hr,qC6 hr,if_pos ⟨rfl,rfl⟩,if_neg h1]
 exact congrArg Prod.fst (qL7 (s:=askS s q) (vN hr) hl hq hu)
theorem qIH {s:Si}:jE (stN s (qfA 301)):=by
 have h:=quZ s.e.stan
 refine ⟨.inr (.inr (.inr (.inr rfl))),h.1,h.2,by show (0:Int)≤0;omega,by show (0:Int)≤99;omega,fun _=>rfl, ?_⟩
 unfold qwS
 rw [if_neg (fun q=>absurd q.2 (by show ¬ (301:Int)=101;omega))]
 refine ⟨rfl,rfl,rfl, ?_⟩
 rw [if_neg (fun q=>absurd q.2 (by show ¬ (301:Int)=201;omega))];rfl
def ackN (n:jT) (res:Int):jT:=(false,n.2.1,n.2.2.1,res,0,[],[],0,())
theorem qAI {n:jT} (h:jE n) {res:Int} (h0:0≤res) (h9:res≤99):jE (ackN n res):=by
 refine ⟨h.1,h.2.1,h.2.2.1,h0,h9,(fun h=>by cases h), ?_⟩
 unfold qwS
 rw [if_neg (fun q=>by cases q.1)]
 refine ⟨rfl,rfl,rfl, ?_⟩
 rw [if_neg (fun q=>by cases q.1)];rfl
theorem qMt {n:jT} (h:jE n) (hq:n.1=true) {res:Int} (h0:0≤res) (h9:res≤99):qcX n res=yR (ackN n res):=by
 unfold qcX ansN
 rw [if_neg (by rw [hq];intro h;cases h),if_neg (by omega)]
 exact congrArg Prod.fst (qN9 (qAI h h0 h9))
end Yp
namespace Yp
open Go
set_option maxRecDepth 100000
set_option maxHeartbeats 2000000
theorem qQl {n:Nat} {s:Si} (h:okS n s) (q:jT):okS n (askS s q):=⟨{ h.e with },h.p⟩
section
variable (i : Int) (fill : UInt8) (g : Nat) (nonce : BB)
end
end Yp
namespace Yp
open Go
set_option maxRecDepth 100000
set_option maxHeartbeats 2000000
set_option linter.unusedSectionVars false
theorem qPR:upH (kX hub1).1:=(qId qLS).2
section
variable {i : Int} (hi : i = 0 ∨ i = 1) (fill : UInt8) {g : Nat} (hg : 1 ≤ g) (hg2 : g ≤ 50) {nonce : BB} (h8 : nonce.length = 8) (bs bs' : List UInt64)
include hi hg hg2 h8
end
end Yp
namespace Yp
open Go
set_option maxRecDepth 100000
set_option maxHeartbeats 2000000
end Yp
namespace Yp
open Go
set_option maxRecDepth 100000
abbrev tyS:Ty := .pair (.pair (.int .i64) (.pair (.sl (.int .u8)) (.pair (.int .i64) (.pair (.pair (.sl (.int .u8)) (.pair (.sl (.int .u8)) (.unit))) (.pair (.int .i64) (.pair (.int .i64) (.pair (.int .i64) (.pair (.int .i64) (.pair (.int .i64) (.pair (.pair (.int .i64) (.pair (.ar 16 (.int .u64)) (.unit))) (.pair (.pair (.pair (.int .i64) (.pair (.sl (.int .u8)) (.unit))) (.pair (.pair (.int .i64) (.pair (.sl (.int .u8)) (.unit))) (.pair (.pair (.int .i64) (.pair (.sl (.int .u8)) (.unit))) (.pair (.int .i64) (.pair (.int .i64) (.unit)))))) (.pair (.pair (.int .i64) (.pair (.int .i64) (.pair (.int .i64) (.pair (.int .i64) (.pair (.sl (.int .u8)) (.unit)))))) (.pair (.int .i64) (.pair (.int .i64) (.pair (.sl (.sl (.int .u8))) (.pair (.pair (.ar 4 (.bool)) (.pair (.ar 4 (.pair (.sl (.int .u8)) (.pair (.int .i64) (.pair (.int .i64) (.unit))))) (.pair (.ar 4 (.int .i64)) (.pair (.int .i64) (.unit))))) (.pair (.sl (.pair (.int .i64) (.pair (.sl (.int .u8)) (.unit)))) (.pair (.sl (.pair (.int .i64) (.pair (.ar 2 (.int .i64)) (.pair (.int .i64) (.pair (.sl (.int .u8)) (.unit)))))) (.pair (.ar 4 (.int .i64)) (.unit)))))))))))))))))))) (.pair (.pair (.bool) (.pair (.sl (.pair (.sl (.int .u8)) (.pair (.sl (.int .u8)) (.unit)))) (.pair (.bool) (.unit)))) (.unit))
abbrev tyN:Ty := .pair (.bool) (.pair (.int .i64) (.pair (.int .i64) (.pair (.int .i64) (.pair (.int .i64) (.pair (.sl (.int .u8)) (.pair (.sl (.int .u8)) (.pair (.int .i64) (.unit))))))))
theorem qJI {x:kC} (h:okd tyS x):∃ s:Si,x=s.t∧qDw s.e:=by
 obtain ⟨s,rfl⟩:=qRD x
 have e:=h.1
 exact ⟨s,rfl,e.2.2.2.2.2.2.2.2.2.1.2.1.1,e.2.2.2.2.2.2.2.2.2.2.2.2.2.2.2.1.1.1,e.2.2.2.2.2.2.2.2.2.2.2.2.2.2.2.1.2.1.1,e.2.2.2.2.2.2.2.2.2.2.2.2.2.2.2.1.2.2.1.1,e.2.2.2.2.2.2.2.2.2.2.2.2.2.2.2.2.2.2.1.1⟩
end Yp
namespace Yp
open Go
set_option maxRecDepth 100000
set_option maxHeartbeats 2000000
instance (n:jT):Decidable (fewN n):=by unfold fewN;infer_instance
end Yp
namespace Yp
open Go
set_option maxRecDepth 100000
set_option maxHeartbeats 2000000
set_option linter.unusedSectionVars false
section
variable {i : Int} (hi : i = 0 ∨ i = 1) (fill : UInt8) {g : Nat} (hg : 1 ≤ g) (hg2 : g ≤ 50) {nonce : BB} (h8 : nonce.length = 8) (bs bs' : List UInt64)
include hi hg hg2 h8
end
end Yp
namespace Yp
open Go
set_option maxRecDepth 100000
set_option maxHeartbeats 2000000
end Yp
namespace Yp
open Go
set_option maxRecDepth 100000
set_option maxHeartbeats 2000000
set_option linter.unusedSectionVars false
def butE (e:En'):En':={ e with cnt:=[0,0,0,0] }
theorem qa6 (e:En'):kV (e.t,())=some ((butE e).t,()):=rfl
theorem qMX {n:Nat} {e:En'} (h:okE n e):okE n (butE e):={ h with cnt:=rfl }
section
variable (fill : UInt8) {g : Nat} (hg : 1 ≤ g) (hg2 : g ≤ 50) {nonce : BB} (h8 : nonce.length = 8)
include hg hg2 h8
end
end Yp
namespace Yp
open Go
set_option maxRecDepth 100000
set_option maxHeartbeats 2000000
def qbI (s:Si) (p:Int):Si:=⟨qIp s.e p,s.p⟩
theorem xK {s:Si} {n:Nat} (hs:okS n s) (hn:n≤900000) (p:Int):xL (s.t,p,())=some ((qbI s p).t,()):=by
 unfold xL
 dsimp only
 have hg:=hs.e.got
 rw [show qdO (s.t.1,p,())=_ from qm8 s.e p (by omega)];rfl
theorem vH {s:Si} {n:Nat} (hs:okS n s) (hn:n≤900000) (p:Int):v4 (s.t,p,())=some ((qbI s p).t,()):=by
 unfold v4
 dsimp only
 have hg:=hs.e.got
 rw [show qaH (s.t.1,p,())=_ from qjL s.e p (by omega)];rfl
theorem qKc (e:En') (p:Int):(qIp e p).got.length≤e.got.length+1:=by
 show (if jC e.ph then e.got++[(5,qb7 e,0,[],())] else e.got).length≤_
 split
 ·rw [List.length_append];exact Nat.le_refl _
 ·omega
theorem qbG {n:Nat} {s:Si} (h:okS n s) {p:Int} (h0:0≤p) (h8:p≤8):okS (n+1) (qbI s p):=by
 refine ⟨{ wN h.e (Nat.le_succ n) with ph:=⟨h0,h8⟩,own:=by show zN 0;decide,oth:=by show zN 0;decide,seq:=by show zN 0;decide,ring := .inl rfl,got := ?_,win:=rfl,queue:=by show ([]:List BB).length≤1000;simp },Nat.le_succ_of_le h.p⟩
 have h1:=qKc s.e p
 have h2:=h.e.got
 exact Nat.le_trans h1 (by omega)
def hub0:THub:=([false,false,false,false],[noF,noF,noF,noF],[0,0,0,0],0,())
def qzP (e:En'):En':=⟨e.id,e.key,8,e.store, -1,0,0,0,0,noW,noR,noA,0,0,[],hub0,[],(qIp e 8).got,[0,0,0,0]⟩
def xW (s:Si):Si:=if s.e.ph=8 then s else ⟨qzP s.e,s.p⟩
theorem wE {s:Si} {n:Nat} (hs:okS n s) (hn:n≤900000):yV (s.t,())=some ((xW s).t,()):=by
 unfold yV xW
 dsimp only
 have hg:=hs.e.got
 rw [show s.t.1.2.2.1=s.e.ph from rfl]
 by_cases h:s.e.ph=8
 ·rw [if_pos h];exact qC (kM h)
 ·rw [if_neg h]
  refine (qB (vX h)).trans ?_
  rw [show qdO (s.t.1,8,())=_ from qm8 s.e 8 (by omega)];rfl
theorem qiF {s:Si} {n:Nat} (hs:okS n s) (hn:n≤900000):qaG (s.t,())=some ((xW s).t,()):=by
 unfold qaG xW
 dsimp only
 have hg:=hs.e.got
 rw [show s.t.1.2.2.1=s.e.ph from rfl]
 by_cases h:s.e.ph=8
 ·rw [if_pos h];exact qC (kM h)
 ·rw [if_neg h]
  refine (qB (vX h)).trans ?_
  rw [show qaH (s.t.1,8,())=_ from qjL s.e 8 (by omega)];rfl
theorem qj5 {n:Nat} {s:Si} (h:okS n s):okS (n+1) (xW s):=by
 unfold xW
 split
 ·exact zO h (Nat.le_succ n)
 ·have h1:=qKc s.e 8
  have h2:=h.e.got
  exact ⟨{
   id:=h.e.id
   key:=h.e.key
   ph:=⟨by show (0:Int)≤8;omega,by show (8:Int)≤8;omega⟩
   store:=h.e.store
   own:=by show zN 0;decide
   oth:=by show zN 0;decide
   seq:=by show zN 0;decide
   ring := .inl rfl
   up:=rfl
   next:=⟨by show (0:Int)≤0;omega,by show (0:Int) < 4;omega⟩
   out:=Nat.zero_le _
   got:=Nat.le_trans h1 (by omega)
   cnt:=rfl
   win:=rfl
   feed:=rfl
   life:=rfl
   queue:=by show ([]:List BB).length≤1000;simp },Nat.le_succ_of_le h.p⟩
def stS (s:Si) (t:ST):Si:=⟨{ s.e with store:=t },s.p⟩
def stP (s:Si) (t:ST):Si:=⟨{ s.e with store:=t,power := -1 },s.p⟩
theorem qgJ (s:ST) (c:Int):xC s c=(s,0,12,())∨xC s c=(s,0,10,())∨(∃ t,xC s c=(t,0,11,())∧(jR s→jR t))∨∃ t,xC s c=(t,(zG s).1,0,())∧(jR s→jR t):=by
 have key:jR s→jR (if (zG s).2.1=0 then (s.1,qpE (zG s).1 c s.2.1,()) else (qpE (zG s).1 c s.1,s.2.1,())):=by
  intro h
  have hl:∀ o:BB,o.length=16→(qpE (zG s).1 c o).length=16:=by
   intro o ho
   have hm:=quF c
   unfold qpE
   rw [List.length_append,List.length_take,List.length_drop,vB,ho]
   omega
  split
  ·exact ⟨h.1,hl _ h.2⟩
  ·exact ⟨hl _ h.1,h.2⟩
 unfold xC
 split
 ·exact .inl rfl
 split
 ·exact .inr (.inl rfl)
 dsimp only
 split
 ·exact .inr (.inr (.inl ⟨_,rfl,key⟩))
 ·exact .inr (.inr (.inr ⟨_,rfl,key⟩))
def z1 (s:Si):Si×Int×Int :=
 if (xC s.e.store s.e.power).2.2.1=0 then (stP s (xC s.e.store s.e.power).1,(xC s.e.store s.e.power).2.1,0)
 else if (xC s.e.store s.e.power).2.2.1=11 then (xW (stS s (xC s.e.store s.e.power).1),0,11)
 else (s,0,(xC s.e.store s.e.power).2.2.1)
theorem qIh {n:Nat} {s:Si} (h:okS n s) {t:ST} (ht:jR t):okS n (stS s t):=⟨{ h.e with store:=ht },h.p⟩
theorem qIi {n:Nat} {s:Si} (h:okS n s) {t:ST} (ht:jR t):okS n (stP s t):=⟨{ h.e with store:=ht },h.p⟩
theorem qf5 {n:Nat} {s:Si} (h:okS n s):okS (n+1) (z1 s).1:=by
 unfold z1
 rcases qgJ s.e.store s.e.power with e | e | ⟨t,e,ht⟩ | ⟨t,e,ht⟩
 ·rw [e];exact zO h (Nat.le_succ n)
 ·rw [e];exact zO h (Nat.le_succ n)
 ·rw [e];exact qj5 (qIh h (ht h.e.store))
 ·rw [e];exact zO (qIi h (ht h.e.store)) (Nat.le_succ n)
theorem qi7 {s:Si} {n:Nat} (hs:okS n s) (hn:n≤900000):qfG (s.t,())=some ((z1 s).1.t,(z1 s).2.1,(z1 s).2.2,()):=by
 unfold qfG z1
 dsimp only
 rw [show s.t.1.2.2.2.1=s.e.store from rfl,show s.t.1.2.2.2.2.1=s.e.power from rfl,qyB _ _ hs.e.store]
 rcases qgJ s.e.store s.e.power with e | e | ⟨t,e,ht⟩ | ⟨t,e,ht⟩
 ·rw [e];rfl
 ·rw [e];rfl
 ·rw [e]
  refine (qF rfl).trans ((qB rfl).trans ((qC rfl).trans ?_))
  rw [show yV (((s.t.1.1,s.t.1.2.1,s.t.1.2.2.1,t,s.t.1.2.2.2.2),s.t.2),())=_ from wE (qIh hs (ht hs.e.store)) hn];rfl
 ·rw [e];rfl
theorem qtB {s:Si} {n:Nat} (hs:okS n s) (hn:n≤900000):qgP (s.t,())=some ((z1 s).1.t,(z1 s).2.1,(z1 s).2.2,()):=by
 unfold qgP z1
 dsimp only
 rw [show s.t.1.2.2.2.1=s.e.store from rfl,show s.t.1.2.2.2.2.1=s.e.power from rfl,qvT _ _ hs.e.store]
 rcases qgJ s.e.store s.e.power with e | e | ⟨t,e,ht⟩ | ⟨t,e,ht⟩
 ·rw [e];rfl
 ·rw [e];rfl
 ·rw [e]
  refine (qF rfl).trans ((qC rfl).trans ?_)
  rw [show qaG (((s.t.1.1,s.t.1.2.1,s.t.1.2.2.1,t,s.t.1.2.2.2.2),s.t.2),())=_ from qiF (qIh hs (ht hs.e.store)) hn];rfl
 ·rw [e];rfl
def ownZ (s:Si) (n:Int):Si:=⟨{ s.e with own:=n },s.p⟩
def onS (s:Si):Si×Int :=
 if s.e.ph=7∨s.e.ph=8 then (s,11)
 else if ¬ (z1 s).2.2=0 then ((z1 s).1,(z1 s).2.2)
 else (kP (ownZ (qbI (z1 s).1 1) (z1 s).2.1) (qfA 1),0)
theorem qFS {s:Si} (h0:(z1 s).2.2=0):(zG s.e.store).2.2.1=true∧(z1 s).2.1=(zG s.e.store).1:=by
 unfold z1 at h0 ⊢
 unfold xC at h0 ⊢
 by_cases h1:(zG s.e.store).2.2.1=false
 ·rw [if_pos h1] at h0;cases h0
 rw [if_neg h1] at h0 ⊢
 by_cases h2:(zG s.e.store).1=4611686018427387904
 ·rw [if_pos h2] at h0;cases h0
 rw [if_neg h2] at h0 ⊢
 dsimp only at h0 ⊢
 by_cases h3:qaS s.e.power < 16
 ·rw [if_pos h3] at h0;cases h0
 rw [if_neg h3]
 exact ⟨Bool.not_eq_false _ ▸ h1,rfl⟩
theorem qMQ {n:Nat} {s:Si} (h:okS n s) {k:Int} (hk:zN k):okS n (ownZ s k):=⟨{ h.e with own:=hk },h.p⟩
theorem qKu {s:Si} (h0:(z1 s).2.2=0):zN (z1 s).2.1:=by
 obtain ⟨h1,h2⟩:=qFS h0
 have h3:=qn2 h1
 rw [h2];unfold zN;omega
theorem qIj {n:Nat} {s:Si} (hs:okS n s) (h0:(z1 s).2.2=0):okS (n+2) (ownZ (qbI (z1 s).1 1) (z1 s).2.1):=qMQ (qbG (qf5 hs) (by omega) (by omega)) (qKu h0)
theorem qPt {n:Nat} {s:Si} (hs:okS n s):okS (n+3) (onS s).1:=by
 unfold onS
 split
 ·exact zO hs (by omega)
 split
 ·exact zO (qf5 hs) (by omega)
 ·rename_i h1 h2
  exact qj3 (qIj hs (Classical.not_not.1 h2)) _
theorem yT {s:Si} {n:Nat} (hs:okS n s) (hn:n≤800000):qaC (s.t,())=some ((onS s).1.t,(onS s).2,()):=by
 unfold qaC onS
 dsimp only
 rw [show s.t.1.2.2.1=s.e.ph from rfl]
 by_cases h1:s.e.ph=7∨s.e.ph=8
 ·rw [if_pos h1]
  refine (qF (a:=(true,())) ?_).trans (qC rfl)
  rcases h1 with h | h <;> rw [h] <;> rfl
 ·rw [if_neg h1]
  simp only [not_or] at h1
  refine (qF (a:=(false,())) ?_).trans ((qB rfl).trans ?_)
  ·rw [vX h1.1,vX h1.2];rfl
  rw [qi7 hs (by omega)]
  refine (qF rfl).trans ?_
  dsimp only
  by_cases h2:(z1 s).2.2=0
  ·rw [if_neg (not_not_intro h2)]
   refine (qB (bq_f h2)).trans ?_
   rw [xK (qf5 hs) (by omega)]
   refine (qF rfl).trans ?_
   exact (zZ (qa5 (qIj hs h2) (by omega) 1)).trans rfl
  ·rw [if_pos h2]
   exact qC (bq_t h2)
theorem qBT {s:Si} {n:Nat} (hs:okS n s) (hn:n≤800000):qt9 (s.t,())=some ((onS s).1.t,(onS s).2,()):=by
 unfold qt9 onS
 dsimp only
 rw [show s.t.1.2.2.1=s.e.ph from rfl]
 by_cases h1:s.e.ph=7∨s.e.ph=8
 ·rw [if_pos h1]
  refine (qF (a:=(true,())) ?_).trans (qC rfl)
  rcases h1 with h | h <;> rw [h] <;> rfl
 ·rw [if_neg h1]
  simp only [not_or] at h1
  refine (qF (a:=(false,())) ?_).trans ((qB rfl).trans ?_)
  ·rw [vX h1.1,vX h1.2];rfl
  rw [qtB hs (by omega)]
  refine (qF rfl).trans ?_
  dsimp only
  by_cases h2:(z1 s).2.2=0
  ·rw [if_neg (not_not_intro h2)]
   refine (qB (bq_f h2)).trans ?_
   rw [vH (qf5 hs) (by omega)]
   refine (qF rfl).trans ?_
   exact (zZ (qcY (qIj hs h2) (by omega) 1)).trans rfl
  ·rw [if_pos h2]
   exact qC (bq_t h2)
end Yp
namespace Yp
open Go
set_option maxRecDepth 100000
set_option maxHeartbeats 2000000
theorem qo2 {n:Nat} {s:Si} (h:okS n s):s.e.ph=0∨s.e.ph=1∨s.e.ph=2∨s.e.ph=3∨s.e.ph=4∨s.e.ph=5∨s.e.ph=6∨s.e.ph=7∨s.e.ph=8:=by have:=h.e.ph;omega
def qFX (s:Si):Si:=⟨{ s.e with ph:=6,ring:=qRq s.e.ring,queue:=[] },s.p⟩
theorem qwM {n:Nat} {s:Si} (h:okS n s):okS n (qFX s):=⟨{ h.e with ph:=⟨by show (0:Int)≤6;omega,by show (6:Int)≤8;omega⟩,ring:=qH6 h.e.ring,queue:=by show ([]:List BB).length≤1000;simp },h.p⟩
def byeS (s:Si):Si×Int :=
 if s.e.ph=0∨s.e.ph=7∨s.e.ph=8 then (s,7) else if s.e.ph=6 then (s,9) else if s.e.ph=1∨s.e.ph=2 then (qbI s 0,0) else (kP (qFX s) (qfA 2),0)
theorem qMW {n:Nat} {s:Si} (h:okS n s):okS (n+1) (byeS s).1:=by
 unfold byeS
 split
 ·exact zO h (by omega)
 split
 ·exact zO h (by omega)
 split
 ·exact qbG h (by omega) (by omega)
 ·exact qj3 (qwM h) _
theorem qoA {s:Si} {n:Nat} (hs:okS n s) (hn:n≤900000):qoB (s.t,())=some ((byeS s).1.t,(byeS s).2,()):=by
 have hl:=xK hs hn 0
 have hq:=qa5 (qwM hs) hn 2
 have hp:=qo2 hs
 unfold qoB byeS
 dsimp only
 rw [show s.t.1.2.2.1=s.e.ph from rfl]
 rcases hp with h | h | h | h | h | h | h | h | h <;> rw [h]
 ·rfl
 ·refine (qF rfl).trans ((qB rfl).trans ((qB rfl).trans ((qC rfl).trans ?_)))
  exact (zZ hl).trans rfl
 ·refine (qF rfl).trans ((qB rfl).trans ((qB rfl).trans ((qC rfl).trans ?_)))
  exact (zZ hl).trans rfl
 ·refine (qF rfl).trans ((qB rfl).trans ((qB rfl).trans ((qB rfl).trans ((qF rfl).trans ?_))))
  exact (zZ hq).trans rfl
 ·refine (qF rfl).trans ((qB rfl).trans ((qB rfl).trans ((qB rfl).trans ((qF rfl).trans ?_))))
  exact (zZ hq).trans rfl
 ·refine (qF rfl).trans ((qB rfl).trans ((qB rfl).trans ((qB rfl).trans ((qF rfl).trans ?_))))
  exact (zZ hq).trans rfl
 ·rfl
 ·rfl
 ·rfl
theorem qyW {s:Si} {n:Nat} (hs:okS n s) (hn:n≤900000):qoT (s.t,())=some ((byeS s).1.t,(byeS s).2,()):=by
 have hl:=vH hs hn 0
 have hq:=qcY (qwM hs) hn 2
 have hp:=qo2 hs
 unfold qoT byeS
 dsimp only
 rw [show s.t.1.2.2.1=s.e.ph from rfl]
 rcases hp with h | h | h | h | h | h | h | h | h <;> rw [h]
 ·rfl
 ·refine (qF (a:=(false,())) rfl).trans ((qB rfl).trans ((qB rfl).trans ((qF (a:=(true,())) rfl).trans ((qC rfl).trans ?_))))
  exact (zZ hl).trans rfl
 ·refine (qF (a:=(false,())) rfl).trans ((qB rfl).trans ((qB rfl).trans ((qF (a:=(true,())) rfl).trans ((qC rfl).trans ?_))))
  exact (zZ hl).trans rfl
 ·refine (qF (a:=(false,())) rfl).trans ((qB rfl).trans ((qB rfl).trans ((qF (a:=(false,())) rfl).trans ((qB rfl).trans ((qF rfl).trans ?_)))))
  exact (zZ hq).trans rfl
 ·refine (qF (a:=(false,())) rfl).trans ((qB rfl).trans ((qB rfl).trans ((qF (a:=(false,())) rfl).trans ((qB rfl).trans ((qF rfl).trans ?_)))))
  exact (zZ hq).trans rfl
 ·refine (qF (a:=(false,())) rfl).trans ((qB rfl).trans ((qB rfl).trans ((qF (a:=(false,())) rfl).trans ((qB rfl).trans ((qF rfl).trans ?_)))))
  exact (zZ hq).trans rfl
 ·rfl
 ·rfl
 ·rfl
def qzM (s:Si):Si×Int:=if ¬ qpJ s.e.ph then (s,7) else if ¬ s.e.ask.1=0 then (s,9) else (kP s (qfA 301),0)
theorem qOB {n:Nat} {s:Si} (h:okS n s):okS (n+1) (qzM s).1:=by
 unfold qzM
 split
 ·exact zO h (by omega)
 split
 ·exact zO h (by omega)
 ·exact qj3 h _
theorem qmN {s:Si} {n:Nat} (hs:okS n s) (hn:n≤900000):qjA (s.t,())=some ((qzM s).1.t,(qzM s).2,()):=by
 unfold qjA qzM
 dsimp only
 rw [show s.t.1.2.2.1=s.e.ph from rfl,qwC]
 refine (qF rfl).trans ?_
 by_cases h2:qpJ s.e.ph
 ·rw [D_t h2,if_neg (not_not_intro h2)]
  refine (qB rfl).trans ?_
  rw [show s.t.1.2.2.2.2.2.2.2.2.2.2.2.1.1=s.e.ask.1 from rfl]
  by_cases h3:s.e.ask.1=0
  ·rw [if_neg (not_not_intro h3)]
   refine (qB (bq_f h3)).trans ?_
   exact (zZ (qa5 hs hn 301)).trans rfl
  ·rw [if_pos h3]
   exact qC (bq_t h3)
 ·rw [D_f h2,if_pos h2];rfl
theorem qvN {s:Si} {n:Nat} (hs:okS n s) (hn:n≤900000):qlL (s.t,())=some ((qzM s).1.t,(qzM s).2,()):=by
 unfold qlL qzM
 dsimp only
 rw [show s.t.1.2.2.1=s.e.ph from rfl,qc5]
 refine (qF rfl).trans ?_
 by_cases h2:qpJ s.e.ph
 ·rw [D_t h2,if_neg (not_not_intro h2)]
  refine (qB rfl).trans ?_
  rw [show s.t.1.2.2.2.2.2.2.2.2.2.2.2.1.1=s.e.ask.1 from rfl]
  by_cases h3:s.e.ask.1=0
  ·rw [if_neg (not_not_intro h3)]
   refine (qB (bq_f h3)).trans ?_
   exact (zZ (qcY hs hn 301)).trans rfl
  ·rw [if_pos h3]
   exact qC (bq_t h3)
 ·rw [D_f h2,if_pos h2];rfl
def phS (s:Si) (p:Int):Si:=⟨{ s.e with ph:=p },s.p⟩
def qiU (s:Si):Si:=if s.e.ph=8 then (if (zG s.e.store).2.2.1=true then phS s 0 else phS s 7) else s
theorem qAi {n:Nat} {s:Si} (h:okS n s) {p:Int} (h0:0≤p) (h8:p≤8):okS n (phS s p):=⟨{ h.e with ph:=⟨h0,h8⟩ },h.p⟩
theorem qJ5 {n:Nat} {s:Si} (h:okS n s):okS n (qiU s):=by
 unfold qiU
 split
 ·split
  ·exact qAi h (by omega) (by omega)
  ·exact qAi h (by omega) (by omega)
 ·exact h
theorem qeN {s:Si} {n:Nat} (hs:okS n s):qfI (s.t,())=some ((qiU s).t,()):=by
 have h1:=hs.e.store.1
 have h2:=hs.e.store.2
 have hp:=qo2 hs
 unfold qfI qiU
 dsimp only
 rw [show s.t.1.2.2.2.1=s.e.store from rfl,qmL _ (by omega) (by omega)]
 refine (qF rfl).trans ?_
 have n1:qf3 (s.e.ph,11,())=some (if s.e.ph=8 then (0,true,()) else (s.e.ph,false,())):=by rcases hp with h | h | h | h | h | h | h | h | h <;> rw [h] <;> rfl
 have n2:qf3 (s.e.ph,12,())=some (if s.e.ph=8 then (7,true,()) else (s.e.ph,false,())):=by rcases hp with h | h | h | h | h | h | h | h | h <;> rw [h] <;> rfl
 by_cases hb:(zG s.e.store).2.2.1=true
 ·refine (qC hb).trans ?_
  rw [if_pos hb]
  unfold qcT
  dsimp only
  rw [show s.t.1.2.2.1=s.e.ph from rfl,n1]
  by_cases h8:s.e.ph=8
  ·rw [if_pos h8,if_pos h8];rfl
  ·rw [if_neg h8,if_neg h8];rfl
 ·refine (qB (by simpa using hb)).trans ?_
  rw [if_neg hb]
  unfold qcT
  dsimp only
  rw [show s.t.1.2.2.1=s.e.ph from rfl,n2]
  by_cases h8:s.e.ph=8
  ·rw [if_pos h8,if_pos h8];rfl
  ·rw [if_neg h8,if_neg h8];rfl
theorem qvO {s:Si} {n:Nat} (hs:okS n s):qlM (s.t,())=some ((qiU s).t,()):=by
 have h1:=hs.e.store.1
 have h2:=hs.e.store.2
 unfold qlM qiU
 dsimp only
 rw [show s.t.1.2.2.1=s.e.ph from rfl]
 by_cases h:s.e.ph=8
 ·rw [if_pos h]
  refine (qB (bq_f h)).trans ?_
  rw [show s.t.1.2.2.2.1=s.e.store from rfl,qjQ _ (by omega) (by omega)]
  refine (qF rfl).trans ?_
  by_cases hb:(zG s.e.store).2.2.1=true
  ·rw [if_pos hb];exact qC hb
  ·rw [if_neg hb];exact qB (by simpa using hb)
 ·rw [if_neg h]
  exact qC (bq_t h)
def qAy (s:Si) (k:Int):Si:=⟨{ s.e with got:=s.e.got++[(k,qb7 s.e,0,[],())] },s.p⟩
theorem qwK {n:Nat} {s:Si} (h:okS n s) (k:Int):okS (n+1) (qAy s k):=by
 refine ⟨{ wN h.e (Nat.le_succ n) with got := ?_ },Nat.le_succ_of_le h.p⟩
 have:=h.e.got
 show (s.e.got++[(k,qb7 s.e,0,[],())]).length≤n+1
 rw [List.length_append,List.length_singleton];omega
theorem qi6 {s:Si} {n:Nat} (hs:okS n s) (hn:n≤900000) (k:Int):qfF (s.t,k,())=some ((qAy s k).t,()):=by
 have hg:=hs.e.got
 unfold qfF
 dsimp only
 rw [show s.t.1.2.2.2.2.2.2.2.2.2.2.2.2.2.2.2.2.2.1=s.e.got from rfl,qAC]
 refine (qF rfl).trans ?_
 rw [show xS (s.t.1,())=_ from kZ s.e]
 refine (qF rfl).trans ?_
 refine (qH (by simp only [go_sem,Int.reduceToNat];simp;omega)).trans ?_
 rfl
theorem qtA {s:Si} {n:Nat} (hs:okS n s) (hn:n≤900000) (k:Int):qgO (s.t,k,())=some ((qAy s k).t,()):=by
 have hg:=hs.e.got
 unfold qgO
 dsimp only
 rw [show jN (s.t.1,())=_ from v5 s.e]
 refine (qF rfl).trans ?_
 dsimp only
 rw [show qfQ (s.t.1,k,qb7 s.e,0,none' UInt8,())=_ from qmW s.e k (qb7 s.e) 0 [] (by omega)]
 rfl
def qkM (s:Si):Si:=if s.e.ph=2 then qAy (phS s 3) 4 else s
theorem qMV {n:Nat} {s:Si} (h:okS n s):okS (n+1) (qkM s):=by
 unfold qkM
 split
 ·exact qwK (qAi h (by omega) (by omega)) 4
 ·exact zO h (Nat.le_succ n)
theorem qcV {s:Si} {n:Nat} (hs:okS n s) (hn:n≤900000):yU (s.t,())=some ((qkM s).t,()):=by
 unfold yU qkM
 dsimp only
 rw [show s.t.1.2.2.1=s.e.ph from rfl]
 by_cases h:s.e.ph=2
 ·rw [if_pos h]
  refine (qB (bq_f h)).trans ?_
  rw [show qcT (s.t,3,())=some ((phS s 3).t,()) by
   unfold qcT
   dsimp only
   rw [show s.t.1.2.2.1=s.e.ph from rfl,h];rfl]
  refine (qF rfl).trans ?_
  exact (zZ (qi6 (qAi hs (p:=3) (by omega) (by omega)) hn 4)).trans rfl
 ·rw [if_neg h]
  exact qC (bq_t h)
theorem qtF {s:Si} {n:Nat} (hs:okS n s) (hn:n≤900000):qgS (s.t,())=some ((qkM s).t,()):=by
 unfold qgS qkM
 dsimp only
 rw [show s.t.1.2.2.1=s.e.ph from rfl]
 by_cases h:s.e.ph=2
 ·rw [if_pos h]
  refine (qB (bq_f h)).trans ?_
  exact (zZ (qtA (qAi hs (p:=3) (by omega) (by omega)) hn 4)).trans rfl
 ·rw [if_neg h]
  exact qC (bq_t h)
def qAs (s:Si):Si:=if s.e.ph=1∨s.e.ph=3∨s.e.ph=6 then qbI s 0 else s
theorem qMU {n:Nat} {s:Si} (h:okS n s):okS (n+1) (qAs s):=by
 unfold qAs
 split
 ·exact qbG h (by omega) (by omega)
 ·exact zO h (Nat.le_succ n)
theorem qi9 {s:Si} {n:Nat} (hs:okS n s) (hn:n≤900000):qfH (s.t,())=some ((qAs s).t,()):=by
 have hl:=xK hs hn 0
 have hp:=qo2 hs
 unfold qfH qAs
 dsimp only
 rw [show s.t.1.2.2.1=s.e.ph from rfl]
 rcases hp with h | h | h | h | h | h | h | h | h <;> rw [h]
 ·rfl
 ·refine (qC rfl).trans ((qC rfl).trans ?_)
  exact (zZ hl).trans rfl
 ·rfl
 ·refine (qB rfl).trans ((qC rfl).trans ((qC rfl).trans ?_))
  exact (zZ hl).trans rfl
 ·rfl
 ·rfl
 ·refine (qB rfl).trans ((qB rfl).trans ((qC rfl).trans ?_))
  exact (zZ hl).trans rfl
 ·rfl
 ·rfl
theorem qtE {s:Si} {n:Nat} (hs:okS n s) (hn:n≤900000):qgR (s.t,())=some ((qAs s).t,()):=by
 have hl:=vH hs hn 0
 have hp:=qo2 hs
 unfold qgR qAs
 dsimp only
 rw [show s.t.1.2.2.1=s.e.ph from rfl]
 rcases hp with h | h | h | h | h | h | h | h | h <;> rw [h]
 ·rfl
 ·refine (qF (a:=(true,())) rfl).trans ((qC rfl).trans ?_)
  exact (zZ hl).trans rfl
 ·rfl
 ·refine (qF (a:=(true,())) rfl).trans ((qC rfl).trans ?_)
  exact (zZ hl).trans rfl
 ·rfl
 ·rfl
 ·refine (qF (a:=(true,())) rfl).trans ((qC rfl).trans ?_)
  exact (zZ hl).trans rfl
 ·rfl
 ·rfl
theorem qi4 (s:Si):jU (s.t,())=some ((w9 s 3).t,()):=by
 unfold jU
 exact (zZ (qFw s)).trans rfl
theorem qu2 {s:Si} {n:Nat} (hs:okS n s) (hn:n≤900000) (q:jT):qfE (s.t,q,())=some ((qjD s (qcX q 0)).1.t,()):=by
 unfold qfE
 dsimp only
 rw [qbW]
 refine (qF rfl).trans ?_
 rw [qdM]
 refine (qF rfl).trans ?_
 exact (zZ (qm7 hs hn (qcX q 0))).trans rfl
def qSt (s:Si):Si:=⟨{ s.e with ask:=noA },s.p⟩
def qAk (s:Si) (n:jT):Si :=
 if n.1=true then (if n.2.1=301 then (qjD s (qcX n 0)).1 else if n.2.1=2 then qbI (qjD s (qcX n 0)).1 0 else w9 s 3)
 else if qm5 s.e.ask n.2.1 n.2.2.1 then (if n.2.1=301 then qSt s else if n.2.1=2 then qbI s 0 else w9 s 3) else w9 s 3
theorem qMS {m:Nat} {s:Si} (h:okS m s) (n:jT):okS (m+2) (qAk s n):=by
 unfold qAk
 split
 ·split
  ·exact zO (qo3 h _) (by omega)
  split
  ·exact qbG (qo3 h _) (by omega) (by omega)
  ·exact zO (qwL h 3) (by omega)
 ·split
  ·split
   ·exact ⟨wN (n:=m) { h.e with } (by omega),Nat.le_trans h.p (by omega)⟩
   split
   ·exact zO (qbG h (by omega) (by omega)) (by omega)
   ·exact zO (qwL h 3) (by omega)
  ·exact zO (qwL h 3) (by omega)
theorem qi8 {s:Si} {m:Nat} (hs:okS m s) (hm:m≤800000) (n:jT):qcE (s.t,n,())=some ((qAk s n).t,()):=by
 have hst:(ob (jU (s.t,())) fun (a:kC×Unit)=>(some (a.1,()):Option (kC×Unit)))=some ((w9 s 3).t,()):=(zZ (qi4 s)).trans rfl
 have hrp:=qu2 hs (by omega) n
 have hok:=qo3 hs (qcX n 0)
 unfold qcE qAk
 dsimp only
 rw [show s.t.1.2.2.2.2.2.2.2.2.2.2.2.1=s.e.ask from rfl,qnF]
 by_cases h1:n.2.1=301
 ·refine (qC (kM h1)).trans ?_
  cases hq:n.1
  ·rw [if_neg (by decide),h1]
   refine (qB rfl).trans ((qF rfl).trans ?_)
   by_cases hm:qm5 s.e.ask 301 n.2.2.1
   ·rw [D_t hm,if_pos hm,if_pos rfl];rfl
   ·rw [D_f hm,if_neg hm];exact (qB rfl).trans hst
  ·rw [if_pos rfl,if_pos h1]
   exact (qC rfl).trans ((zZ hrp).trans rfl)
 ·refine (qB (vX h1)).trans ?_
  by_cases h2:n.2.1=2
  ·refine (qC (kM h2)).trans ?_
   cases hq:n.1
   ·rw [if_neg (by decide),h2]
    refine (qB rfl).trans ((qF rfl).trans ?_)
    by_cases hm:qm5 s.e.ask 2 n.2.2.1
    ·rw [D_t hm,if_pos hm,if_neg (by decide),if_pos rfl]
     exact (qC rfl).trans ((zZ (xK hs (by omega) 0)).trans rfl)
    ·rw [D_f hm,if_neg hm];exact (qB rfl).trans hst
   ·rw [if_pos rfl,if_neg h1,if_pos h2]
    refine (qC rfl).trans ?_
    rw [hrp]
    refine (qF rfl).trans ?_
    exact (zZ (xK hok (by omega) 0)).trans rfl
  ·refine (qB (vX h2)).trans ?_
   rw [hst]
   cases hq:n.1
   ·rw [if_neg (by decide),if_neg h1,if_neg h2]
    split <;> rfl
   ·rw [if_pos rfl,if_neg h1,if_neg h2]
theorem qtD {s:Si} {m:Nat} (hs:okS m s) (hm:m≤800000) (n:jT):qgQ (s.t,n,())=some ((qAk s n).t,()):=by
 have hst:(ob (qaF (s.t,())) fun (a:kC×Unit)=>(some (a.1,()):Option (kC×Unit)))=some ((w9 s 3).t,()):=qKL s
 have hok:=qo3 hs (qcX n 0)
 have hsd:=qjJ hs (by omega) (qcX n 0)
 unfold qgQ qAk
 dsimp only
 rw [show s.t.1.2.2.2.2.2.2.2.2.2.2.2.1=s.e.ask from rfl,qtK]
 refine (qF rfl).trans ?_
 dsimp only
 cases hq:n.1
 ·rw [if_neg (by decide)]
  refine (qF (a:=(false,())) rfl).trans ((qB rfl).trans ((qF (a:=(false,())) rfl).trans ((qB rfl).trans ?_)))
  by_cases hm:qm5 s.e.ask n.2.1 n.2.2.1
  ·rw [D_t hm,if_pos hm]
   by_cases h1:n.2.1=301
   ·rw [if_pos h1]
    refine (qF (a:=(true,())) (by rw [kM h1];rfl)).trans ((qC rfl).trans ?_)
    rfl
   ·rw [if_neg h1]
    refine (qF (a:=(false,())) (by rw [vX h1];rfl)).trans ((qB rfl).trans ?_)
    by_cases h2:n.2.1=2
    ·rw [if_pos h2]
     refine (qF (a:=(true,())) (by rw [kM h2];rfl)).trans ((qC rfl).trans ?_)
     exact (zZ (vH hs (by omega) 0)).trans rfl
    ·rw [if_neg h2]
     refine (qF (a:=(false,())) (by rw [vX h2];rfl)).trans ((qB rfl).trans ?_)
     exact hst
  ·rw [D_f hm,if_neg hm]
   refine (qF (a:=(false,())) rfl).trans ((qB rfl).trans ((qF (a:=(false,())) rfl).trans ((qB rfl).trans ?_)))
   exact hst
 ·rw [if_pos rfl]
  by_cases h1:n.2.1=301
  ·rw [if_pos h1]
   refine (qF (a:=(true,())) (by rw [kM h1];rfl)).trans ((qC rfl).trans ?_)
   rw [qiE]
   refine (qF rfl).trans ?_
   exact (zZ hsd).trans rfl
  ·rw [if_neg h1]
   refine (qF (a:=(false,())) (by rw [vX h1];rfl)).trans ((qB rfl).trans ?_)
   by_cases h2:n.2.1=2
   ·rw [if_pos h2]
    refine (qF (a:=(true,())) (by rw [kM h2];rfl)).trans ((qC rfl).trans ?_)
    rw [qiE]
    refine (qF rfl).trans ?_
    rw [hsd]
    refine (qF rfl).trans ?_
    exact (zZ (vH hok (by omega) 0)).trans rfl
   ·rw [if_neg h2]
    refine (qF (a:=(false,())) (by rw [vX h2];rfl)).trans ((qB rfl).trans ((qF (a:=(false,())) rfl).trans ((qB rfl).trans ((qF (a:=(false,())) rfl).trans ((qB rfl).trans ?_)))))
    exact hst
end Yp