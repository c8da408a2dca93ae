/- The tables of the translation: types, functions, plans of the regions whose order is drawn, policies. Printed by gen.lean. -/
import Derived.Test.YtgekgcffmmbhbaaGreatChecked
import Derived.Test.YtgekgcffmmbhbaaGreatA22
import Derived.Laws.Externs
import Derived.KernelRfl
set_option maxRecDepth 100000
noncomputable section
namespace Go.Proofs.YtgekgcffmmbhbaaGreat.T
open Go Go.A
def z1 : V := .sc .nilFunc
def z2 : V := .sc (.int .i64 0)
def z3 : V := .sc (.int .i64 0)
def z4 : V := .sc (.bool false)
def z5 : V := .sc (.int .u8 0)
def z6 : V := .sc (.int .u8 0)
def z7 : V := .agg [z2, z3, z4, z6]
def z8 : V := .agg [z2, z3, z4, z6]
def z9 : V := .sc (.string ⟨#[]⟩)
def z10 : V := .sc (.string ⟨#[]⟩)
def z11 : V := .sc (.string ⟨#[]⟩)
def z12 : V := .sc (.int .u64 0)
def z13 : V := .agg [z9, z12]
def z14 : V := .agg [z9, z12]
def z15 : V := .sc (.pointer none)
def z16 : V := .sc (.pointer none)
def z17 : V := .sc (.pointer none)
def z18 : V := .agg [z17]
def z19 : V := .agg [z17]
def z20 : V := .sc .nilIface
def z21 : V := .sc (.int .i32 0)
def z22 : V := (.nl true)
def z23 : V := .agg (List.replicate 16 z5)
def z24 : V := .agg (List.replicate 16 z5)
def z25 : V := .sc (.pointer none)
def z26 : V := (.nl true)
def z27 : V := .sc (.int .i64 0)
def z29 : V := .sc .nilFunc
def z30 : V := .agg [z2, z2]
def z31 : V := .agg [z2, z2]
def z32 : V := (.nl true)
def z33 : V := .agg [z4, z4, z31, z31, z24, z2, z32, z2]
def z34 : V := .agg [z4, z4, z31, z31, z24, z2, z32, z2]
def z35 : V := .sc .nilFunc
def z36 : V := .sc .nilFunc
def z37 : V := .sc .nilFunc
def z38 : V := (.nl true)
def z39 : V := .sc .nilFunc
def z40 : V := (.nl true)
def z41 : V := .sc .nilFunc
def z42 : V := .sc .nilFunc
def z43 : V := (.nl true)
def z44 : V := .sc .nilFunc
def z45 : V := (.nl true)
def z46 : V := .sc .nilFunc
def z47 : V := .sc .nilFunc
def z48 : V := .agg [z3, z3, z3, z3, z24, z22]
def z49 : V := .agg [z3, z3, z3, z3, z24, z22]
def z50 : V := .sc (.pointer none)
def z51 : V := (.nl true)
def z52 : V := .agg [z4, z24, z2, z45, z43, z51]
def z53 : V := .agg [z4, z24, z2, z45, z43, z51]
def z54 : V := .sc .nilFunc
def z55 : V := .sc .nilFunc
def z56 : V := .sc .nilFunc
def z57 : V := .sc .nilFunc
def z58 : V := .sc .nilFunc
def z59 : V := .sc .nilFunc
def z60 : V := .sc .nilFunc
def z61 : V := (.nl true)
def z62 : V := .sc .nilFunc
def z63 : V := .sc .nilFunc
def z64 : V := .agg [z3, z24]
def z65 : V := .agg [z3, z24]
def z66 : V := .sc (.pointer none)
def z67 : V := .sc (.pointer none)
def z68 : V := .sc (.pointer none)
def z69 : V := .agg (List.replicate 6 z68)
def z70 : V := .sc (.map none)
def z71 : V := (.nl true)
def z72 : V := (.nl true)
def z73 : V := .sc (.pointer none)
def z74 : V := .agg [z65, z3, z66, z67, z69, z2, z2, z2, z70, z71, z72, z73, z26, z40, z3]
def z75 : V := .agg [z65, z3, z66, z67, z69, z2, z2, z2, z70, z71, z72, z73, z26, z40, z3]
def z76 : V := .sc (.int .u64 0)
def z77 : V := .agg [z2, z24]
def z78 : V := .agg [z2, z24]
def z79 : V := .agg [z24, z78, z22]
def z80 : V := .agg [z24, z78, z22]
def z81 : V := .agg [z24, z24, z2, z3, z3, z80, z22]
def z82 : V := .agg [z24, z24, z2, z3, z3, z80, z22]
def z83 : V := .agg []
def z84 : V := .sc .nilFunc
def z85 : V := .sc .nilFunc
def z87 : V := .sc .nilFunc
def z89 : V := .sc .nilFunc
def z91 : V := .sc .nilFunc
def z93 : V := .sc .nilFunc
def z94 : V := .agg [z3, z24, z3, z3]
def z95 : V := .agg [z3, z24, z3, z3]
def z96 : V := .sc (.pointer none)
def z97 : V := .sc .nilFunc
def z98 : V := .agg [z3, z22]
def z99 : V := .agg [z3, z22]
def z100 : V := .agg [z24, z2]
def z101 : V := .agg [z24, z2]
def z102 : V := .agg [z101, z24, z24, z3, z3]
def z103 : V := .agg [z101, z24, z24, z3, z3]
def z104 : V := .sc .nilFunc
def z105 : V := .sc .nilFunc
def z106 : V := (.nl true)
def z107 : V := .sc .nilFunc
def z108 : V := .sc .nilFunc
def z109 : V := .agg [z3, z24, z2]
def z110 : V := .agg [z3, z24, z2]
def z111 : V := .sc .nilFunc
def z112 : V := .sc .nilFunc
def z113 : V := (.nl true)
def z114 : V := .sc .nilFunc
def z115 : V := .sc .nilFunc
def z116 : V := (.nl true)
def z117 : V := .agg [z116, z113]
def z118 : V := .agg [z116, z113]
def z119 : V := .sc .nilFunc
def z120 : V := .sc .nilFunc
def z121 : V := .sc .nilFunc
def z122 : V := .agg [z101, z4]
def z123 : V := .agg [z101, z4]
def z124 : V := (.nl true)
def z125 : V := .sc .nilFunc
def z126 : V := .sc .nilFunc
def z127 : V := .agg [z101, z4, z124]
def z128 : V := .agg [z101, z4, z124]
def z129 : V := (.nl true)
def z130 : V := .sc .nilFunc
def z131 : V := .agg [z3, z24]
def z132 : V := (.nl true)
def z133 : V := .agg [z3, z101, z4, z24, z24, z2, z31, z31, z132, z124, z80, z3, z3, z22]
def z134 : V := .agg [z3, z101, z4, z24, z24, z2, z31, z31, z132, z124, z80, z3, z3, z22]
def z135 : V := .sc .nilFunc
def z136 : V := .agg [z24, z2]
def z137 : V := .agg [z24, z2]
def z138 : V := .agg [z3, z134]
def z139 : V := .agg [z3, z134]
def z140 : V := .sc .nilFunc
def z141 : V := (.nl true)
def z142 : V := .sc .nilFunc
def z143 : V := .agg [z24, z80]
def z144 : V := .agg [z24, z80]
def z146 : V := .sc .nilFunc
def z147 : V := .agg [z101, z4, z80]
def z148 : V := .agg [z101, z4, z80]
def z150 : V := .sc .nilFunc
def z151 : V := .agg [z4, z4, z22, z4, z106]
def z152 : V := .agg [z4, z4, z22, z4, z106]
def z153 : V := .sc .nilFunc
def z154 : V := .sc .nilFunc
def z155 : V := .sc .nilFunc
def z156 : V := .agg [z124, z3, z3, z3]
def z157 : V := .agg [z124, z3, z3, z3]
def z158 : V := (.nl true)
def z159 : V := (.nl true)
def z160 : V := (.nl true)
def z161 : V := (.nl true)
def z162 : V := .agg [z157, z158, z159, z160, z161, z61, z3]
def z163 : V := .agg [z157, z158, z159, z160, z161, z61, z3]
def z165 : V := .sc .nilFunc
def z166 : V := (.nl true)
def z167 : V := .agg [z24, z4, z101, z3]
def z168 : V := .agg [z24, z4, z101, z3]
def z169 : V := .agg [z3, z24, z24, z2, z3, z3, z27, z101, z80, z22, z168]
def z170 : V := .agg [z3, z24, z24, z2, z3, z3, z27, z101, z80, z22, z168]
def z171 : V := .agg [z3, z3, z170]
def z172 : V := .agg [z3, z3, z170]
def z173 : V := .sc (.pointer none)
def z174 : V := (.nl true)
def z175 : V := .sc .nilFunc
def z176 : V := .sc .nilFunc
def z177 : V := .sc .nilFunc
def z178 : V := .sc .nilFunc
def z180 : V := .sc .nilFunc
def z181 : V := .sc .nilFunc
def z182 : V := .sc (.pointer none)
def z183 : V := .sc (.map none)
def z184 : V := .agg [z182, z183, z2]
def z185 : V := .agg [z182, z183, z2]
def z186 : V := .sc .nilFunc
def z187 : V := .sc (.pointer none)
def z188 : V := .agg [z24, z4, z4, z31, z31, z24, z187]
def z189 : V := .agg [z24, z4, z4, z31, z31, z24, z187]
def z191 : V := .sc .nilFunc
def z193 : V := .sc .nilFunc
def z194 : V := .sc .nilFunc
def z195 : V := .sc .nilFunc
def z196 : V := .sc .nilFunc
def z197 : V := (.nl true)
def z198 : V := .agg [z197, z3, z3]
def z199 : V := .agg [z197, z3, z3]
def z200 : V := .sc .nilFunc
def z201 : V := .sc .nilFunc
def z202 : V := .sc .nilFunc
def z204 : V := .sc .nilFunc
def z205 : V := .sc .nilFunc
def z206 : V := .agg [z31, z31, z2, z22]
def z207 : V := .agg [z31, z31, z2, z22]
def z208 : V := .sc .nilFunc
def z209 : V := .agg [z24, z3, z3, z101]
def z210 : V := .agg [z24, z3, z3, z101]
def z211 : V := .sc .nilFunc
def z212 : V := .sc .nilFunc
def z213 : V := .agg [z24, z24, z3, z101, z4, z132]
def z214 : V := .agg [z24, z24, z3, z101, z4, z132]
def z216 : V := .sc .nilFunc
def z217 : V := .sc .nilFunc
def z218 : V := .sc .nilFunc
def z219 : V := .sc .nilFunc
def z220 : V := .sc .nilIface
def z221 : V := .sc .nilIface
def z222 : V := .sc .nilFunc
def z223 : V := .sc .nilFunc
def z224 : V := .sc .nilFunc
def z225 : V := .sc .nilFunc
def z226 : V := .sc .nilFunc
def z227 : V := .sc .nilFunc
def z228 : V := .sc .nilFunc
def z229 : V := .agg [z31, z31, z24]
def z230 : V := .agg [z31, z31, z24]
def z231 : V := .agg [z31, z31, z2]
def z232 : V := .agg [z31, z31, z2]
def z233 : V := .agg [z101, z24, z24, z132]
def z234 : V := .agg [z101, z24, z24, z132]
def z235 : V := .agg [z101]
def z236 : V := .agg [z101]
def z237 : V := .sc .nilFunc
def z238 : V := .agg [z101, z4, z24, z78]
def z239 : V := .agg [z101, z4, z24, z78]
def z240 : V := .sc (.map none)
def z241 : V := .agg [z240]
def z242 : V := .agg [z240]
def z243 : V := .agg [z24, z24]
def z244 : V := .agg [z24, z24]
def z245 : V := .sc .nilFunc
def z246 : V := .sc .nilFunc
def z247 : V := .sc .nilFunc
def z248 : V := .sc .nilFunc
def z249 : V := .sc .nilFunc
def z250 : V := .sc (.pointer none)
def z251 : V := .agg [z22, z3]
def z252 : V := .agg [z22, z3]
def z253 : V := .sc .nilFunc
def z254 : V := .sc .nilFunc
def z255 : V := .sc .nilFunc
def z256 : V := .sc .nilFunc
def z257 : V := .sc .nilFunc
def z258 : V := .sc .nilFunc
def z259 : V := .sc .nilFunc
def z261 : V := .sc .nilFunc
def z263 : V := .sc .nilFunc
def z264 : V := .sc .nilFunc
def z265 : V := .sc .nilFunc
def z266 : V := .sc .nilFunc
def z267 : V := .agg [z116, z4, z4]
def z268 : V := .agg [z116, z4, z4]
def z269 : V := .sc .nilFunc
def z270 : V := .sc .nilFunc
def z271 : V := .sc .nilFunc
def z272 : V := .sc .nilFunc
def z273 : V := .sc .nilFunc
def z274 : V := .sc .nilFunc
def z275 : V := .sc .nilFunc
def z276 : V := .agg [z32]
def z277 : V := .agg [z32]
def z278 : V := .agg (List.replicate 64 z5)
def z279 : V := .sc .nilFunc
def z280 : V := .sc .nilFunc
def z281 : V := .sc (.int .u64 0)
def z282 : V := .agg [z96, z281, z3, z3, z4]
def z283 : V := .agg [z96, z281, z3, z3, z4]
def z284 : V := (.nl true)
def z285 : V := .sc .nilFunc
def z286 : V := .sc .nilFunc
def z287 : V := .sc .nilFunc
def z289 : V := .sc .nilFunc
def z291 : V := .sc .nilFunc
def z293 : V := .agg [z2, z32, z2]
def z294 : V := .agg [z2, z32, z2]
def z296 : V := .sc .nilFunc
def z297 : V := .sc .nilFunc
def z298 : V := .sc .nilFunc
def z299 : V := .sc (.map none)
def z300 : V := .agg [z3, z299]
def z301 : V := .agg [z3, z299]
def z302 : V := .sc .nilFunc
def z303 : V := .sc .nilFunc
def z304 : V := .sc .nilFunc
def z305 : V := .sc (.pointer none)
def z306 : V := .agg [z22]
def z307 : V := .agg [z22]
def z308 : V := .sc .nilFunc
def z309 : V := .sc .nilFunc
def z310 : V := .sc .nilFunc
def z311 : V := .sc .nilFunc
def z312 : V := .sc .nilFunc
def z313 : V := .sc .nilFunc
def z314 : V := .sc .nilFunc
def z315 : V := .sc .nilFunc
def z316 : V := .sc .nilFunc
def z317 : V := .sc .nilFunc
def z318 : V := .sc .nilFunc
def z319 : V := .sc .nilFunc
def z320 : V := .sc .nilFunc
def z321 : V := .sc .nilFunc
def z323 : V := .sc .nilFunc
def z324 : V := .sc (.pointer none)
def z325 : V := .sc .nilFunc
def z326 : V := .sc .nilFunc
def z327 : V := .sc .nilFunc
def z328 : V := .sc .nilFunc
def z329 : V := .sc .nilFunc
def z330 : V := .sc .nilFunc
def z331 : V := .sc .nilFunc
def z332 : V := .sc .nilFunc
def z333 : V := .sc .nilFunc
def z334 : V := .sc .nilFunc
def z335 : V := .sc .nilFunc
def z336 : V := .sc .nilFunc
def z337 : V := .sc .nilFunc
def z338 : V := .sc .nilFunc
def z340 : V := .sc .nilFunc
def z342 : V := .sc .nilFunc
def z344 : V := .sc .nilFunc
def z345 : V := .sc .nilFunc
def z347 : V := .sc .nilFunc
def z348 : V := .sc .nilFunc
def z349 : V := .sc .nilFunc
def z350 : V := .sc .nilFunc
def z351 : V := .sc .nilFunc
def z353 : V := .sc .nilFunc
def z354 : V := .sc .nilFunc
def z355 : V := .sc .nilFunc
def z356 : V := .sc .nilFunc
def z357 : V := .sc .nilFunc
def z358 : V := .sc .nilFunc
def z360 : V := .sc .nilFunc
def z361 : V := .sc .nilFunc
def z362 : V := (.nl true)
def z363 : V := (.nl true)
def z365 : V := .sc .nilFunc
def z366 : V := .sc .nilFunc
def z367 : V := .sc .nilFunc
def z368 : V := .sc .nilFunc
def z369 : V := .sc .nilFunc
def z370 : V := .sc (.int .i64 0)
def z372 : V := .sc .nilFunc
def z373 : V := .sc .nilFunc
def z374 : V := .sc .nilFunc
def z376 : V := .sc .nilFunc
def z377 : V := .sc .nilFunc
def z378 : V := .sc (.int .u32 0)
def z379 : V := .sc .nilFunc
def z380 : V := .sc .nilFunc
def z381 : V := .sc .nilFunc
def z382 : V := .sc .nilFunc
def z383 : V := .sc .nilFunc
def z384 : V := .sc .nilFunc
def z386 : V := .sc .nilFunc
def z387 : V := .sc .nilFunc
def z388 : V := .sc .nilFunc
def z389 : V := .sc .nilFunc
def z390 : V := .sc .nilFunc
def z391 : V := .sc .nilFunc
def z392 : V := .sc (.int .u64 0)
def z393 : V := .sc .nilFunc
def z394 : V := .sc .nilFunc
def z395 : V := .sc .nilFunc
def z396 : V := .sc (.pointer none)
def z397 : V := .sc .nilFunc
def z398 : V := .sc .nilFunc
def z399 : V := .sc .nilFunc
def z400 : V := .sc (.pointer none)
def z402 : V := .sc .nilFunc
def z403 : V := .sc .nilFunc
def z404 : V := .sc .nilFunc
def z405 : V := .sc .nilFunc
def z406 : V := .sc .nilFunc
def z407 : V := .sc .nilFunc
def z408 : V := .sc .nilFunc
def z409 : V := .sc .nilFunc
def z410 : V := .sc .nilFunc
def z411 : V := .sc .nilFunc
def z412 : V := .agg [z17, z17, z17, z9]
def z413 : V := .agg [z17, z17, z17, z9]
def z414 : V := .agg (List.replicate 0 z16)
def z415 : V := .agg [z414]
def z416 : V := .agg [z414]
def z417 : V := .sc .nilFunc
def z418 : V := .sc (.int .u8 0)
def z419 : V := .sc (.int .u8 0)
def z420 : V := .sc .nilFunc
def z421 : V := .sc (.pointer none)
def z422 : V := .sc (.int .i32 0)
def z423 : V := .sc (.int .i32 0)
def z424 : V := .agg [z12, z12, z378, z418, z5, z5, z419, z420, z421, z422, z423]
def z425 : V := .agg [z12, z12, z378, z418, z5, z5, z419, z420, z421, z422, z423]
/-- func() -/
def ti1 : TI := ⟨.other, 1, 8, z1, false⟩
/-- int64 -/
def ti2 : TI := ⟨.int .i64, 1, 8, z2, false⟩
/-- int -/
def ti3 : TI := ⟨.int .i64, 1, 8, z3, false⟩
/-- bool -/
def ti4 : TI := ⟨.bool, 1, 1, z4, false⟩
/-- uint8 -/
def ti5 : TI := ⟨.int .u8, 1, 1, z5, false⟩
/-- abi.BoundsErrorCode -/
def ti6 : TI := ⟨.int .u8, 1, 1, z6, false⟩
/-- struct { x int64; y int; signed bool; code abi.BoundsErrorCode } -/
def ti7 : TI := ⟨.str [(0, 1, false, 2), (1, 1, false, 3), (2, 1, false, 4), (3, 1, false, 6)], 4, 24, z7, true⟩
/-- runtime.boundsError -/
def ti8 : TI := ⟨.str [(0, 1, false, 2), (1, 1, false, 3), (2, 1, false, 4), (3, 1, false, 6)], 4, 24, z8, true⟩
/-- string -/
def ti9 : TI := ⟨.strg, 1, 16, z9, false⟩
/-- runtime.errorString -/
def ti10 : TI := ⟨.strg, 1, 16, z10, false⟩
/-- runtime.plainError -/
def ti11 : TI := ⟨.strg, 1, 16, z11, false⟩
/-- uintptr -/
def ti12 : TI := ⟨.int .u64, 1, 8, z12, false⟩
/-- struct { msg string; addr uintptr } -/
def ti13 : TI := ⟨.str [(0, 1, false, 9), (1, 1, false, 12)], 2, 24, z13, false⟩
/-- runtime.errorAddressString -/
def ti14 : TI := ⟨.str [(0, 1, false, 9), (1, 1, false, 12)], 2, 24, z14, false⟩
/-- *runtime.TypeAssertionError -/
def ti15 : TI := ⟨.ptr 413, 1, 8, z15, false⟩
/-- *runtime.PanicNilError -/
def ti16 : TI := ⟨.ptr 416, 1, 8, z16, false⟩
/-- *abi.Type -/
def ti17 : TI := ⟨.ptr 425, 1, 8, z17, false⟩
/-- struct { typ *abi.Type } -/
def ti18 : TI := ⟨.str [(0, 1, false, 17)], 1, 8, z18, false⟩
/-- maps.unhashableTypeError -/
def ti19 : TI := ⟨.str [(0, 1, false, 17)], 1, 8, z19, false⟩
/-- interface {} -/
def ti20 : TI := ⟨.ifc, 1, 16, z20, false⟩
/-- int32 -/
def ti21 : TI := ⟨.int .i32, 1, 4, z21, false⟩
/-- []uint8 -/
def ti22 : TI := ⟨.slc 5, 1, 24, z22, false⟩
/-- [16]uint8 -/
def ti23 : TI := ⟨.arr 16 5, 16, 16, z23, true⟩
/-- api.ID -/
def ti24 : TI := ⟨.arr 16 5, 16, 16, z24, true⟩
/-- *node.Node -/
def ti25 : TI := ⟨.ptr 75, 1, 8, z25, false⟩
/-- []node.Send -/
def ti26 : TI := ⟨.slc 99, 1, 24, z26, false⟩
/-- api.Errno -/
def ti27 : TI := ⟨.int .i64, 1, 8, z27, false⟩
/-- func(int, api.ID, []uint8) (int64, []node.Send, api.Errno) -/
def ti29 : TI := ⟨.other, 1, 8, z29, false⟩
/-- struct { Inc int64; N int64 } -/
def ti30 : TI := ⟨.str [(0, 1, false, 2), (1, 1, false, 2)], 2, 16, z30, true⟩
/-- api.Num -/
def ti31 : TI := ⟨.str [(0, 1, false, 2), (1, 1, false, 2)], 2, 16, z31, true⟩
/-- [][]uint8 -/
def ti32 : TI := ⟨.slc 22, 1, 24, z32, false⟩
/-- struct { Up bool; Open bool; Mine api.Num; Peer api.Num; ID api.ID; Base int64; Out [][]uint8; Got int64 } -/
def ti33 : TI := ⟨.str [(0, 1, false, 4), (1, 1, false, 4), (2, 2, true, 31), (4, 2, true, 31), (6, 16, true, 24), (22, 1, false, 2), (23, 1, false, 32), (24, 1, false, 2)], 25, 96, z33, false⟩
/-- node.End -/
def ti34 : TI := ⟨.str [(0, 1, false, 4), (1, 1, false, 4), (2, 2, true, 31), (4, 2, true, 31), (6, 16, true, 24), (22, 1, false, 2), (23, 1, false, 32), (24, 1, false, 2)], 25, 96, z34, false⟩
/-- func(int) node.End -/
def ti35 : TI := ⟨.other, 1, 8, z35, false⟩
/-- func() bool -/
def ti36 : TI := ⟨.other, 1, 8, z36, false⟩
/-- func([]bool) []node.Send -/
def ti37 : TI := ⟨.other, 1, 8, z37, false⟩
/-- []bool -/
def ti38 : TI := ⟨.slc 4, 1, 24, z38, false⟩
/-- func(int, []uint8) []node.Send -/
def ti39 : TI := ⟨.other, 1, 8, z39, false⟩
/-- []node.Event -/
def ti40 : TI := ⟨.slc 170, 1, 24, z40, false⟩
/-- func() []node.Event -/
def ti41 : TI := ⟨.other, 1, 8, z41, false⟩
/-- func() int64 -/
def ti42 : TI := ⟨.other, 1, 8, z42, false⟩
/-- []api.Item -/
def ti43 : TI := ⟨.slc 80, 1, 24, z43, false⟩
/-- func() []api.Item -/
def ti44 : TI := ⟨.other, 1, 8, z44, false⟩
/-- []api.Entry -/
def ti45 : TI := ⟨.slc 103, 1, 24, z45, false⟩
/-- func() []api.Entry -/
def ti46 : TI := ⟨.other, 1, 8, z46, false⟩
/-- func(int, []uint8, api.ID) bool -/
def ti47 : TI := ⟨.other, 1, 8, z47, false⟩
/-- struct { Kind int; A int; B int; I int; ID api.ID; Text []uint8 } -/
def ti48 : TI := ⟨.str [(0, 1, false, 3), (1, 1, false, 3), (2, 1, false, 3), (3, 1, false, 3), (4, 16, true, 24), (20, 1, false, 22)], 21, 72, z48, false⟩
/-- world.Op -/
def ti49 : TI := ⟨.str [(0, 1, false, 3), (1, 1, false, 3), (2, 1, false, 3), (3, 1, false, 3), (4, 16, true, 24), (20, 1, false, 22)], 21, 72, z49, false⟩
/-- *world.World -/
def ti50 : TI := ⟨.ptr 163, 1, 8, z50, false⟩
/-- []node.End -/
def ti51 : TI := ⟨.slc 34, 1, 24, z51, false⟩
/-- struct { Up bool; ID api.ID; Inc int64; Entries []api.Entry; Items []api.Item; Ends []node.End } -/
def ti52 : TI := ⟨.str [(0, 1, false, 4), (1, 16, true, 24), (17, 1, false, 2), (18, 1, false, 45), (19, 1, false, 43), (20, 1, false, 51)], 21, 104, z52, false⟩
/-- world.View -/
def ti53 : TI := ⟨.str [(0, 1, false, 4), (1, 16, true, 24), (17, 1, false, 2), (18, 1, false, 45), (19, 1, false, 43), (20, 1, false, 51)], 21, 104, z53, false⟩
/-- func(int) world.View -/
def ti54 : TI := ⟨.other, 1, 8, z54, false⟩
/-- func() *world.World -/
def ti55 : TI := ⟨.other, 1, 8, z55, false⟩
/-- func(int, int) bool -/
def ti56 : TI := ⟨.other, 1, 8, z56, false⟩
/-- func(int, int) [][]uint8 -/
def ti57 : TI := ⟨.other, 1, 8, z57, false⟩
/-- func(int) []uint8 -/
def ti58 : TI := ⟨.other, 1, 8, z58, false⟩
/-- func(world.Op) bool -/
def ti59 : TI := ⟨.other, 1, 8, z59, false⟩
/-- func() int -/
def ti60 : TI := ⟨.other, 1, 8, z60, false⟩
/-- []world.Event -/
def ti61 : TI := ⟨.slc 172, 1, 24, z61, false⟩
/-- func() []world.Event -/
def ti62 : TI := ⟨.other, 1, 8, z62, false⟩
/-- func(world.Op, int, int) bool -/
def ti63 : TI := ⟨.other, 1, 8, z63, false⟩
/-- struct { N int; ID api.ID } -/
def ti64 : TI := ⟨.str [(0, 1, false, 3), (1, 16, true, 24)], 17, 24, z64, true⟩
/-- setup.Self -/
def ti65 : TI := ⟨.str [(0, 1, false, 3), (1, 16, true, 24)], 17, 24, z65, true⟩
/-- *vault.Vault -/
def ti66 : TI := ⟨.ptr 185, 1, 8, z66, false⟩
/-- *table.Table -/
def ti67 : TI := ⟨.ptr 301, 1, 8, z67, false⟩
/-- *hello.End -/
def ti68 : TI := ⟨.ptr 189, 1, 8, z68, false⟩
/-- [6]*hello.End -/
def ti69 : TI := ⟨.arr 6 68, 6, 48, z69, false⟩
/-- map[int64]struct {} -/
def ti70 : TI := ⟨.map 2 83, 1, 8, z70, false⟩
/-- []rep.Heard -/
def ti71 : TI := ⟨.slc 110, 1, 24, z71, false⟩
/-- []seek.Cand -/
def ti72 : TI := ⟨.slc 210, 1, 24, z72, false⟩
/-- *copies.Book -/
def ti73 : TI := ⟨.ptr 242, 1, 8, z73, false⟩
/-- struct { setup.Self; half int; v *vault.Vault; t *table.Table; ends [6]*hello.End; nums int64; made int64; reqs int64; open map[int64]struct {}; heard []rep.Heard; told []seek.Cand; book *copies.Book; sends []node.Send; events []node.Event; begun int } -/
def ti74 : TI := ⟨.str [(0, 17, true, 65), (17, 1, false, 3), (18, 1, false, 66), (19, 1, false, 67), (20, 6, true, 69), (26, 1, false, 2), (27, 1, false, 2), (28, 1, false, 2), (29, 1, false, 70), (30, 1, false, 71), (31, 1, false, 72), (32, 1, false, 73), (33, 1, false, 26), (34, 1, false, 40), (35, 1, false, 3)], 36, 240, z74, false⟩
/-- node.Node -/
def ti75 : TI := ⟨.str [(0, 17, true, 65), (17, 1, false, 3), (18, 1, false, 66), (19, 1, false, 67), (20, 6, true, 69), (26, 1, false, 2), (27, 1, false, 2), (28, 1, false, 2), (29, 1, false, 70), (30, 1, false, 71), (31, 1, false, 72), (32, 1, false, 73), (33, 1, false, 26), (34, 1, false, 40), (35, 1, false, 3)], 36, 240, z75, false⟩
/-- uint -/
def ti76 : TI := ⟨.int .u64, 1, 8, z76, false⟩
/-- struct { N int64; Who api.ID } -/
def ti77 : TI := ⟨.str [(0, 1, false, 2), (1, 16, true, 24)], 17, 24, z77, true⟩
/-- api.Ver -/
def ti78 : TI := ⟨.str [(0, 1, false, 2), (1, 16, true, 24)], 17, 24, z78, true⟩
/-- struct { Key api.ID; Ver api.Ver; Value []uint8 } -/
def ti79 : TI := ⟨.str [(0, 16, true, 24), (16, 17, true, 78), (33, 1, false, 22)], 34, 64, z79, false⟩
/-- api.Item -/
def ti80 : TI := ⟨.str [(0, 16, true, 24), (16, 17, true, 78), (33, 1, false, 22)], 34, 64, z80, false⟩
/-- struct { Src api.ID; Dst api.ID; Req int64; Op int; TTL int; Item api.Item; Text []uint8 } -/
def ti81 : TI := ⟨.str [(0, 16, true, 24), (16, 16, true, 24), (32, 1, false, 2), (33, 1, false, 3), (34, 1, false, 3), (35, 34, true, 80), (69, 1, false, 22)], 70, 144, z81, false⟩
/-- frame.Packet -/
def ti82 : TI := ⟨.str [(0, 16, true, 24), (16, 16, true, 24), (32, 1, false, 2), (33, 1, false, 3), (34, 1, false, 3), (35, 34, true, 80), (69, 1, false, 22)], 70, 144, z82, false⟩
/-- struct {} -/
def ti83 : TI := ⟨.str [], 0, 0, z83, true⟩
/-- func(frame.Packet) -/
def ti84 : TI := ⟨.other, 1, 8, z84, false⟩
/-- func() []node.Send -/
def ti85 : TI := ⟨.other, 1, 8, z85, false⟩
/-- func() (api.ID, bool) -/
def ti87 : TI := ⟨.other, 1, 8, z87, false⟩
/-- func() (api.Num, api.Num) -/
def ti89 : TI := ⟨.other, 1, 8, z89, false⟩
/-- func() (int64, [][]uint8, int64) -/
def ti91 : TI := ⟨.other, 1, 8, z91, false⟩
/-- func(node.Config, *disk.Disk) (*node.Node, api.Errno) -/
def ti93 : TI := ⟨.other, 1, 8, z93, false⟩
/-- struct { N int; ID api.ID; Half int; Paths int } -/
def ti94 : TI := ⟨.str [(0, 1, false, 3), (1, 16, true, 24), (17, 1, false, 3), (18, 1, false, 3)], 19, 40, z94, true⟩
/-- node.Config -/
def ti95 : TI := ⟨.str [(0, 1, false, 3), (1, 16, true, 24), (17, 1, false, 3), (18, 1, false, 3)], 19, 40, z95, true⟩
/-- *disk.Disk -/
def ti96 : TI := ⟨.ptr 199, 1, 8, z96, false⟩
/-- func(int) *disk.Disk -/
def ti97 : TI := ⟨.other, 1, 8, z97, false⟩
/-- struct { N int; B []uint8 } -/
def ti98 : TI := ⟨.str [(0, 1, false, 3), (1, 1, false, 22)], 2, 32, z98, false⟩
/-- node.Send -/
def ti99 : TI := ⟨.str [(0, 1, false, 3), (1, 1, false, 22)], 2, 32, z99, false⟩
/-- struct { Who api.ID; N int64 } -/
def ti100 : TI := ⟨.str [(0, 16, true, 24), (16, 1, false, 2)], 17, 24, z100, true⟩
/-- api.Path -/
def ti101 : TI := ⟨.str [(0, 16, true, 24), (16, 1, false, 2)], 17, 24, z101, true⟩
/-- struct { P api.Path; A api.ID; B api.ID; Na int; Nb int } -/
def ti102 : TI := ⟨.str [(0, 17, true, 101), (17, 16, true, 24), (33, 16, true, 24), (49, 1, false, 3), (50, 1, false, 3)], 51, 72, z102, true⟩
/-- api.Entry -/
def ti103 : TI := ⟨.str [(0, 17, true, 101), (17, 16, true, 24), (33, 16, true, 24), (49, 1, false, 3), (50, 1, false, 3)], 51, 72, z103, true⟩
/-- func(int) -/
def ti104 : TI := ⟨.other, 1, 8, z104, false⟩
/-- func(int, ...api.Frame) -/
def ti105 : TI := ⟨.other, 1, 8, z105, false⟩
/-- []api.Frame -/
def ti106 : TI := ⟨.slc 134, 1, 24, z106, false⟩
/-- func(api.Num) []api.Frame -/
def ti107 : TI := ⟨.other, 1, 8, z107, false⟩
/-- func() []api.Frame -/
def ti108 : TI := ⟨.other, 1, 8, z108, false⟩
/-- struct { N int; ID api.ID; Far int64 } -/
def ti109 : TI := ⟨.str [(0, 1, false, 3), (1, 16, true, 24), (17, 1, false, 2)], 18, 32, z109, true⟩
/-- rep.Heard -/
def ti110 : TI := ⟨.str [(0, 1, false, 3), (1, 16, true, 24), (17, 1, false, 2)], 18, 32, z110, true⟩
/-- func(api.ID, []rep.Heard) rep.Heard -/
def ti111 : TI := ⟨.other, 1, 8, z111, false⟩
/-- func(rep.Heard) -/
def ti112 : TI := ⟨.other, 1, 8, z112, false⟩
/-- []api.Path -/
def ti113 : TI := ⟨.slc 101, 1, 24, z113, false⟩
/-- func(*table.Table) []api.Path -/
def ti114 : TI := ⟨.other, 1, 8, z114, false⟩
/-- func(...api.Hop) -/
def ti115 : TI := ⟨.other, 1, 8, z115, false⟩
/-- []api.Hop -/
def ti116 : TI := ⟨.slc 139, 1, 24, z116, false⟩
/-- struct { Out []api.Hop; Lost []api.Path } -/
def ti117 : TI := ⟨.str [(0, 1, false, 116), (1, 1, false, 113)], 2, 48, z117, false⟩
/-- tear.Torn -/
def ti118 : TI := ⟨.str [(0, 1, false, 116), (1, 1, false, 113)], 2, 48, z118, false⟩
/-- func(*table.Table, api.Path) tear.Torn -/
def ti119 : TI := ⟨.other, 1, 8, z119, false⟩
/-- func(*table.Table, api.ID, int) []api.Path -/
def ti120 : TI := ⟨.other, 1, 8, z120, false⟩
/-- func(api.Path, frame.Body) -/
def ti121 : TI := ⟨.other, 1, 8, z121, false⟩
/-- struct { P api.Path; ToA bool } -/
def ti122 : TI := ⟨.str [(0, 17, true, 101), (17, 1, false, 4)], 18, 32, z122, true⟩
/-- frame.Part -/
def ti123 : TI := ⟨.str [(0, 17, true, 101), (17, 1, false, 4)], 18, 32, z123, true⟩
/-- []api.ID -/
def ti124 : TI := ⟨.slc 24, 1, 24, z124, false⟩
/-- func(*table.Table, api.ID) []api.ID -/
def ti125 : TI := ⟨.other, 1, 8, z125, false⟩
/-- func(api.ID, []api.ID, int) []api.ID -/
def ti126 : TI := ⟨.other, 1, 8, z126, false⟩
/-- struct { P api.Path; ToA bool; IDs []api.ID } -/
def ti127 : TI := ⟨.str [(0, 17, true, 101), (17, 1, false, 4), (18, 1, false, 124)], 19, 56, z127, false⟩
/-- frame.Peers -/
def ti128 : TI := ⟨.str [(0, 17, true, 101), (17, 1, false, 4), (18, 1, false, 124)], 19, 56, z128, false⟩
/-- []api.Near -/
def ti129 : TI := ⟨.slc 131, 1, 24, z129, false⟩
/-- func() []api.Near -/
def ti130 : TI := ⟨.other, 1, 8, z130, false⟩
/-- api.Near -/
def ti131 : TI := ⟨.str [(0, 1, false, 3), (1, 16, true, 24)], 17, 24, z131, true⟩
/-- []int -/
def ti132 : TI := ⟨.slc 3, 1, 24, z132, false⟩
/-- struct { Kind int; P api.Path; ToA bool; A api.ID; B api.ID; N int64; From api.Num; To api.Num; Trail []int; IDs []api.ID; Item api.Item; Op int; TTL int; Text []uint8 } -/
def ti133 : TI := ⟨.str [(0, 1, false, 3), (1, 17, true, 101), (18, 1, false, 4), (19, 16, true, 24), (35, 16, true, 24), (51, 1, false, 2), (52, 2, true, 31), (54, 2, true, 31), (56, 1, false, 132), (57, 1, false, 124), (58, 34, true, 80), (92, 1, false, 3), (93, 1, false, 3), (94, 1, false, 22)], 95, 264, z133, false⟩
/-- api.Frame -/
def ti134 : TI := ⟨.str [(0, 1, false, 3), (1, 17, true, 101), (18, 1, false, 4), (19, 16, true, 24), (35, 16, true, 24), (51, 1, false, 2), (52, 2, true, 31), (54, 2, true, 31), (56, 1, false, 132), (57, 1, false, 124), (58, 34, true, 80), (92, 1, false, 3), (93, 1, false, 3), (94, 1, false, 22)], 95, 264, z134, false⟩
/-- func(frame.Body) api.Frame -/
def ti135 : TI := ⟨.other, 1, 8, z135, false⟩
/-- struct { ID api.ID; Far int64 } -/
def ti136 : TI := ⟨.str [(0, 16, true, 24), (16, 1, false, 2)], 17, 24, z136, true⟩
/-- frame.Advert -/
def ti137 : TI := ⟨.str [(0, 16, true, 24), (16, 1, false, 2)], 17, 24, z137, true⟩
/-- struct { N int; F api.Frame } -/
def ti138 : TI := ⟨.str [(0, 1, false, 3), (1, 95, true, 134)], 96, 272, z138, false⟩
/-- api.Hop -/
def ti139 : TI := ⟨.str [(0, 1, false, 3), (1, 95, true, 134)], 96, 272, z139, false⟩
/-- func([]api.ID) -/
def ti140 : TI := ⟨.other, 1, 8, z140, false⟩
/-- []copies.Due -/
def ti141 : TI := ⟨.slc 144, 1, 24, z141, false⟩
/-- func(api.ID, []api.ID, []api.Item) []copies.Due -/
def ti142 : TI := ⟨.other, 1, 8, z142, false⟩
/-- struct { To api.ID; Item api.Item } -/
def ti143 : TI := ⟨.str [(0, 16, true, 24), (16, 34, true, 80)], 50, 80, z143, false⟩
/-- copies.Due -/
def ti144 : TI := ⟨.str [(0, 16, true, 24), (16, 34, true, 80)], 50, 80, z144, false⟩
/-- func(*table.Table, api.ID) (api.Entry, bool) -/
def ti146 : TI := ⟨.other, 1, 8, z146, false⟩
/-- struct { P api.Path; ToA bool; Item api.Item } -/
def ti147 : TI := ⟨.str [(0, 17, true, 101), (17, 1, false, 4), (18, 34, true, 80)], 52, 96, z147, false⟩
/-- frame.Copy -/
def ti148 : TI := ⟨.str [(0, 17, true, 101), (17, 1, false, 4), (18, 34, true, 80)], 52, 96, z148, false⟩
/-- func([]uint8) (api.Frame, api.Errno) -/
def ti150 : TI := ⟨.other, 1, 8, z150, false⟩
/-- struct { Died bool; Opened bool; Text []uint8; Came bool; Out []api.Frame } -/
def ti151 : TI := ⟨.str [(0, 1, false, 4), (1, 1, false, 4), (2, 1, false, 22), (3, 1, false, 4), (4, 1, false, 106)], 5, 64, z151, false⟩
/-- hello.Told -/
def ti152 : TI := ⟨.str [(0, 1, false, 4), (1, 1, false, 4), (2, 1, false, 22), (3, 1, false, 4), (4, 1, false, 106)], 5, 64, z152, false⟩
/-- func(api.Frame, api.Num) hello.Told -/
def ti153 : TI := ⟨.other, 1, 8, z153, false⟩
/-- func(int, api.Frame) -/
def ti154 : TI := ⟨.other, 1, 8, z154, false⟩
/-- func(...int) bool -/
def ti155 : TI := ⟨.other, 1, 8, z155, false⟩
/-- struct { IDs []api.ID; Half int; Paths int; Disk int } -/
def ti156 : TI := ⟨.str [(0, 1, false, 124), (1, 1, false, 3), (2, 1, false, 3), (3, 1, false, 3)], 4, 48, z156, false⟩
/-- world.Config -/
def ti157 : TI := ⟨.str [(0, 1, false, 124), (1, 1, false, 3), (2, 1, false, 3), (3, 1, false, 3)], 4, 48, z157, false⟩
/-- []*node.Node -/
def ti158 : TI := ⟨.slc 25, 1, 24, z158, false⟩
/-- []*disk.Disk -/
def ti159 : TI := ⟨.slc 96, 1, 24, z159, false⟩
/-- [][]bool -/
def ti160 : TI := ⟨.slc 38, 1, 24, z160, false⟩
/-- [][]*pipe.Pipe -/
def ti161 : TI := ⟨.slc 174, 1, 24, z161, false⟩
/-- struct { c world.Config; nodes []*node.Node; disks []*disk.Disk; links [][]bool; pipes [][]*pipe.Pipe; events []world.Event; steps int } -/
def ti162 : TI := ⟨.str [(0, 4, true, 157), (4, 1, false, 158), (5, 1, false, 159), (6, 1, false, 160), (7, 1, false, 161), (8, 1, false, 61), (9, 1, false, 3)], 10, 176, z162, false⟩
/-- world.World -/
def ti163 : TI := ⟨.str [(0, 4, true, 157), (4, 1, false, 158), (5, 1, false, 159), (6, 1, false, 160), (7, 1, false, 161), (8, 1, false, 61), (9, 1, false, 3)], 10, 176, z163, false⟩
/-- func(world.Config) (*world.World, api.Errno) -/
def ti165 : TI := ⟨.other, 1, 8, z165, false⟩
/-- []world.Op -/
def ti166 : TI := ⟨.slc 49, 1, 24, z166, false⟩
/-- struct { ID api.ID; Near bool; P api.Path; N int } -/
def ti167 : TI := ⟨.str [(0, 16, true, 24), (16, 1, false, 4), (17, 17, true, 101), (34, 1, false, 3)], 35, 56, z167, true⟩
/-- route.Choice -/
def ti168 : TI := ⟨.str [(0, 16, true, 24), (16, 1, false, 4), (17, 17, true, 101), (34, 1, false, 3)], 35, 56, z168, true⟩
/-- struct { Kind int; Src api.ID; Dst api.ID; Req int64; Op int; TTL int; Code api.Errno; P api.Path; Item api.Item; Text []uint8; Choice route.Choice } -/
def ti169 : TI := ⟨.str [(0, 1, false, 3), (1, 16, true, 24), (17, 16, true, 24), (33, 1, false, 2), (34, 1, false, 3), (35, 1, false, 3), (36, 1, false, 27), (37, 17, true, 101), (54, 34, true, 80), (88, 1, false, 22), (89, 35, true, 168)], 124, 240, z169, false⟩
/-- node.Event -/
def ti170 : TI := ⟨.str [(0, 1, false, 3), (1, 16, true, 24), (17, 16, true, 24), (33, 1, false, 2), (34, 1, false, 3), (35, 1, false, 3), (36, 1, false, 27), (37, 17, true, 101), (54, 34, true, 80), (88, 1, false, 22), (89, 35, true, 168)], 124, 240, z170, false⟩
/-- struct { Step int; Node int; node.Event } -/
def ti171 : TI := ⟨.str [(0, 1, false, 3), (1, 1, false, 3), (2, 124, true, 170)], 126, 256, z171, false⟩
/-- world.Event -/
def ti172 : TI := ⟨.str [(0, 1, false, 3), (1, 1, false, 3), (2, 124, true, 170)], 126, 256, z172, false⟩
/-- *pipe.Pipe -/
def ti173 : TI := ⟨.ptr 277, 1, 8, z173, false⟩
/-- []*pipe.Pipe -/
def ti174 : TI := ⟨.slc 173, 1, 24, z174, false⟩
/-- func() [][]uint8 -/
def ti175 : TI := ⟨.other, 1, 8, z175, false⟩
/-- func() []uint8 -/
def ti176 : TI := ⟨.other, 1, 8, z176, false⟩
/-- func(int) bool -/
def ti177 : TI := ⟨.other, 1, 8, z177, false⟩
/-- func(int, int, int) bool -/
def ti178 : TI := ⟨.other, 1, 8, z178, false⟩
/-- func(int) ([]uint8, bool) -/
def ti180 : TI := ⟨.other, 1, 8, z180, false⟩
/-- func(int, []node.Send) -/
def ti181 : TI := ⟨.other, 1, 8, z181, false⟩
/-- *slate.Log -/
def ti182 : TI := ⟨.ptr 283, 1, 8, z182, false⟩
/-- map[api.ID]api.Item -/
def ti183 : TI := ⟨.map 24 80, 1, 8, z183, false⟩
/-- struct { log *slate.Log; m map[api.ID]api.Item; inc int64 } -/
def ti184 : TI := ⟨.str [(0, 1, false, 182), (1, 1, false, 183), (2, 1, false, 2)], 3, 24, z184, false⟩
/-- vault.Vault -/
def ti185 : TI := ⟨.str [(0, 1, false, 182), (1, 1, false, 183), (2, 1, false, 2)], 3, 24, z185, false⟩
/-- func(api.ID, api.ID, []api.Near, *table.Table) route.Choice -/
def ti186 : TI := ⟨.other, 1, 8, z186, false⟩
/-- *window.Window -/
def ti187 : TI := ⟨.ptr 294, 1, 8, z187, false⟩
/-- struct { id api.ID; up bool; open bool; mine api.Num; peer api.Num; peerID api.ID; w *window.Window } -/
def ti188 : TI := ⟨.str [(0, 16, true, 24), (16, 1, false, 4), (17, 1, false, 4), (18, 2, true, 31), (20, 2, true, 31), (22, 16, true, 24), (38, 1, false, 187)], 39, 80, z188, false⟩
/-- hello.End -/
def ti189 : TI := ⟨.str [(0, 16, true, 24), (16, 1, false, 4), (17, 1, false, 4), (18, 2, true, 31), (20, 2, true, 31), (22, 16, true, 24), (38, 1, false, 187)], 39, 80, z189, false⟩
/-- func() (int64, [][]uint8) -/
def ti191 : TI := ⟨.other, 1, 8, z191, false⟩
/-- func(*disk.Disk) (*vault.Vault, api.Errno) -/
def ti193 : TI := ⟨.other, 1, 8, z193, false⟩
/-- func(int) *table.Table -/
def ti194 : TI := ⟨.other, 1, 8, z194, false⟩
/-- func() *copies.Book -/
def ti195 : TI := ⟨.other, 1, 8, z195, false⟩
/-- func(api.ID) *hello.End -/
def ti196 : TI := ⟨.other, 1, 8, z196, false⟩
/-- [][64]uint8 -/
def ti197 : TI := ⟨.slc 278, 1, 24, z197, false⟩
/-- struct { sectors [][64]uint8; power int; done int } -/
def ti198 : TI := ⟨.str [(0, 1, false, 197), (1, 1, false, 3), (2, 1, false, 3)], 3, 40, z198, false⟩
/-- disk.Disk -/
def ti199 : TI := ⟨.str [(0, 1, false, 197), (1, 1, false, 3), (2, 1, false, 3)], 3, 40, z199, false⟩
/-- func() *window.Window -/
def ti200 : TI := ⟨.other, 1, 8, z200, false⟩
/-- func([]rep.Heard, int) []rep.Heard -/
def ti201 : TI := ⟨.other, 1, 8, z201, false⟩
/-- func(*table.Table, int) tear.Torn -/
def ti202 : TI := ⟨.other, 1, 8, z202, false⟩
/-- func(api.Frame) ([]uint8, api.Errno) -/
def ti204 : TI := ⟨.other, 1, 8, z204, false⟩
/-- func() api.Frame -/
def ti205 : TI := ⟨.other, 1, 8, z205, false⟩
/-- struct { From api.Num; To api.Num; N int64; Text []uint8 } -/
def ti206 : TI := ⟨.str [(0, 2, true, 31), (2, 2, true, 31), (4, 1, false, 2), (5, 1, false, 22)], 6, 64, z206, false⟩
/-- frame.Data -/
def ti207 : TI := ⟨.str [(0, 2, true, 31), (2, 2, true, 31), (4, 1, false, 2), (5, 1, false, 22)], 6, 64, z207, false⟩
/-- func(rep.Heard, rep.Heard) bool -/
def ti208 : TI := ⟨.other, 1, 8, z208, false⟩
/-- struct { ID api.ID; Leg int; N int; P api.Path } -/
def ti209 : TI := ⟨.str [(0, 16, true, 24), (16, 1, false, 3), (17, 1, false, 3), (18, 17, true, 101)], 35, 56, z209, true⟩
/-- seek.Cand -/
def ti210 : TI := ⟨.str [(0, 16, true, 24), (16, 1, false, 3), (17, 1, false, 3), (18, 17, true, 101)], 35, 56, z210, true⟩
/-- func(api.Path) (api.Entry, bool) -/
def ti211 : TI := ⟨.other, 1, 8, z211, false⟩
/-- func(api.ID, []api.ID, []seek.Cand, int) []seek.Cand -/
def ti212 : TI := ⟨.other, 1, 8, z212, false⟩
/-- struct { Who api.ID; Want api.ID; Leg int; P api.Path; ToA bool; Trail []int } -/
def ti213 : TI := ⟨.str [(0, 16, true, 24), (16, 16, true, 24), (32, 1, false, 3), (33, 17, true, 101), (50, 1, false, 4), (51, 1, false, 132)], 52, 96, z213, false⟩
/-- frame.Ask -/
def ti214 : TI := ⟨.str [(0, 16, true, 24), (16, 16, true, 24), (32, 1, false, 3), (33, 17, true, 101), (50, 1, false, 4), (51, 1, false, 132)], 52, 96, z214, false⟩
/-- func(api.Entry) (api.ID, int, bool) -/
def ti216 : TI := ⟨.other, 1, 8, z216, false⟩
/-- func([]api.ID, api.ID) bool -/
def ti217 : TI := ⟨.other, 1, 8, z217, false⟩
/-- func(api.Hop) bool -/
def ti218 : TI := ⟨.other, 1, 8, z218, false⟩
/-- func(int, api.Path) -/
def ti219 : TI := ⟨.other, 1, 8, z219, false⟩
/-- interface { Kind() int } -/
def ti220 : TI := ⟨.ifc, 1, 16, z220, false⟩
/-- frame.Body -/
def ti221 : TI := ⟨.ifc, 1, 16, z221, false⟩
/-- func(api.ID, ...api.ID) []api.ID -/
def ti222 : TI := ⟨.other, 1, 8, z222, false⟩
/-- func([]api.ID, func(api.ID, api.ID) int) -/
def ti223 : TI := ⟨.other, 1, 8, z223, false⟩
/-- func(api.ID, api.ID) int -/
def ti224 : TI := ⟨.other, 1, 8, z224, false⟩
/-- func(api.ID, api.ID) api.ID -/
def ti225 : TI := ⟨.other, 1, 8, z225, false⟩
/-- func([]api.ID) []api.ID -/
def ti226 : TI := ⟨.other, 1, 8, z226, false⟩
/-- func(func(api.Entry) bool) []api.Entry -/
def ti227 : TI := ⟨.other, 1, 8, z227, false⟩
/-- func(api.Entry) bool -/
def ti228 : TI := ⟨.other, 1, 8, z228, false⟩
/-- struct { Mine api.Num; Seen api.Num; ID api.ID } -/
def ti229 : TI := ⟨.str [(0, 2, true, 31), (2, 2, true, 31), (4, 16, true, 24)], 20, 48, z229, true⟩
/-- frame.Hello -/
def ti230 : TI := ⟨.str [(0, 2, true, 31), (2, 2, true, 31), (4, 16, true, 24)], 20, 48, z230, true⟩
/-- struct { From api.Num; To api.Num; N int64 } -/
def ti231 : TI := ⟨.str [(0, 2, true, 31), (2, 2, true, 31), (4, 1, false, 2)], 5, 40, z231, true⟩
/-- frame.Ack -/
def ti232 : TI := ⟨.str [(0, 2, true, 31), (2, 2, true, 31), (4, 1, false, 2)], 5, 40, z232, true⟩
/-- struct { P api.Path; A api.ID; B api.ID; Trail []int } -/
def ti233 : TI := ⟨.str [(0, 17, true, 101), (17, 16, true, 24), (33, 16, true, 24), (49, 1, false, 132)], 50, 80, z233, false⟩
/-- frame.Setup -/
def ti234 : TI := ⟨.str [(0, 17, true, 101), (17, 16, true, 24), (33, 16, true, 24), (49, 1, false, 132)], 50, 80, z234, false⟩
/-- struct { P api.Path } -/
def ti235 : TI := ⟨.str [(0, 17, true, 101)], 17, 24, z235, true⟩
/-- frame.Drop -/
def ti236 : TI := ⟨.str [(0, 17, true, 101)], 17, 24, z236, true⟩
/-- func(api.Item) api.Item -/
def ti237 : TI := ⟨.other, 1, 8, z237, false⟩
/-- struct { P api.Path; ToA bool; Key api.ID; Ver api.Ver } -/
def ti238 : TI := ⟨.str [(0, 17, true, 101), (17, 1, false, 4), (18, 16, true, 24), (34, 17, true, 78)], 51, 72, z238, true⟩
/-- frame.Got -/
def ti239 : TI := ⟨.str [(0, 17, true, 101), (17, 1, false, 4), (18, 16, true, 24), (34, 17, true, 78)], 51, 72, z239, true⟩
/-- map[copies.mark]api.Ver -/
def ti240 : TI := ⟨.map 244 78, 1, 8, z240, false⟩
/-- struct { m map[copies.mark]api.Ver } -/
def ti241 : TI := ⟨.str [(0, 1, false, 240)], 1, 8, z241, false⟩
/-- copies.Book -/
def ti242 : TI := ⟨.str [(0, 1, false, 240)], 1, 8, z242, false⟩
/-- struct { id api.ID; key api.ID } -/
def ti243 : TI := ⟨.str [(0, 16, true, 24), (16, 16, true, 24)], 32, 32, z243, true⟩
/-- copies.mark -/
def ti244 : TI := ⟨.str [(0, 16, true, 24), (16, 16, true, 24)], 32, 32, z244, true⟩
/-- func(api.ID, []api.ID, api.ID) []api.ID -/
def ti245 : TI := ⟨.other, 1, 8, z245, false⟩
/-- func(iter.Seq[annulet/api.ID], func(api.ID, api.ID) int) []api.ID -/
def ti246 : TI := ⟨.other, 1, 8, z246, false⟩
/-- func(func(api.ID) bool) -/
def ti247 : TI := ⟨.other, 1, 8, z247, false⟩
/-- iter.Seq[annulet/api.ID] -/
def ti248 : TI := ⟨.other, 1, 8, z248, false⟩
/-- func(map[api.ID]api.Item) iter.Seq[annulet/api.ID] -/
def ti249 : TI := ⟨.other, 1, 8, z249, false⟩
/-- *frame.taken -/
def ti250 : TI := ⟨.ptr 252, 1, 8, z250, false⟩
/-- struct { b []uint8; at int } -/
def ti251 : TI := ⟨.str [(0, 1, false, 22), (1, 1, false, 3)], 2, 32, z251, false⟩
/-- frame.taken -/
def ti252 : TI := ⟨.str [(0, 1, false, 22), (1, 1, false, 3)], 2, 32, z252, false⟩
/-- func() api.Num -/
def ti253 : TI := ⟨.other, 1, 8, z253, false⟩
/-- func() api.ID -/
def ti254 : TI := ⟨.other, 1, 8, z254, false⟩
/-- func() api.Path -/
def ti255 : TI := ⟨.other, 1, 8, z255, false⟩
/-- func() []int -/
def ti256 : TI := ⟨.other, 1, 8, z256, false⟩
/-- func(int64) int64 -/
def ti257 : TI := ⟨.other, 1, 8, z257, false⟩
/-- func() api.Item -/
def ti258 : TI := ⟨.other, 1, 8, z258, false⟩
/-- func() api.Ver -/
def ti259 : TI := ⟨.other, 1, 8, z259, false⟩
/-- func(api.Frame) (frame.Body, bool) -/
def ti261 : TI := ⟨.other, 1, 8, z261, false⟩
/-- func(frame.Hello, api.Num) hello.Told -/
def ti263 : TI := ⟨.other, 1, 8, z263, false⟩
/-- func(int64) bool -/
def ti264 : TI := ⟨.other, 1, 8, z264, false⟩
/-- func(int64) int -/
def ti265 : TI := ⟨.other, 1, 8, z265, false⟩
/-- func(setup.Ended) -/
def ti266 : TI := ⟨.other, 1, 8, z266, false⟩
/-- struct { Out []api.Hop; Mine bool; Full bool } -/
def ti267 : TI := ⟨.str [(0, 1, false, 116), (1, 1, false, 4), (2, 1, false, 4)], 3, 32, z267, false⟩
/-- setup.Ended -/
def ti268 : TI := ⟨.str [(0, 1, false, 116), (1, 1, false, 4), (2, 1, false, 4)], 3, 32, z268, false⟩
/-- func(*table.Table, setup.Self, int, api.Frame, []bool) setup.Ended -/
def ti269 : TI := ⟨.other, 1, 8, z269, false⟩
/-- func() []bool -/
def ti270 : TI := ⟨.other, 1, 8, z270, false⟩
/-- func(*table.Table, int, api.Path) tear.Torn -/
def ti271 : TI := ⟨.other, 1, 8, z271, false⟩
/-- func([]rep.Heard, rep.Heard) []rep.Heard -/
def ti272 : TI := ⟨.other, 1, 8, z272, false⟩
/-- func(int, frame.Ask) -/
def ti273 : TI := ⟨.other, 1, 8, z273, false⟩
/-- func(int, api.Frame) (api.Entry, bool) -/
def ti274 : TI := ⟨.other, 1, 8, z274, false⟩
/-- func(api.Entry, frame.Body) -/
def ti275 : TI := ⟨.other, 1, 8, z275, false⟩
/-- struct { l [][]uint8 } -/
def ti276 : TI := ⟨.str [(0, 1, false, 32)], 1, 24, z276, false⟩
/-- pipe.Pipe -/
def ti277 : TI := ⟨.str [(0, 1, false, 32)], 1, 24, z277, false⟩
/-- [64]uint8 -/
def ti278 : TI := ⟨.arr 64 5, 64, 64, z278, true⟩
/-- func(int) int -/
def ti279 : TI := ⟨.other, 1, 8, z279, false⟩
/-- func([]uint8) bool -/
def ti280 : TI := ⟨.other, 1, 8, z280, false⟩
/-- uint64 -/
def ti281 : TI := ⟨.int .u64, 1, 8, z281, false⟩
/-- struct { d *disk.Disk; gen uint64; used int; n int; down bool } -/
def ti282 : TI := ⟨.str [(0, 1, false, 96), (1, 1, false, 281), (2, 1, false, 3), (3, 1, false, 3), (4, 1, false, 4)], 5, 40, z282, false⟩
/-- slate.Log -/
def ti283 : TI := ⟨.str [(0, 1, false, 96), (1, 1, false, 281), (2, 1, false, 3), (3, 1, false, 3), (4, 1, false, 4)], 5, 40, z283, false⟩
/-- []route.Choice -/
def ti284 : TI := ⟨.slc 168, 1, 24, z284, false⟩
/-- func(api.ID, []api.Near, *table.Table) []route.Choice -/
def ti285 : TI := ⟨.other, 1, 8, z285, false⟩
/-- func(api.ID, route.Choice, route.Choice) bool -/
def ti286 : TI := ⟨.other, 1, 8, z286, false⟩
/-- func(frame.Packet, api.Errno, api.Item) -/
def ti287 : TI := ⟨.other, 1, 8, z287, false⟩
/-- func(api.ID, []uint8, api.ID) (api.Item, api.Errno) -/
def ti289 : TI := ⟨.other, 1, 8, z289, false⟩
/-- func(api.ID) (api.Item, bool) -/
def ti291 : TI := ⟨.other, 1, 8, z291, false⟩
/-- struct { base int64; out [][]uint8; got int64 } -/
def ti293 : TI := ⟨.str [(0, 1, false, 2), (1, 1, false, 32), (2, 1, false, 2)], 3, 40, z293, false⟩
/-- window.Window -/
def ti294 : TI := ⟨.str [(0, 1, false, 2), (1, 1, false, 32), (2, 1, false, 2)], 3, 40, z294, false⟩
/-- func(*disk.Disk) (*slate.Log, [][]uint8, api.Errno) -/
def ti296 : TI := ⟨.other, 1, 8, z296, false⟩
/-- func([]uint8) api.Errno -/
def ti297 : TI := ⟨.other, 1, 8, z297, false⟩
/-- func(...uint64) []uint8 -/
def ti298 : TI := ⟨.other, 1, 8, z298, false⟩
/-- map[api.Path]api.Entry -/
def ti299 : TI := ⟨.map 101 103, 1, 8, z299, false⟩
/-- struct { most int; m map[api.Path]api.Entry } -/
def ti300 : TI := ⟨.str [(0, 1, false, 3), (1, 1, false, 299)], 2, 16, z300, false⟩
/-- table.Table -/
def ti301 : TI := ⟨.str [(0, 1, false, 3), (1, 1, false, 299)], 2, 16, z301, false⟩
/-- func(int) []api.Entry -/
def ti302 : TI := ⟨.other, 1, 8, z302, false⟩
/-- func(frame.Body) bool -/
def ti303 : TI := ⟨.other, 1, 8, z303, false⟩
/-- func(api.Frame, api.Frame) bool -/
def ti304 : TI := ⟨.other, 1, 8, z304, false⟩
/-- *frame.laid -/
def ti305 : TI := ⟨.ptr 307, 1, 8, z305, false⟩
/-- struct { b []uint8 } -/
def ti306 : TI := ⟨.str [(0, 1, false, 22)], 1, 24, z306, false⟩
/-- frame.laid -/
def ti307 : TI := ⟨.str [(0, 1, false, 22)], 1, 24, z307, false⟩
/-- func(...int64) -/
def ti308 : TI := ⟨.other, 1, 8, z308, false⟩
/-- func(...api.ID) -/
def ti309 : TI := ⟨.other, 1, 8, z309, false⟩
/-- func(...[]uint8) []uint8 -/
def ti310 : TI := ⟨.other, 1, 8, z310, false⟩
/-- func(api.Path) -/
def ti311 : TI := ⟨.other, 1, 8, z311, false⟩
/-- func([]int) -/
def ti312 : TI := ⟨.other, 1, 8, z312, false⟩
/-- func(bool) -/
def ti313 : TI := ⟨.other, 1, 8, z313, false⟩
/-- func(api.Item) -/
def ti314 : TI := ⟨.other, 1, 8, z314, false⟩
/-- func([]seek.Cand, func(seek.Cand) bool) []seek.Cand -/
def ti315 : TI := ⟨.other, 1, 8, z315, false⟩
/-- func([]seek.Cand) []seek.Cand -/
def ti316 : TI := ⟨.other, 1, 8, z316, false⟩
/-- func(seek.Cand) bool -/
def ti317 : TI := ⟨.other, 1, 8, z317, false⟩
/-- func([]seek.Cand, func(seek.Cand, seek.Cand) int) -/
def ti318 : TI := ⟨.other, 1, 8, z318, false⟩
/-- func(seek.Cand, seek.Cand) int -/
def ti319 : TI := ⟨.other, 1, 8, z319, false⟩
/-- func([]seek.Cand, func(seek.Cand, seek.Cand) bool) []seek.Cand -/
def ti320 : TI := ⟨.other, 1, 8, z320, false⟩
/-- func(seek.Cand, seek.Cand) bool -/
def ti321 : TI := ⟨.other, 1, 8, z321, false⟩
/-- func([]uint8) (int64, api.Errno) -/
def ti323 : TI := ⟨.other, 1, 8, z323, false⟩
/-- *tear.Torn -/
def ti324 : TI := ⟨.ptr 118, 1, 8, z324, false⟩
/-- func([]api.ID, func(api.ID) bool) []api.ID -/
def ti325 : TI := ⟨.other, 1, 8, z325, false⟩
/-- func(api.ID) bool -/
def ti326 : TI := ⟨.other, 1, 8, z326, false⟩
/-- func([]api.ID, int, int, int, func(api.ID, api.ID) int) -/
def ti327 : TI := ⟨.other, 1, 8, z327, false⟩
/-- func(uint) int -/
def ti328 : TI := ⟨.other, 1, 8, z328, false⟩
/-- func([]uint8, []uint8) int -/
def ti329 : TI := ⟨.other, 1, 8, z329, false⟩
/-- func(iter.Seq[annulet/api.Path], func(api.Path, api.Path) int) []api.Path -/
def ti330 : TI := ⟨.other, 1, 8, z330, false⟩
/-- func(func(api.Path) bool) -/
def ti331 : TI := ⟨.other, 1, 8, z331, false⟩
/-- iter.Seq[annulet/api.Path] -/
def ti332 : TI := ⟨.other, 1, 8, z332, false⟩
/-- func(map[api.Path]api.Entry) iter.Seq[annulet/api.Path] -/
def ti333 : TI := ⟨.other, 1, 8, z333, false⟩
/-- func(api.Path, api.Path) int -/
def ti334 : TI := ⟨.other, 1, 8, z334, false⟩
/-- func([]api.ID, api.ID) int -/
def ti335 : TI := ⟨.other, 1, 8, z335, false⟩
/-- func(api.ID, []api.ID, api.ID) bool -/
def ti336 : TI := ⟨.other, 1, 8, z336, false⟩
/-- func(api.ID, ...api.ID) int -/
def ti337 : TI := ⟨.other, 1, 8, z337, false⟩
/-- func(iter.Seq[annulet/api.ID]) []api.ID -/
def ti338 : TI := ⟨.other, 1, 8, z338, false⟩
/-- func([]uint8, int) (uint64, int, api.Errno) -/
def ti340 : TI := ⟨.other, 1, 8, z340, false⟩
/-- func([]uint8, int) (api.ID, int, api.Errno) -/
def ti342 : TI := ⟨.other, 1, 8, z342, false⟩
/-- func([]uint8, int, int) ([]uint8, int, api.Errno) -/
def ti344 : TI := ⟨.other, 1, 8, z344, false⟩
/-- func(api.Num, api.Num) bool -/
def ti345 : TI := ⟨.other, 1, 8, z345, false⟩
/-- func([]int, int) int -/
def ti347 : TI := ⟨.other, 1, 8, z347, false⟩
/-- func([]int) bool -/
def ti348 : TI := ⟨.other, 1, 8, z348, false⟩
/-- func([]bool, int) bool -/
def ti349 : TI := ⟨.other, 1, 8, z349, false⟩
/-- func(api.Entry) api.Errno -/
def ti350 : TI := ⟨.other, 1, 8, z350, false⟩
/-- func(frame.Ask) -/
def ti351 : TI := ⟨.other, 1, 8, z351, false⟩
/-- func(api.Item) (bool, api.Errno) -/
def ti353 : TI := ⟨.other, 1, 8, z353, false⟩
/-- func(api.ID, api.ID, api.Ver) -/
def ti354 : TI := ⟨.other, 1, 8, z354, false⟩
/-- func(api.ID, api.ID, api.ID) bool -/
def ti355 : TI := ⟨.other, 1, 8, z355, false⟩
/-- func(api.Path, api.Path) bool -/
def ti356 : TI := ⟨.other, 1, 8, z356, false⟩
/-- func(api.Item) []uint8 -/
def ti357 : TI := ⟨.other, 1, 8, z357, false⟩
/-- func(int) ([]uint8, api.Errno) -/
def ti358 : TI := ⟨.other, 1, 8, z358, false⟩
/-- func([]uint8) (uint64, uint64, uint64) -/
def ti360 : TI := ⟨.other, 1, 8, z360, false⟩
/-- func(int, []uint8) api.Errno -/
def ti361 : TI := ⟨.other, 1, 8, z361, false⟩
/-- []uint64 -/
def ti362 : TI := ⟨.slc 281, 1, 24, z362, false⟩
/-- []int64 -/
def ti363 : TI := ⟨.slc 2, 1, 24, z363, false⟩
/-- func([]seek.Cand, func(seek.Cand) bool) int -/
def ti365 : TI := ⟨.other, 1, 8, z365, false⟩
/-- func([]seek.Cand, int, func(seek.Cand, seek.Cand) int) -/
def ti366 : TI := ⟨.other, 1, 8, z366, false⟩
/-- func(int, int) int -/
def ti367 : TI := ⟨.other, 1, 8, z367, false⟩
/-- func([]api.ID, func(api.ID) bool) int -/
def ti368 : TI := ⟨.other, 1, 8, z368, false⟩
/-- func([]api.ID, int, int, func(api.ID, api.ID) int) -/
def ti369 : TI := ⟨.other, 1, 8, z369, false⟩
/-- slices.sortedHint -/
def ti370 : TI := ⟨.int .i64, 1, 8, z370, false⟩
/-- func([]api.ID, int, int, func(api.ID, api.ID) int) (int, slices.sortedHint) -/
def ti372 : TI := ⟨.other, 1, 8, z372, false⟩
/-- func([]api.ID, int, int, func(api.ID, api.ID) int) bool -/
def ti373 : TI := ⟨.other, 1, 8, z373, false⟩
/-- func([]api.ID, int, int, int, func(api.ID, api.ID) int) int -/
def ti374 : TI := ⟨.other, 1, 8, z374, false⟩
/-- func([]api.ID, int, int, int, func(api.ID, api.ID) int) (int, bool) -/
def ti376 : TI := ⟨.other, 1, 8, z376, false⟩
/-- func(uint32) int -/
def ti377 : TI := ⟨.other, 1, 8, z377, false⟩
/-- uint32 -/
def ti378 : TI := ⟨.int .u32, 1, 4, z378, false⟩
/-- func(uint64) int -/
def ti379 : TI := ⟨.other, 1, 8, z379, false⟩
/-- func(iter.Seq[annulet/api.Path]) []api.Path -/
def ti380 : TI := ⟨.other, 1, 8, z380, false⟩
/-- func([]api.Path, func(api.Path, api.Path) int) -/
def ti381 : TI := ⟨.other, 1, 8, z381, false⟩
/-- func(api.Path) bool -/
def ti382 : TI := ⟨.other, 1, 8, z382, false⟩
/-- func([]api.ID, iter.Seq[annulet/api.ID]) []api.ID -/
def ti383 : TI := ⟨.other, 1, 8, z383, false⟩
/-- func([]int, int) bool -/
def ti384 : TI := ⟨.other, 1, 8, z384, false⟩
/-- func(*table.Table, setup.Self, api.Path, api.ID, []int, []bool) (setup.Ended, api.Errno) -/
def ti386 : TI := ⟨.other, 1, 8, z386, false⟩
/-- func([]int) []int -/
def ti387 : TI := ⟨.other, 1, 8, z387, false⟩
/-- func(api.Ver, api.Ver) bool -/
def ti388 : TI := ⟨.other, 1, 8, z388, false⟩
/-- func([]uint8) uint64 -/
def ti389 : TI := ⟨.other, 1, 8, z389, false⟩
/-- func([]seek.Cand, int, int, func(seek.Cand, seek.Cand) int) -/
def ti390 : TI := ⟨.other, 1, 8, z390, false⟩
/-- func([]seek.Cand, int, int, int, func(seek.Cand, seek.Cand) int) -/
def ti391 : TI := ⟨.other, 1, 8, z391, false⟩
/-- slices.xorshift -/
def ti392 : TI := ⟨.int .u64, 1, 8, z392, false⟩
/-- func(int) uint -/
def ti393 : TI := ⟨.other, 1, 8, z393, false⟩
/-- func() uint64 -/
def ti394 : TI := ⟨.other, 1, 8, z394, false⟩
/-- func([]api.ID, int, *int, func(api.ID, api.ID) int) int -/
def ti395 : TI := ⟨.other, 1, 8, z395, false⟩
/-- *int -/
def ti396 : TI := ⟨.ptr 3, 1, 8, z396, false⟩
/-- func([]api.ID, int, int, int, *int, func(api.ID, api.ID) int) int -/
def ti397 : TI := ⟨.other, 1, 8, z397, false⟩
/-- func([]api.Path, iter.Seq[annulet/api.Path]) []api.Path -/
def ti398 : TI := ⟨.other, 1, 8, z398, false⟩
/-- func([]api.Path, int, int, int, func(api.Path, api.Path) int) -/
def ti399 : TI := ⟨.other, 1, 8, z399, false⟩
/-- *slices.xorshift -/
def ti400 : TI := ⟨.ptr 392, 1, 8, z400, false⟩
/-- func([]api.ID, int, int, *int, func(api.ID, api.ID) int) (int, int) -/
def ti402 : TI := ⟨.other, 1, 8, z402, false⟩
/-- func([]api.Path, int, int, func(api.Path, api.Path) int) -/
def ti403 : TI := ⟨.other, 1, 8, z403, false⟩
/-- func([]api.Path, int, int, func(api.Path, api.Path) int) (int, slices.sortedHint) -/
def ti404 : TI := ⟨.other, 1, 8, z404, false⟩
/-- func([]api.Path, int, int, func(api.Path, api.Path) int) bool -/
def ti405 : TI := ⟨.other, 1, 8, z405, false⟩
/-- func([]api.Path, int, int, int, func(api.Path, api.Path) int) int -/
def ti406 : TI := ⟨.other, 1, 8, z406, false⟩
/-- func([]api.Path, int, int, int, func(api.Path, api.Path) int) (int, bool) -/
def ti407 : TI := ⟨.other, 1, 8, z407, false⟩
/-- func([]api.Path, int, *int, func(api.Path, api.Path) int) int -/
def ti408 : TI := ⟨.other, 1, 8, z408, false⟩
/-- func([]api.Path, int, int, int, *int, func(api.Path, api.Path) int) int -/
def ti409 : TI := ⟨.other, 1, 8, z409, false⟩
/-- func([]api.Path, int, int, *int, func(api.Path, api.Path) int) (int, int) -/
def ti410 : TI := ⟨.other, 1, 8, z410, false⟩
/-- func() string -/
def ti411 : TI := ⟨.other, 1, 8, z411, false⟩
/-- struct { _interface *abi.Type; concrete *abi.Type; asserted *abi.Type; missingMethod string } -/
def ti412 : TI := ⟨.str [(0, 1, false, 17), (1, 1, false, 17), (2, 1, false, 17), (3, 1, false, 9)], 4, 40, z412, false⟩
/-- runtime.TypeAssertionError -/
def ti413 : TI := ⟨.str [(0, 1, false, 17), (1, 1, false, 17), (2, 1, false, 17), (3, 1, false, 9)], 4, 40, z413, false⟩
/-- [0]*runtime.PanicNilError -/
def ti414 : TI := ⟨.arr 0 16, 0, 0, z414, false⟩
/-- struct { _ [0]*runtime.PanicNilError } -/
def ti415 : TI := ⟨.str [(0, 0, true, 414)], 0, 0, z415, false⟩
/-- runtime.PanicNilError -/
def ti416 : TI := ⟨.str [(0, 0, true, 414)], 0, 0, z416, false⟩
/-- func() abi.Kind -/
def ti417 : TI := ⟨.other, 1, 8, z417, false⟩
/-- abi.TFlag -/
def ti418 : TI := ⟨.int .u8, 1, 1, z418, false⟩
/-- abi.Kind -/
def ti419 : TI := ⟨.int .u8, 1, 1, z419, false⟩
/-- func(unsafe.Pointer, unsafe.Pointer) bool -/
def ti420 : TI := ⟨.other, 1, 8, z420, false⟩
/-- *uint8 -/
def ti421 : TI := ⟨.ptr 5, 1, 8, z421, false⟩
/-- abi.NameOff -/
def ti422 : TI := ⟨.int .i32, 1, 4, z422, false⟩
/-- abi.TypeOff -/
def ti423 : TI := ⟨.int .i32, 1, 4, z423, false⟩
/-- struct { Size_ uintptr; PtrBytes uintptr; Hash uint32; TFlag abi.TFlag; Align_ uint8; FieldAlign_ uint8; Kind_ abi.Kind; Equal func(unsafe.Pointer, unsafe.Pointer) bool; GCData *uint8; Str abi.NameOff; PtrToThis abi.TypeOff } -/
def ti424 : TI := ⟨.str [(0, 1, false, 12), (1, 1, false, 12), (2, 1, false, 378), (3, 1, false, 418), (4, 1, false, 5), (5, 1, false, 5), (6, 1, false, 419), (7, 1, false, 420), (8, 1, false, 421), (9, 1, false, 422), (10, 1, false, 423)], 11, 48, z424, false⟩
/-- abi.Type -/
def ti425 : TI := ⟨.str [(0, 1, false, 12), (1, 1, false, 12), (2, 1, false, 378), (3, 1, false, 418), (4, 1, false, 5), (5, 1, false, 5), (6, 1, false, 419), (7, 1, false, 420), (8, 1, false, 421), (9, 1, false, 422), (10, 1, false, 423)], 11, 48, z425, false⟩
def tys0 : List (Nat × TI) := [(1, ti1), (2, ti2), (3, ti3), (4, ti4), (5, ti5), (6, ti6), (7, ti7), (8, ti8), (9, ti9), (10, ti10), (11, ti11), (12, ti12), (13, ti13), (14, ti14), (15, ti15), (16, ti16), (17, ti17), (18, ti18), (19, ti19), (20, ti20)]
def tys1 : List (Nat × TI) := [(21, ti21), (22, ti22), (23, ti23), (24, ti24), (25, ti25), (26, ti26), (27, ti27), (29, ti29), (30, ti30), (31, ti31), (32, ti32), (33, ti33), (34, ti34), (35, ti35), (36, ti36), (37, ti37), (38, ti38), (39, ti39), (40, ti40), (41, ti41)]
def tys2 : List (Nat × TI) := [(42, ti42), (43, ti43), (44, ti44), (45, ti45), (46, ti46), (47, ti47), (48, ti48), (49, ti49), (50, ti50), (51, ti51), (52, ti52), (53, ti53), (54, ti54), (55, ti55), (56, ti56), (57, ti57), (58, ti58), (59, ti59), (60, ti60), (61, ti61)]
def tys3 : List (Nat × TI) := [(62, ti62), (63, ti63), (64, ti64), (65, ti65), (66, ti66), (67, ti67), (68, ti68), (69, ti69), (70, ti70), (71, ti71), (72, ti72), (73, ti73), (74, ti74), (75, ti75), (76, ti76), (77, ti77), (78, ti78), (79, ti79), (80, ti80), (81, ti81)]
def tys4 : List (Nat × TI) := [(82, ti82), (83, ti83), (84, ti84), (85, ti85), (87, ti87), (89, ti89), (91, ti91), (93, ti93), (94, ti94), (95, ti95), (96, ti96), (97, ti97), (98, ti98), (99, ti99), (100, ti100), (101, ti101), (102, ti102), (103, ti103), (104, ti104), (105, ti105)]
def tys5 : List (Nat × TI) := [(106, ti106), (107, ti107), (108, ti108), (109, ti109), (110, ti110), (111, ti111), (112, ti112), (113, ti113), (114, ti114), (115, ti115), (116, ti116), (117, ti117), (118, ti118), (119, ti119), (120, ti120), (121, ti121), (122, ti122), (123, ti123), (124, ti124), (125, ti125)]
def tys6 : List (Nat × TI) := [(126, ti126), (127, ti127), (128, ti128), (129, ti129), (130, ti130), (131, ti131), (132, ti132), (133, ti133), (134, ti134), (135, ti135), (136, ti136), (137, ti137), (138, ti138), (139, ti139), (140, ti140), (141, ti141), (142, ti142), (143, ti143), (144, ti144), (146, ti146)]
def tys7 : List (Nat × TI) := [(147, ti147), (148, ti148), (150, ti150), (151, ti151), (152, ti152), (153, ti153), (154, ti154), (155, ti155), (156, ti156), (157, ti157), (158, ti158), (159, ti159), (160, ti160), (161, ti161), (162, ti162), (163, ti163), (165, ti165), (166, ti166), (167, ti167), (168, ti168)]
def tys8 : List (Nat × TI) := [(169, ti169), (170, ti170), (171, ti171), (172, ti172), (173, ti173), (174, ti174), (175, ti175), (176, ti176), (177, ti177), (178, ti178), (180, ti180), (181, ti181), (182, ti182), (183, ti183), (184, ti184), (185, ti185), (186, ti186), (187, ti187), (188, ti188), (189, ti189)]
def tys9 : List (Nat × TI) := [(191, ti191), (193, ti193), (194, ti194), (195, ti195), (196, ti196), (197, ti197), (198, ti198), (199, ti199), (200, ti200), (201, ti201), (202, ti202), (204, ti204), (205, ti205), (206, ti206), (207, ti207), (208, ti208), (209, ti209), (210, ti210), (211, ti211), (212, ti212)]
def tys10 : List (Nat × TI) := [(213, ti213), (214, ti214), (216, ti216), (217, ti217), (218, ti218), (219, ti219), (220, ti220), (221, ti221), (222, ti222), (223, ti223), (224, ti224), (225, ti225), (226, ti226), (227, ti227), (228, ti228), (229, ti229), (230, ti230), (231, ti231), (232, ti232), (233, ti233)]
def tys11 : List (Nat × TI) := [(234, ti234), (235, ti235), (236, ti236), (237, ti237), (238, ti238), (239, ti239), (240, ti240), (241, ti241), (242, ti242), (243, ti243), (244, ti244), (245, ti245), (246, ti246), (247, ti247), (248, ti248), (249, ti249), (250, ti250), (251, ti251), (252, ti252), (253, ti253)]
def tys12 : List (Nat × TI) := [(254, ti254), (255, ti255), (256, ti256), (257, ti257), (258, ti258), (259, ti259), (261, ti261), (263, ti263), (264, ti264), (265, ti265), (266, ti266), (267, ti267), (268, ti268), (269, ti269), (270, ti270), (271, ti271), (272, ti272), (273, ti273), (274, ti274), (275, ti275)]
def tys13 : List (Nat × TI) := [(276, ti276), (277, ti277), (278, ti278), (279, ti279), (280, ti280), (281, ti281), (282, ti282), (283, ti283), (284, ti284), (285, ti285), (286, ti286), (287, ti287), (289, ti289), (291, ti291), (293, ti293), (294, ti294), (296, ti296), (297, ti297), (298, ti298), (299, ti299)]
def tys14 : List (Nat × TI) := [(300, ti300), (301, ti301), (302, ti302), (303, ti303), (304, ti304), (305, ti305), (306, ti306), (307, ti307), (308, ti308), (309, ti309), (310, ti310), (311, ti311), (312, ti312), (313, ti313), (314, ti314), (315, ti315), (316, ti316), (317, ti317), (318, ti318), (319, ti319)]
def tys15 : List (Nat × TI) := [(320, ti320), (321, ti321), (323, ti323), (324, ti324), (325, ti325), (326, ti326), (327, ti327), (328, ti328), (329, ti329), (330, ti330), (331, ti331), (332, ti332), (333, ti333), (334, ti334), (335, ti335), (336, ti336), (337, ti337), (338, ti338), (340, ti340), (342, ti342)]
def tys16 : List (Nat × TI) := [(344, ti344), (345, ti345), (347, ti347), (348, ti348), (349, ti349), (350, ti350), (351, ti351), (353, ti353), (354, ti354), (355, ti355), (356, ti356), (357, ti357), (358, ti358), (360, ti360), (361, ti361), (362, ti362), (363, ti363), (365, ti365), (366, ti366), (367, ti367)]
def tys17 : List (Nat × TI) := [(368, ti368), (369, ti369), (370, ti370), (372, ti372), (373, ti373), (374, ti374), (376, ti376), (377, ti377), (378, ti378), (379, ti379), (380, ti380), (381, ti381), (382, ti382), (383, ti383), (384, ti384), (386, ti386), (387, ti387), (388, ti388), (389, ti389), (390, ti390)]
def tys18 : List (Nat × TI) := [(391, ti391), (392, ti392), (393, ti393), (394, ti394), (395, ti395), (396, ti396), (397, ti397), (398, ti398), (399, ti399), (400, ti400), (402, ti402), (403, ti403), (404, ti404), (405, ti405), (406, ti406), (407, ti407), (408, ti408), (409, ti409), (410, ti410), (411, ti411)]
def tys19 : List (Nat × TI) := [(412, ti412), (413, ti413), (414, ti414), (415, ti415), (416, ti416), (417, ti417), (418, ti418), (419, ti419), (420, ti420), (421, ti421), (422, ti422), (423, ti423), (424, ti424), (425, ti425)]
def tys : List (Nat × TI) := [tys0, tys1, tys2, tys3, tys4, tys5, tys6, tys7, tys8, tys9, tys10, tys11, tys12, tys13, tys14, tys15, tys16, tys17, tys18, tys19].flatten
def tyT : Tr TI := (.nd (.nd (.nd (.nd (.nd (.nd (.nd (.nd (.nd .lf (some ti255) .lf) (some ti127) (.nd .lf (some ti383) .lf)) (some ti63) (.nd (.nd .lf (some ti319) .lf) (some ti191) .lf)) (some ti31) (.nd (.nd (.nd .lf (some ti287) .lf) (some ti159) (.nd .lf (some ti415) .lf)) (some ti95) (.nd (.nd .lf (some ti351) .lf) (some ti223) .lf))) (some ti15) (.nd (.nd (.nd (.nd .lf (some ti271) .lf) (some ti143) (.nd .lf (some ti399) .lf)) (some ti79) (.nd (.nd .lf (some ti335) .lf) (some ti207) .lf)) (some ti47) (.nd (.nd (.nd .lf (some ti303) .lf) (some ti175) .lf) (some ti111) (.nd (.nd .lf (some ti367) .lf) (some ti239) .lf)))) (some ti7) (.nd (.nd (.nd (.nd (.nd .lf (some ti263) .lf) (some ti135) (.nd .lf (some ti391) .lf)) (some ti71) (.nd (.nd .lf (some ti327) .lf) (some ti199) .lf)) (some ti39) (.nd (.nd .lf (some ti167) (.nd .lf (some ti423) .lf)) (some ti103) (.nd .lf (some ti231) .lf))) (some ti23) (.nd (.nd (.nd (.nd .lf (some ti279) .lf) (some ti151) (.nd .lf (some ti407) .lf)) (some ti87) .lf) (some ti55) (.nd (.nd (.nd .lf (some ti311) .lf) (some ti183) .lf) (some ti119) (.nd .lf (some ti247) .lf))))) (some ti3) (.nd (.nd (.nd (.nd (.nd (.nd .lf (some ti259) .lf) (some ti131) (.nd .lf (some ti387) .lf)) (some ti67) (.nd (.nd .lf (some ti323) .lf) (some ti195) .lf)) (some ti35) (.nd (.nd (.nd .lf (some ti291) .lf) (some ti163) (.nd .lf (some ti419) .lf)) (some ti99) (.nd (.nd .lf (some ti355) .lf) (some ti227) .lf))) (some ti19) (.nd (.nd (.nd (.nd .lf (some ti275) .lf) (some ti147) (.nd .lf (some ti403) .lf)) (some ti83) (.nd .lf (some ti211) .lf)) (some ti51) (.nd (.nd (.nd .lf (some ti307) .lf) none .lf) (some ti115) (.nd .lf (some ti243) .lf)))) (some ti11) (.nd (.nd (.nd (.nd (.nd .lf (some ti267) .lf) (some ti139) (.nd .lf (some ti395) .lf)) (some ti75) (.nd (.nd .lf (some ti331) .lf) none .lf)) (some ti43) (.nd (.nd (.nd .lf (some ti299) .lf) (some ti171) .lf) (some ti107) (.nd (.nd .lf (some ti363) .lf) (some ti235) .lf))) (some ti27) (.nd (.nd (.nd (.nd .lf (some ti283) .lf) (some ti155) (.nd .lf (some ti411) .lf)) (some ti91) (.nd (.nd .lf (some ti347) .lf) (some ti219) .lf)) (some ti59) (.nd (.nd (.nd .lf (some ti315) .lf) (some ti187) .lf) (some ti123) (.nd (.nd .lf (some ti379) .lf) (some ti251) .lf)))))) (some ti1) (.nd (.nd (.nd (.nd (.nd (.nd (.nd .lf (some ti257) .lf) (some ti129) .lf) (some ti65) (.nd (.nd .lf (some ti321) .lf) (some ti193) .lf)) (some ti33) (.nd (.nd (.nd .lf (some ti289) .lf) (some ti161) (.nd .lf (some ti417) .lf)) (some ti97) (.nd (.nd .lf (some ti353) .lf) (some ti225) .lf))) (some ti17) (.nd (.nd (.nd (.nd .lf (some ti273) .lf) none .lf) (some ti81) (.nd (.nd .lf (some ti337) .lf) (some ti209) .lf)) (some ti49) (.nd (.nd (.nd .lf (some ti305) .lf) (some ti177) .lf) (some ti113) (.nd (.nd .lf (some ti369) .lf) (some ti241) .lf)))) (some ti9) (.nd (.nd (.nd (.nd (.nd .lf (some ti265) .lf) (some ti137) (.nd .lf (some ti393) .lf)) (some ti73) (.nd (.nd .lf (some ti329) .lf) (some ti201) .lf)) (some ti41) (.nd (.nd (.nd .lf (some ti297) .lf) (some ti169) (.nd .lf (some ti425) .lf)) (some ti105) (.nd (.nd .lf (some ti361) .lf) (some ti233) .lf))) (some ti25) (.nd (.nd (.nd (.nd .lf (some ti281) .lf) (some ti153) (.nd .lf (some ti409) .lf)) (some ti89) (.nd (.nd .lf (some ti345) .lf) (some ti217) .lf)) (some ti57) (.nd (.nd (.nd .lf (some ti313) .lf) (some ti185) .lf) (some ti121) (.nd (.nd .lf (some ti377) .lf) (some ti249) .lf))))) (some ti5) (.nd (.nd (.nd (.nd (.nd (.nd .lf (some ti261) .lf) (some ti133) (.nd .lf (some ti389) .lf)) (some ti69) (.nd (.nd .lf (some ti325) .lf) (some ti197) .lf)) (some ti37) (.nd (.nd (.nd .lf (some ti293) .lf) (some ti165) (.nd .lf (some ti421) .lf)) (some ti101) (.nd (.nd .lf (some ti357) .lf) (some ti229) .lf))) (some ti21) (.nd (.nd (.nd (.nd .lf (some ti277) .lf) none (.nd .lf (some ti405) .lf)) (some ti85) (.nd .lf (some ti213) .lf)) (some ti53) (.nd (.nd (.nd .lf (some ti309) .lf) (some ti181) .lf) (some ti117) (.nd (.nd .lf (some ti373) .lf) (some ti245) .lf)))) (some ti13) (.nd (.nd (.nd (.nd (.nd .lf (some ti269) .lf) (some ti141) (.nd .lf (some ti397) .lf)) (some ti77) (.nd (.nd .lf (some ti333) .lf) (some ti205) .lf)) (some ti45) (.nd (.nd (.nd .lf (some ti301) .lf) (some ti173) .lf) (some ti109) (.nd (.nd .lf (some ti365) .lf) (some ti237) .lf))) (some ti29) (.nd (.nd (.nd (.nd .lf (some ti285) .lf) (some ti157) (.nd .lf (some ti413) .lf)) (some ti93) (.nd (.nd .lf (some ti349) .lf) (some ti221) .lf)) (some ti61) (.nd (.nd (.nd .lf (some ti317) .lf) (some ti189) .lf) (some ti125) (.nd (.nd .lf (some ti381) .lf) (some ti253) .lf))))))) none (.nd (.nd (.nd (.nd (.nd (.nd (.nd (.nd .lf (some ti256) .lf) (some ti128) (.nd .lf (some ti384) .lf)) (some ti64) (.nd (.nd .lf (some ti320) .lf) none .lf)) (some ti32) (.nd (.nd .lf (some ti160) (.nd .lf (some ti416) .lf)) (some ti96) (.nd .lf (some ti224) .lf))) (some ti16) (.nd (.nd (.nd (.nd .lf (some ti272) .lf) (some ti144) (.nd .lf (some ti400) .lf)) (some ti80) (.nd (.nd .lf (some ti336) .lf) (some ti208) .lf)) (some ti48) (.nd (.nd (.nd .lf (some ti304) .lf) (some ti176) .lf) (some ti112) (.nd (.nd .lf (some ti368) .lf) (some ti240) .lf)))) (some ti8) (.nd (.nd (.nd (.nd (.nd .lf (some ti264) .lf) (some ti136) (.nd .lf (some ti392) .lf)) (some ti72) (.nd (.nd .lf (some ti328) .lf) (some ti200) .lf)) (some ti40) (.nd (.nd (.nd .lf (some ti296) .lf) (some ti168) (.nd .lf (some ti424) .lf)) (some ti104) (.nd (.nd .lf (some ti360) .lf) (some ti232) .lf))) (some ti24) (.nd (.nd (.nd (.nd .lf (some ti280) .lf) (some ti152) (.nd .lf (some ti408) .lf)) none (.nd (.nd .lf (some ti344) .lf) (some ti216) .lf)) (some ti56) (.nd (.nd (.nd .lf (some ti312) .lf) (some ti184) .lf) (some ti120) (.nd (.nd .lf (some ti376) .lf) (some ti248) .lf))))) (some ti4) (.nd (.nd (.nd (.nd (.nd .lf (some ti132) (.nd .lf (some ti388) .lf)) (some ti68) (.nd (.nd .lf (some ti324) .lf) (some ti196) .lf)) (some ti36) (.nd (.nd .lf none (.nd .lf (some ti420) .lf)) (some ti100) (.nd (.nd .lf (some ti356) .lf) (some ti228) .lf))) (some ti20) (.nd (.nd (.nd (.nd .lf (some ti276) .lf) (some ti148) (.nd .lf (some ti404) .lf)) (some ti84) (.nd (.nd .lf (some ti340) .lf) (some ti212) .lf)) (some ti52) (.nd (.nd (.nd .lf (some ti308) .lf) (some ti180) .lf) (some ti116) (.nd (.nd .lf (some ti372) .lf) (some ti244) .lf)))) (some ti12) (.nd (.nd (.nd (.nd (.nd .lf (some ti268) .lf) (some ti140) (.nd .lf (some ti396) .lf)) (some ti76) (.nd (.nd .lf (some ti332) .lf) (some ti204) .lf)) (some ti44) (.nd (.nd (.nd .lf (some ti300) .lf) (some ti172) .lf) (some ti108) (.nd .lf (some ti236) .lf))) none (.nd (.nd (.nd (.nd .lf (some ti284) .lf) (some ti156) (.nd .lf (some ti412) .lf)) none (.nd (.nd .lf (some ti348) .lf) (some ti220) .lf)) (some ti60) (.nd (.nd (.nd .lf (some ti316) .lf) (some ti188) .lf) (some ti124) (.nd (.nd .lf (some ti380) .lf) (some ti252) .lf)))))) (some ti2) (.nd (.nd (.nd (.nd (.nd (.nd (.nd .lf (some ti258) .lf) (some ti130) (.nd .lf (some ti386) .lf)) (some ti66) (.nd .lf (some ti194) .lf)) (some ti34) (.nd (.nd .lf (some ti162) (.nd .lf (some ti418) .lf)) (some ti98) (.nd (.nd .lf (some ti354) .lf) (some ti226) .lf))) (some ti18) (.nd (.nd (.nd (.nd .lf (some ti274) .lf) (some ti146) (.nd .lf (some ti402) .lf)) (some ti82) (.nd (.nd .lf (some ti338) .lf) (some ti210) .lf)) (some ti50) (.nd (.nd (.nd .lf (some ti306) .lf) (some ti178) .lf) (some ti114) (.nd (.nd .lf (some ti370) .lf) (some ti242) .lf)))) (some ti10) (.nd (.nd (.nd (.nd (.nd .lf (some ti266) .lf) (some ti138) (.nd .lf (some ti394) .lf)) (some ti74) (.nd (.nd .lf (some ti330) .lf) (some ti202) .lf)) (some ti42) (.nd (.nd (.nd .lf (some ti298) .lf) (some ti170) .lf) (some ti106) (.nd (.nd .lf (some ti362) .lf) (some ti234) .lf))) (some ti26) (.nd (.nd (.nd (.nd .lf (some ti282) .lf) (some ti154) (.nd .lf (some ti410) .lf)) none (.nd .lf (some ti218) .lf)) (some ti58) (.nd (.nd (.nd .lf (some ti314) .lf) (some ti186) .lf) (some ti122) (.nd (.nd .lf (some ti378) .lf) (some ti250) .lf))))) (some ti6) (.nd (.nd (.nd (.nd (.nd .lf (some ti134) (.nd .lf (some ti390) .lf)) (some ti70) (.nd (.nd .lf (some ti326) .lf) (some ti198) .lf)) (some ti38) (.nd (.nd (.nd .lf (some ti294) .lf) (some ti166) (.nd .lf (some ti422) .lf)) (some ti102) (.nd (.nd .lf (some ti358) .lf) (some ti230) .lf))) (some ti22) (.nd (.nd (.nd (.nd .lf (some ti278) .lf) (some ti150) (.nd .lf (some ti406) .lf)) none (.nd (.nd .lf (some ti342) .lf) (some ti214) .lf)) (some ti54) (.nd (.nd (.nd .lf (some ti310) .lf) (some ti182) .lf) (some ti118) (.nd (.nd .lf (some ti374) .lf) (some ti246) .lf)))) (some ti14) (.nd (.nd (.nd (.nd (.nd .lf (some ti270) .lf) (some ti142) (.nd .lf (some ti398) .lf)) (some ti78) (.nd (.nd .lf (some ti334) .lf) (some ti206) .lf)) (some ti46) (.nd (.nd (.nd .lf (some ti302) .lf) (some ti174) .lf) (some ti110) (.nd (.nd .lf (some ti366) .lf) (some ti238) .lf))) (some ti30) (.nd (.nd (.nd (.nd .lf (some ti286) .lf) (some ti158) (.nd .lf (some ti414) .lf)) (some ti94) (.nd (.nd .lf (some ti350) .lf) (some ti222) .lf)) (some ti62) (.nd (.nd (.nd .lf (some ti318) .lf) none .lf) (some ti126) (.nd (.nd .lf (some ti382) .lf) (some ti254) .lf))))))))
noncomputable def fns0 : List (Nat × Func) := [(3, Go.Proofs.Tryz.f3), (4, Go.Proofs.Tryz.f4), (5, Go.Proofs.Tryz.f5), (6, Go.Proofs.Tryz.f6), (7, Go.Proofs.Tryz.f7), (8, Go.Proofs.Tryz.f8), (9, Go.Proofs.Tryz.f9), (10, Go.Proofs.Tryz.f10), (11, Go.Proofs.Tryz.f11), (12, Go.Proofs.Tryz.f12), (13, Go.Proofs.Tryz.f13), (14, Go.Proofs.Tryz.f14), (15, Go.Proofs.Tryz.f15), (16, Go.Proofs.Tryz.f16), (17, Go.Proofs.Tryz.f17), (18, Go.Proofs.Tryz.f18), (19, Go.Proofs.Tryz.f19), (20, Go.Proofs.Tryz.f20), (21, Go.Proofs.Tryz.f21), (22, Go.Proofs.Tryz.f22)]
noncomputable def fns1 : List (Nat × Func) := [(23, Go.Proofs.Tryz.f23), (24, Go.Proofs.Tryz.f24), (25, Go.Proofs.Tryz.f25), (26, Go.Proofs.Tryz.f26), (27, Go.Proofs.Tryz.f27), (28, Go.Proofs.Tryz.f28), (29, Go.Proofs.Tryz.f29), (30, Go.Proofs.Tryz.f30), (31, Go.Proofs.Tryz.f31), (32, Go.Proofs.Tryz.f32), (33, Go.Proofs.Tryz.f33), (34, Go.Proofs.Tryz.f34), (35, Go.Proofs.Tryz.f35), (36, Go.Proofs.Tryz.f36), (37, Go.Proofs.Tryz.f37), (38, Go.Proofs.Tryz.f38), (39, Go.Proofs.Tryz.f39), (40, Go.Proofs.Tryz.f40), (41, Go.Proofs.Tryz.f41), (42, Go.Proofs.Tryz.f42)]
noncomputable def fns2 : List (Nat × Func) := [(43, Go.Proofs.Tryz.f43), (44, Go.Proofs.Tryz.f44), (45, Go.Proofs.Tryz.f45), (46, Go.Proofs.Tryz.f46), (47, Go.Proofs.Tryz.f47), (48, Go.Proofs.Tryz.f48), (49, Go.Proofs.Tryz.f49), (50, Go.Proofs.Tryz.f50), (51, Go.Proofs.Tryz.f51), (52, Go.Proofs.Tryz.f52), (53, Go.Proofs.Tryz.f53), (54, Go.Proofs.Tryz.f54), (55, Go.Proofs.Tryz.f55), (56, Go.Proofs.Tryz.f56), (57, Go.Proofs.Tryz.f57), (58, Go.Proofs.Tryz.f58), (59, Go.Proofs.Tryz.f59), (60, Go.Proofs.Tryz.f60), (61, Go.Proofs.Tryz.f61), (62, Go.Proofs.Tryz.f62)]
noncomputable def fns3 : List (Nat × Func) := [(63, Go.Proofs.Tryz.f63), (64, Go.Proofs.Tryz.f64), (65, Go.Proofs.Tryz.f65), (66, Go.Proofs.Tryz.f66), (67, Go.Proofs.Tryz.f67), (68, Go.Proofs.Tryz.f68), (69, Go.Proofs.Tryz.f69), (70, Go.Proofs.Tryz.f70), (71, Go.Proofs.Tryz.f71), (72, Go.Proofs.Tryz.f72), (73, Go.Proofs.Tryz.f73), (74, Go.Proofs.Tryz.f74), (75, Go.Proofs.Tryz.f75), (76, Go.Proofs.Tryz.f76), (77, Go.Proofs.Tryz.f77), (78, Go.Proofs.Tryz.f78), (79, Go.Proofs.Tryz.f79), (80, Go.Proofs.Tryz.f80), (81, Go.Proofs.Tryz.f81), (82, Go.Proofs.Tryz.f82)]
noncomputable def fns4 : List (Nat × Func) := [(83, Go.Proofs.Tryz.f83), (84, Go.Proofs.Tryz.f84), (85, Go.Proofs.Tryz.f85), (86, Go.Proofs.Tryz.f86), (87, Go.Proofs.Tryz.f87), (88, Go.Proofs.Tryz.f88), (89, Go.Proofs.Tryz.f89), (90, Go.Proofs.Tryz.f90), (91, Go.Proofs.Tryz.f91), (92, Go.Proofs.Tryz.f92), (93, Go.Proofs.Tryz.f93), (94, Go.Proofs.Tryz.f94), (95, Go.Proofs.Tryz.f95), (96, Go.Proofs.Tryz.f96), (97, Go.Proofs.Tryz.f97), (98, Go.Proofs.Tryz.f98), (99, Go.Proofs.Tryz.f99), (100, Go.Proofs.Tryz.f100), (101, Go.Proofs.Tryz.f101), (102, Go.Proofs.Tryz.f102)]
noncomputable def fns5 : List (Nat × Func) := [(103, Go.Proofs.Tryz.f103), (104, Go.Proofs.Tryz.f104), (105, Go.Proofs.Tryz.f105), (106, Go.Proofs.Tryz.f106), (107, Go.Proofs.Tryz.f107), (108, Go.Proofs.Tryz.f108), (109, Go.Proofs.Tryz.f109), (110, Go.Proofs.Tryz.f110), (111, Go.Proofs.Tryz.f111), (112, Go.Proofs.Tryz.f112), (113, Go.Proofs.Tryz.f113), (114, Go.Proofs.Tryz.f114), (115, Go.Proofs.Tryz.f115), (116, Go.Proofs.Tryz.f116), (117, Go.Proofs.Tryz.f117), (118, Go.Proofs.Tryz.f118), (119, Go.Proofs.Tryz.f119), (120, Go.Proofs.Tryz.f120), (121, Go.Proofs.Tryz.f121), (122, Go.Proofs.Tryz.f122)]
noncomputable def fns6 : List (Nat × Func) := [(123, Go.Proofs.Tryz.f123), (124, Go.Proofs.Tryz.f124), (125, Go.Proofs.Tryz.f125), (126, Go.Proofs.Tryz.f126), (127, Go.Proofs.Tryz.f127), (128, Go.Proofs.Tryz.f128), (129, Go.Proofs.Tryz.f129), (130, Go.Proofs.Tryz.f130), (131, Go.Proofs.Tryz.f131), (132, Go.Proofs.Tryz.f132), (133, Go.Proofs.Tryz.f133), (134, Go.Proofs.Tryz.f134), (135, Go.Proofs.Tryz.f135), (136, Go.Proofs.Tryz.f136), (137, Go.Proofs.Tryz.f137), (138, Go.Proofs.Tryz.f138), (139, Go.Proofs.Tryz.f139), (140, Go.Proofs.Tryz.f140), (141, Go.Proofs.Tryz.f141), (142, Go.Proofs.Tryz.f142)]
noncomputable def fns7 : List (Nat × Func) := [(143, Go.Proofs.Tryz.f143), (144, Go.Proofs.Tryz.f144), (145, Go.Proofs.Tryz.f145), (146, Go.Proofs.Tryz.f146), (147, Go.Proofs.Tryz.f147), (148, Go.Proofs.Tryz.f148), (149, Go.Proofs.Tryz.f149), (150, Go.Proofs.Tryz.f150), (151, Go.Proofs.Tryz.f151), (152, Go.Proofs.Tryz.f152), (153, Go.Proofs.Tryz.f153), (154, Go.Proofs.Tryz.f154), (155, Go.Proofs.Tryz.f155), (156, Go.Proofs.Tryz.f156), (157, Go.Proofs.Tryz.f157), (158, Go.Proofs.Tryz.f158), (159, Go.Proofs.Tryz.f159), (160, Go.Proofs.Tryz.f160), (161, Go.Proofs.Tryz.f161), (162, Go.Proofs.Tryz.f162)]
noncomputable def fns8 : List (Nat × Func) := [(163, Go.Proofs.Tryz.f163), (164, Go.Proofs.Tryz.f164), (165, Go.Proofs.Tryz.f165), (166, Go.Proofs.Tryz.f166), (167, Go.Proofs.Tryz.f167), (168, Go.Proofs.Tryz.f168), (169, Go.Proofs.Tryz.f169), (170, Go.Proofs.Tryz.f170), (171, Go.Proofs.Tryz.f171), (172, Go.Proofs.Tryz.f172), (173, Go.Proofs.Tryz.f173), (174, Go.Proofs.Tryz.f174), (175, Go.Proofs.Tryz.f175), (176, Go.Proofs.Tryz.f176), (177, Go.Proofs.Tryz.f177), (178, Go.Proofs.Tryz.f178), (179, Go.Proofs.Tryz.f179), (180, Go.Proofs.Tryz.f180), (181, Go.Proofs.Tryz.f181), (182, Go.Proofs.Tryz.f182)]
noncomputable def fns9 : List (Nat × Func) := [(183, Go.Proofs.Tryz.f183), (184, Go.Proofs.Tryz.f184), (185, Go.Proofs.Tryz.f185), (186, Go.Proofs.Tryz.f186), (187, Go.Proofs.Tryz.f187), (188, Go.Proofs.Tryz.f188), (189, Go.Proofs.Tryz.f189), (190, Go.Proofs.Tryz.f190), (191, Go.Proofs.Tryz.f191), (192, Go.Proofs.Tryz.f192), (193, Go.Proofs.Tryz.f193), (194, Go.Proofs.Tryz.f194), (195, Go.Proofs.Tryz.f195), (196, Go.Proofs.Tryz.f196), (197, Go.Proofs.Tryz.f197), (198, Go.Proofs.Tryz.f198), (199, Go.Proofs.Tryz.f199), (200, Go.Proofs.Tryz.f200), (201, Go.Proofs.Tryz.f201), (202, Go.Proofs.Tryz.f202)]
noncomputable def fns10 : List (Nat × Func) := [(203, Go.Proofs.Tryz.f203), (204, Go.Proofs.Tryz.f204), (205, Go.Proofs.Tryz.f205), (206, Go.Proofs.Tryz.f206), (207, Go.Proofs.Tryz.f207), (208, Go.Proofs.Tryz.f208), (209, Go.Proofs.Tryz.f209), (210, Go.Proofs.Tryz.f210), (211, Go.Proofs.Tryz.f211), (212, Go.Proofs.Tryz.f212), (213, Go.Proofs.Tryz.f213), (214, Go.Proofs.Tryz.f214), (215, Go.Proofs.Tryz.f215), (216, Go.Proofs.Tryz.f216), (218, Go.Proofs.Tryz.f218), (219, Go.Proofs.Tryz.f219), (220, Go.Proofs.Tryz.f220), (221, Go.Proofs.Tryz.f221), (222, Go.Proofs.Tryz.f222), (223, Go.Proofs.Tryz.f223)]
noncomputable def fns11 : List (Nat × Func) := [(224, Go.Proofs.Tryz.f224), (225, Go.Proofs.Tryz.f225), (226, Go.Proofs.Tryz.f226), (227, Go.Proofs.Tryz.f227), (228, Go.Proofs.Tryz.f228), (229, Go.Proofs.Tryz.f229), (230, Go.Proofs.Tryz.f230), (231, Go.Proofs.Tryz.f231), (232, Go.Proofs.Tryz.f232), (233, Go.Proofs.Tryz.f233), (234, Go.Proofs.Tryz.f234), (235, Go.Proofs.Tryz.f235), (236, Go.Proofs.Tryz.f236), (237, Go.Proofs.Tryz.f237), (238, Go.Proofs.Tryz.f238), (239, Go.Proofs.Tryz.f239), (240, Go.Proofs.Tryz.f240), (241, Go.Proofs.Tryz.f241), (242, Go.Proofs.Tryz.f242), (243, Go.Proofs.Tryz.f243)]
noncomputable def fns12 : List (Nat × Func) := [(244, Go.Proofs.Tryz.f244), (245, Go.Proofs.Tryz.f245), (246, Go.Proofs.Tryz.f246), (247, Go.Proofs.Tryz.f247), (248, Go.Proofs.Tryz.f248), (249, Go.Proofs.Tryz.f249), (250, Go.Proofs.Tryz.f250), (251, Go.Proofs.Tryz.f251), (252, Go.Proofs.Tryz.f252), (253, Go.Proofs.Tryz.f253), (254, Go.Proofs.Tryz.f254), (255, Go.Proofs.Tryz.f255), (256, Go.Proofs.Tryz.f256), (257, Go.Proofs.Tryz.f257), (258, Go.Proofs.Tryz.f258), (277, Go.Proofs.Tryz.f277), (279, Go.Proofs.Tryz.f279), (280, Go.Proofs.Tryz.f280), (281, Go.Proofs.Tryz.f281), (282, Go.Proofs.Tryz.f282)]
noncomputable def fns13 : List (Nat × Func) := [(283, Go.Proofs.Tryz.f283), (284, Go.Proofs.Tryz.f284), (285, Go.Proofs.Tryz.f285), (286, Go.Proofs.Tryz.f286), (287, Go.Proofs.Tryz.f287), (288, Go.Proofs.Tryz.f288), (289, Go.Proofs.Tryz.f289)]
noncomputable def fns : List (Nat × Func) := [fns0, fns1, fns2, fns3, fns4, fns5, fns6, fns7, fns8, fns9, fns10, fns11, fns12, fns13].flatten
noncomputable def fnT : Tr Func := (.nd (.nd (.nd (.nd (.nd (.nd (.nd (.nd (.nd .lf (some Go.Proofs.Tryz.f255) .lf) (some Go.Proofs.Tryz.f127) .lf) (some Go.Proofs.Tryz.f63) (.nd .lf (some Go.Proofs.Tryz.f191) .lf)) (some Go.Proofs.Tryz.f31) (.nd (.nd (.nd .lf (some Go.Proofs.Tryz.f287) .lf) (some Go.Proofs.Tryz.f159) .lf) (some Go.Proofs.Tryz.f95) (.nd .lf (some Go.Proofs.Tryz.f223) .lf))) (some Go.Proofs.Tryz.f15) (.nd (.nd (.nd .lf (some Go.Proofs.Tryz.f143) .lf) (some Go.Proofs.Tryz.f79) (.nd .lf (some Go.Proofs.Tryz.f207) .lf)) (some Go.Proofs.Tryz.f47) (.nd (.nd .lf (some Go.Proofs.Tryz.f175) .lf) (some Go.Proofs.Tryz.f111) (.nd .lf (some Go.Proofs.Tryz.f239) .lf)))) (some Go.Proofs.Tryz.f7) (.nd (.nd (.nd (.nd .lf (some Go.Proofs.Tryz.f135) .lf) (some Go.Proofs.Tryz.f71) (.nd .lf (some Go.Proofs.Tryz.f199) .lf)) (some Go.Proofs.Tryz.f39) (.nd (.nd .lf (some Go.Proofs.Tryz.f167) .lf) (some Go.Proofs.Tryz.f103) (.nd .lf (some Go.Proofs.Tryz.f231) .lf))) (some Go.Proofs.Tryz.f23) (.nd (.nd (.nd (.nd .lf (some Go.Proofs.Tryz.f279) .lf) (some Go.Proofs.Tryz.f151) .lf) (some Go.Proofs.Tryz.f87) (.nd .lf (some Go.Proofs.Tryz.f215) .lf)) (some Go.Proofs.Tryz.f55) (.nd (.nd .lf (some Go.Proofs.Tryz.f183) .lf) (some Go.Proofs.Tryz.f119) (.nd .lf (some Go.Proofs.Tryz.f247) .lf))))) (some Go.Proofs.Tryz.f3) (.nd (.nd (.nd (.nd (.nd .lf (some Go.Proofs.Tryz.f131) .lf) (some Go.Proofs.Tryz.f67) (.nd .lf (some Go.Proofs.Tryz.f195) .lf)) (some Go.Proofs.Tryz.f35) (.nd (.nd .lf (some Go.Proofs.Tryz.f163) .lf) (some Go.Proofs.Tryz.f99) (.nd .lf (some Go.Proofs.Tryz.f227) .lf))) (some Go.Proofs.Tryz.f19) (.nd (.nd (.nd .lf (some Go.Proofs.Tryz.f147) .lf) (some Go.Proofs.Tryz.f83) (.nd .lf (some Go.Proofs.Tryz.f211) .lf)) (some Go.Proofs.Tryz.f51) (.nd (.nd .lf (some Go.Proofs.Tryz.f179) .lf) (some Go.Proofs.Tryz.f115) (.nd .lf (some Go.Proofs.Tryz.f243) .lf)))) (some Go.Proofs.Tryz.f11) (.nd (.nd (.nd (.nd .lf (some Go.Proofs.Tryz.f139) .lf) (some Go.Proofs.Tryz.f75) (.nd .lf (some Go.Proofs.Tryz.f203) .lf)) (some Go.Proofs.Tryz.f43) (.nd (.nd .lf (some Go.Proofs.Tryz.f171) .lf) (some Go.Proofs.Tryz.f107) (.nd .lf (some Go.Proofs.Tryz.f235) .lf))) (some Go.Proofs.Tryz.f27) (.nd (.nd (.nd (.nd .lf (some Go.Proofs.Tryz.f283) .lf) (some Go.Proofs.Tryz.f155) .lf) (some Go.Proofs.Tryz.f91) (.nd .lf (some Go.Proofs.Tryz.f219) .lf)) (some Go.Proofs.Tryz.f59) (.nd (.nd .lf (some Go.Proofs.Tryz.f187) .lf) (some Go.Proofs.Tryz.f123) (.nd .lf (some Go.Proofs.Tryz.f251) .lf)))))) none (.nd (.nd (.nd (.nd (.nd (.nd (.nd .lf (some Go.Proofs.Tryz.f257) .lf) (some Go.Proofs.Tryz.f129) .lf) (some Go.Proofs.Tryz.f65) (.nd .lf (some Go.Proofs.Tryz.f193) .lf)) (some Go.Proofs.Tryz.f33) (.nd (.nd (.nd .lf (some Go.Proofs.Tryz.f289) .lf) (some Go.Proofs.Tryz.f161) .lf) (some Go.Proofs.Tryz.f97) (.nd .lf (some Go.Proofs.Tryz.f225) .lf))) (some Go.Proofs.Tryz.f17) (.nd (.nd (.nd .lf (some Go.Proofs.Tryz.f145) .lf) (some Go.Proofs.Tryz.f81) (.nd .lf (some Go.Proofs.Tryz.f209) .lf)) (some Go.Proofs.Tryz.f49) (.nd (.nd .lf (some Go.Proofs.Tryz.f177) .lf) (some Go.Proofs.Tryz.f113) (.nd .lf (some Go.Proofs.Tryz.f241) .lf)))) (some Go.Proofs.Tryz.f9) (.nd (.nd (.nd (.nd .lf (some Go.Proofs.Tryz.f137) .lf) (some Go.Proofs.Tryz.f73) (.nd .lf (some Go.Proofs.Tryz.f201) .lf)) (some Go.Proofs.Tryz.f41) (.nd (.nd .lf (some Go.Proofs.Tryz.f169) .lf) (some Go.Proofs.Tryz.f105) (.nd .lf (some Go.Proofs.Tryz.f233) .lf))) (some Go.Proofs.Tryz.f25) (.nd (.nd (.nd (.nd .lf (some Go.Proofs.Tryz.f281) .lf) (some Go.Proofs.Tryz.f153) .lf) (some Go.Proofs.Tryz.f89) .lf) (some Go.Proofs.Tryz.f57) (.nd (.nd .lf (some Go.Proofs.Tryz.f185) .lf) (some Go.Proofs.Tryz.f121) (.nd .lf (some Go.Proofs.Tryz.f249) .lf))))) (some Go.Proofs.Tryz.f5) (.nd (.nd (.nd (.nd (.nd .lf (some Go.Proofs.Tryz.f133) .lf) (some Go.Proofs.Tryz.f69) (.nd .lf (some Go.Proofs.Tryz.f197) .lf)) (some Go.Proofs.Tryz.f37) (.nd (.nd .lf (some Go.Proofs.Tryz.f165) .lf) (some Go.Proofs.Tryz.f101) (.nd .lf (some Go.Proofs.Tryz.f229) .lf))) (some Go.Proofs.Tryz.f21) (.nd (.nd (.nd (.nd .lf (some Go.Proofs.Tryz.f277) .lf) (some Go.Proofs.Tryz.f149) .lf) (some Go.Proofs.Tryz.f85) (.nd .lf (some Go.Proofs.Tryz.f213) .lf)) (some Go.Proofs.Tryz.f53) (.nd (.nd .lf (some Go.Proofs.Tryz.f181) .lf) (some Go.Proofs.Tryz.f117) (.nd .lf (some Go.Proofs.Tryz.f245) .lf)))) (some Go.Proofs.Tryz.f13) (.nd (.nd (.nd (.nd .lf (some Go.Proofs.Tryz.f141) .lf) (some Go.Proofs.Tryz.f77) (.nd .lf (some Go.Proofs.Tryz.f205) .lf)) (some Go.Proofs.Tryz.f45) (.nd (.nd .lf (some Go.Proofs.Tryz.f173) .lf) (some Go.Proofs.Tryz.f109) (.nd .lf (some Go.Proofs.Tryz.f237) .lf))) (some Go.Proofs.Tryz.f29) (.nd (.nd (.nd (.nd .lf (some Go.Proofs.Tryz.f285) .lf) (some Go.Proofs.Tryz.f157) .lf) (some Go.Proofs.Tryz.f93) (.nd .lf (some Go.Proofs.Tryz.f221) .lf)) (some Go.Proofs.Tryz.f61) (.nd (.nd .lf (some Go.Proofs.Tryz.f189) .lf) (some Go.Proofs.Tryz.f125) (.nd .lf (some Go.Proofs.Tryz.f253) .lf))))))) none (.nd (.nd (.nd (.nd (.nd (.nd (.nd (.nd .lf (some Go.Proofs.Tryz.f256) .lf) (some Go.Proofs.Tryz.f128) .lf) (some Go.Proofs.Tryz.f64) (.nd .lf (some Go.Proofs.Tryz.f192) .lf)) (some Go.Proofs.Tryz.f32) (.nd (.nd (.nd .lf (some Go.Proofs.Tryz.f288) .lf) (some Go.Proofs.Tryz.f160) .lf) (some Go.Proofs.Tryz.f96) (.nd .lf (some Go.Proofs.Tryz.f224) .lf))) (some Go.Proofs.Tryz.f16) (.nd (.nd (.nd .lf (some Go.Proofs.Tryz.f144) .lf) (some Go.Proofs.Tryz.f80) (.nd .lf (some Go.Proofs.Tryz.f208) .lf)) (some Go.Proofs.Tryz.f48) (.nd (.nd .lf (some Go.Proofs.Tryz.f176) .lf) (some Go.Proofs.Tryz.f112) (.nd .lf (some Go.Proofs.Tryz.f240) .lf)))) (some Go.Proofs.Tryz.f8) (.nd (.nd (.nd (.nd .lf (some Go.Proofs.Tryz.f136) .lf) (some Go.Proofs.Tryz.f72) (.nd .lf (some Go.Proofs.Tryz.f200) .lf)) (some Go.Proofs.Tryz.f40) (.nd (.nd .lf (some Go.Proofs.Tryz.f168) .lf) (some Go.Proofs.Tryz.f104) (.nd .lf (some Go.Proofs.Tryz.f232) .lf))) (some Go.Proofs.Tryz.f24) (.nd (.nd (.nd (.nd .lf (some Go.Proofs.Tryz.f280) .lf) (some Go.Proofs.Tryz.f152) .lf) (some Go.Proofs.Tryz.f88) (.nd .lf (some Go.Proofs.Tryz.f216) .lf)) (some Go.Proofs.Tryz.f56) (.nd (.nd .lf (some Go.Proofs.Tryz.f184) .lf) (some Go.Proofs.Tryz.f120) (.nd .lf (some Go.Proofs.Tryz.f248) .lf))))) (some Go.Proofs.Tryz.f4) (.nd (.nd (.nd (.nd (.nd .lf (some Go.Proofs.Tryz.f132) .lf) (some Go.Proofs.Tryz.f68) (.nd .lf (some Go.Proofs.Tryz.f196) .lf)) (some Go.Proofs.Tryz.f36) (.nd (.nd .lf (some Go.Proofs.Tryz.f164) .lf) (some Go.Proofs.Tryz.f100) (.nd .lf (some Go.Proofs.Tryz.f228) .lf))) (some Go.Proofs.Tryz.f20) (.nd (.nd (.nd .lf (some Go.Proofs.Tryz.f148) .lf) (some Go.Proofs.Tryz.f84) (.nd .lf (some Go.Proofs.Tryz.f212) .lf)) (some Go.Proofs.Tryz.f52) (.nd (.nd .lf (some Go.Proofs.Tryz.f180) .lf) (some Go.Proofs.Tryz.f116) (.nd .lf (some Go.Proofs.Tryz.f244) .lf)))) (some Go.Proofs.Tryz.f12) (.nd (.nd (.nd (.nd .lf (some Go.Proofs.Tryz.f140) .lf) (some Go.Proofs.Tryz.f76) (.nd .lf (some Go.Proofs.Tryz.f204) .lf)) (some Go.Proofs.Tryz.f44) (.nd (.nd .lf (some Go.Proofs.Tryz.f172) .lf) (some Go.Proofs.Tryz.f108) (.nd .lf (some Go.Proofs.Tryz.f236) .lf))) (some Go.Proofs.Tryz.f28) (.nd (.nd (.nd (.nd .lf (some Go.Proofs.Tryz.f284) .lf) (some Go.Proofs.Tryz.f156) .lf) (some Go.Proofs.Tryz.f92) (.nd .lf (some Go.Proofs.Tryz.f220) .lf)) (some Go.Proofs.Tryz.f60) (.nd (.nd .lf (some Go.Proofs.Tryz.f188) .lf) (some Go.Proofs.Tryz.f124) (.nd .lf (some Go.Proofs.Tryz.f252) .lf)))))) none (.nd (.nd (.nd (.nd (.nd (.nd (.nd .lf (some Go.Proofs.Tryz.f258) .lf) (some Go.Proofs.Tryz.f130) .lf) (some Go.Proofs.Tryz.f66) (.nd .lf (some Go.Proofs.Tryz.f194) .lf)) (some Go.Proofs.Tryz.f34) (.nd (.nd .lf (some Go.Proofs.Tryz.f162) .lf) (some Go.Proofs.Tryz.f98) (.nd .lf (some Go.Proofs.Tryz.f226) .lf))) (some Go.Proofs.Tryz.f18) (.nd (.nd (.nd .lf (some Go.Proofs.Tryz.f146) .lf) (some Go.Proofs.Tryz.f82) (.nd .lf (some Go.Proofs.Tryz.f210) .lf)) (some Go.Proofs.Tryz.f50) (.nd (.nd .lf (some Go.Proofs.Tryz.f178) .lf) (some Go.Proofs.Tryz.f114) (.nd .lf (some Go.Proofs.Tryz.f242) .lf)))) (some Go.Proofs.Tryz.f10) (.nd (.nd (.nd (.nd .lf (some Go.Proofs.Tryz.f138) .lf) (some Go.Proofs.Tryz.f74) (.nd .lf (some Go.Proofs.Tryz.f202) .lf)) (some Go.Proofs.Tryz.f42) (.nd (.nd .lf (some Go.Proofs.Tryz.f170) .lf) (some Go.Proofs.Tryz.f106) (.nd .lf (some Go.Proofs.Tryz.f234) .lf))) (some Go.Proofs.Tryz.f26) (.nd (.nd (.nd (.nd .lf (some Go.Proofs.Tryz.f282) .lf) (some Go.Proofs.Tryz.f154) .lf) (some Go.Proofs.Tryz.f90) (.nd .lf (some Go.Proofs.Tryz.f218) .lf)) (some Go.Proofs.Tryz.f58) (.nd (.nd .lf (some Go.Proofs.Tryz.f186) .lf) (some Go.Proofs.Tryz.f122) (.nd .lf (some Go.Proofs.Tryz.f250) .lf))))) (some Go.Proofs.Tryz.f6) (.nd (.nd (.nd (.nd (.nd .lf (some Go.Proofs.Tryz.f134) .lf) (some Go.Proofs.Tryz.f70) (.nd .lf (some Go.Proofs.Tryz.f198) .lf)) (some Go.Proofs.Tryz.f38) (.nd (.nd .lf (some Go.Proofs.Tryz.f166) .lf) (some Go.Proofs.Tryz.f102) (.nd .lf (some Go.Proofs.Tryz.f230) .lf))) (some Go.Proofs.Tryz.f22) (.nd (.nd (.nd .lf (some Go.Proofs.Tryz.f150) .lf) (some Go.Proofs.Tryz.f86) (.nd .lf (some Go.Proofs.Tryz.f214) .lf)) (some Go.Proofs.Tryz.f54) (.nd (.nd .lf (some Go.Proofs.Tryz.f182) .lf) (some Go.Proofs.Tryz.f118) (.nd .lf (some Go.Proofs.Tryz.f246) .lf)))) (some Go.Proofs.Tryz.f14) (.nd (.nd (.nd (.nd .lf (some Go.Proofs.Tryz.f142) .lf) (some Go.Proofs.Tryz.f78) (.nd .lf (some Go.Proofs.Tryz.f206) .lf)) (some Go.Proofs.Tryz.f46) (.nd (.nd .lf (some Go.Proofs.Tryz.f174) .lf) (some Go.Proofs.Tryz.f110) (.nd .lf (some Go.Proofs.Tryz.f238) .lf))) (some Go.Proofs.Tryz.f30) (.nd (.nd (.nd (.nd .lf (some Go.Proofs.Tryz.f286) .lf) (some Go.Proofs.Tryz.f158) .lf) (some Go.Proofs.Tryz.f94) (.nd .lf (some Go.Proofs.Tryz.f222) .lf)) (some Go.Proofs.Tryz.f62) (.nd (.nd .lf (some Go.Proofs.Tryz.f190) .lf) (some Go.Proofs.Tryz.f126) (.nd .lf (some Go.Proofs.Tryz.f254) .lf))))))))
def planT : Tr (Tr (List (Nat × Nat × Nat))) := (.nd (.nd (.nd (.nd (.nd (.nd (.nd (.nd (.nd .lf (some (.nd (.nd (.nd .lf (some []) .lf) none (.nd .lf (some []) .lf)) none (.nd .lf none (.nd .lf (some []) .lf)))) .lf) none .lf) none .lf) none .lf) (some (.nd .lf none (.nd (.nd (.nd .lf (some [(1, 0, 2)]) .lf) (some [(6, 0, 3), (9, 0, 3), (17, 0, 3)]) .lf) none .lf))) (.nd (.nd .lf none (.nd .lf (some (.nd .lf none (.nd (.nd .lf (some []) .lf) none (.nd .lf (some []) .lf)))) .lf)) (some (.nd .lf none (.nd (.nd .lf (some [(0, 0, 2), (7, 0, 1), (10, 0, 1)]) .lf) none .lf))) (.nd (.nd .lf (some (.nd (.nd .lf (some [(0, 0, 2)]) .lf) none .lf)) .lf) none .lf))) (some (.nd .lf none (.nd .lf none (.nd (.nd .lf none (.nd .lf (some [(5, 0, 1)]) .lf)) none .lf)))) (.nd (.nd (.nd (.nd .lf (some (.nd (.nd (.nd .lf (some [(4, 0, 3)]) .lf) none .lf) none .lf)) .lf) none .lf) none (.nd (.nd .lf (some (.nd (.nd (.nd .lf none (.nd .lf (some []) .lf)) none .lf) none (.nd .lf none (.nd .lf (some []) .lf)))) .lf) none .lf)) none (.nd (.nd .lf (some (.nd (.nd (.nd .lf (some [(9, 0, 0)]) .lf) none .lf) none .lf)) .lf) (some (.nd .lf none (.nd .lf none (.nd (.nd (.nd (.nd .lf (some [(1, 0, 2)]) .lf) none .lf) none .lf) none .lf)))) (.nd .lf none (.nd .lf (some (.nd .lf none (.nd .lf none (.nd (.nd .lf (some []) .lf) none .lf)))) .lf))))) none (.nd (.nd (.nd (.nd (.nd .lf (some (.nd (.nd .lf (some [(10, 0, 1)]) .lf) none (.nd (.nd .lf (some []) .lf) (some []) .lf))) .lf) (some (.nd (.nd .lf none (.nd .lf (some []) .lf)) none .lf)) (.nd .lf (some (.nd (.nd (.nd (.nd .lf (some [(3, 0, 1), (6, 0, 2)]) .lf) none .lf) none .lf) none .lf)) .lf)) none (.nd .lf (some (.nd (.nd (.nd (.nd .lf (some []) .lf) none .lf) none .lf) none .lf)) .lf)) none (.nd (.nd .lf none (.nd .lf (some (.nd (.nd (.nd .lf (some []) .lf) none .lf) none .lf)) .lf)) (some (.nd (.nd .lf none (.nd .lf (some []) .lf)) none .lf)) (.nd (.nd .lf (some (.nd (.nd .lf none (.nd (.nd (.nd .lf (some []) .lf) none .lf) none .lf)) none (.nd (.nd .lf none (.nd .lf (some []) .lf)) none .lf))) .lf) none (.nd .lf (some (.nd (.nd (.nd .lf (some []) .lf) none .lf) none .lf)) .lf)))) none (.nd (.nd (.nd (.nd .lf (some (.nd (.nd .lf (some [(5, 0, 1), (7, 0, 1), (9, 0, 1), (10, 0, 1)]) .lf) none .lf)) .lf) none .lf) none (.nd .lf none (.nd .lf (some (.nd (.nd (.nd .lf (some []) .lf) none (.nd .lf (some []) .lf)) none (.nd .lf none (.nd .lf (some []) .lf)))) .lf))) (some (.nd .lf none (.nd (.nd .lf (some []) .lf) none .lf))) (.nd (.nd (.nd .lf (some (.nd .lf none (.nd (.nd .lf (some [(4, 0, 2)]) .lf) none .lf))) .lf) (some (.nd (.nd .lf none (.nd .lf (some []) .lf)) none .lf)) .lf) none (.nd (.nd .lf (some (.nd (.nd (.nd (.nd .lf (some [(4, 0, 1)]) .lf) (some [(4, 0, 1), (14, 0, 1), (18, 0, 1)]) .lf) (some [(10, 0, 1)]) .lf) none (.nd (.nd .lf (some [(3, 0, 3), (7, 0, 3), (8, 0, 3), (10, 0, 3), (21, 0, 4)]) .lf) (some []) .lf))) .lf) (some (.nd (.nd .lf (some [(3, 0, 1), (7, 0, 1)]) .lf) none .lf)) (.nd .lf (some (.nd (.nd (.nd (.nd .lf none (.nd .lf (some []) .lf)) none (.nd .lf (some []) .lf)) none (.nd (.nd (.nd .lf (some []) .lf) none .lf) (some []) .lf)) none (.nd (.nd (.nd (.nd .lf (some []) .lf) none .lf) none .lf) none (.nd .lf none (.nd (.nd .lf (some []) .lf) none .lf))))) .lf)))))) none (.nd (.nd (.nd (.nd .lf none (.nd (.nd .lf (some (.nd (.nd (.nd .lf none (.nd .lf (some []) .lf)) none .lf) none (.nd .lf none (.nd .lf (some []) .lf)))) .lf) (some (.nd (.nd .lf (some [(3, 0, 1), (4, 0, 1)]) .lf) none .lf)) (.nd .lf (some (.nd (.nd .lf (some [(9, 0, 0)]) .lf) none .lf)) .lf))) none (.nd (.nd .lf none (.nd .lf (some (.nd .lf none (.nd .lf none (.nd (.nd .lf (some []) .lf) none .lf)))) .lf)) none (.nd .lf (some (.nd (.nd .lf (some []) .lf) none .lf)) (.nd .lf (some (.nd (.nd .lf none (.nd (.nd (.nd .lf (some []) .lf) none .lf) none .lf)) none .lf)) .lf)))) (some (.nd (.nd .lf none (.nd (.nd .lf (some [(1, 0, 1), (10, 0, 1), (14, 0, 2)]) .lf) none .lf)) none .lf)) (.nd (.nd .lf none (.nd .lf none (.nd .lf (some (.nd (.nd (.nd (.nd .lf none (.nd .lf (some []) .lf)) none (.nd (.nd (.nd .lf (some []) .lf) none .lf) (some []) .lf)) none (.nd (.nd (.nd .lf (some []) .lf) none .lf) (some []) .lf)) none .lf)) .lf))) none (.nd (.nd .lf (some (.nd (.nd (.nd .lf (some [(3, 0, 1)]) .lf) none .lf) none (.nd .lf (some [(3, 0, 1)]) .lf))) .lf) (some (.nd (.nd (.nd .lf none (.nd .lf (some []) .lf)) none (.nd .lf (some [(4, 0, 1), (8, 0, 1), (10, 0, 1)]) .lf)) none (.nd (.nd (.nd .lf (some []) .lf) none .lf) none .lf))) (.nd .lf (some (.nd (.nd (.nd .lf none (.nd .lf (some []) .lf)) none (.nd (.nd .lf (some []) .lf) none (.nd .lf (some [(1, 0, 2)]) .lf))) none (.nd (.nd (.nd .lf (some [(5, 0, 2), (7, 0, 3)]) .lf) (some []) (.nd .lf (some [(1, 0, 2)]) .lf)) (some []) .lf))) .lf)))) (some (.nd (.nd .lf none (.nd (.nd .lf (some [(4, 0, 1), (5, 0, 1), (15, 0, 1), (19, 0, 1)]) .lf) none (.nd .lf (some []) .lf))) none .lf)) (.nd (.nd (.nd (.nd .lf (some (.nd (.nd (.nd .lf none (.nd .lf (some []) .lf)) none .lf) none (.nd (.nd .lf none (.nd .lf (some []) .lf)) none (.nd .lf (some [(4, 0, 1)]) .lf)))) (.nd .lf (some (.nd (.nd (.nd .lf (some []) .lf) (some [(10, 0, 0)]) .lf) none .lf)) .lf)) (some (.nd (.nd (.nd .lf (some [(4, 0, 1), (5, 0, 1)]) .lf) none .lf) none .lf)) (.nd .lf (some (.nd (.nd (.nd (.nd .lf (some []) .lf) none .lf) none .lf) none (.nd (.nd (.nd .lf (some []) .lf) none .lf) none .lf))) .lf)) (some (.nd (.nd (.nd (.nd (.nd .lf none (.nd .lf (some []) .lf)) none (.nd .lf (some [(19, 0, 1), (24, 0, 1)]) .lf)) none (.nd .lf none (.nd (.nd .lf (some []) .lf) none .lf))) none (.nd (.nd (.nd .lf (some []) .lf) (some []) (.nd (.nd .lf (some []) .lf) (some []) .lf)) none (.nd (.nd .lf (some [(0, 0, 1)]) (.nd .lf (some []) .lf)) none .lf))) none (.nd (.nd (.nd .lf none (.nd .lf (some []) .lf)) none (.nd .lf (some []) .lf)) none .lf))) (.nd (.nd (.nd .lf (some (.nd (.nd (.nd .lf (some [(4, 0, 2)]) .lf) none .lf) none .lf)) .lf) (some (.nd (.nd .lf (some []) .lf) none .lf)) (.nd .lf (some (.nd (.nd (.nd .lf (some []) .lf) (some []) (.nd .lf (some []) .lf)) none (.nd (.nd (.nd .lf (some []) .lf) none .lf) none .lf))) .lf)) (some (.nd (.nd (.nd (.nd .lf (some []) .lf) none .lf) none .lf) none .lf)) (.nd .lf none (.nd .lf (some (.nd (.nd .lf (some []) .lf) none .lf)) .lf)))) none (.nd (.nd (.nd (.nd .lf (some (.nd (.nd (.nd .lf (some [(9, 0, 0)]) .lf) none .lf) none .lf)) .lf) none .lf) (some (.nd (.nd .lf (some [(9, 0, 1)]) .lf) none .lf)) (.nd .lf (some (.nd .lf none (.nd .lf (some []) .lf))) (.nd .lf (some (.nd (.nd (.nd .lf (some []) .lf) (some []) .lf) none (.nd .lf (some []) .lf))) .lf))) none (.nd (.nd .lf (some (.nd (.nd (.nd .lf (some []) .lf) none .lf) none .lf)) .lf) none (.nd (.nd .lf (some (.nd .lf none (.nd .lf (some []) .lf))) .lf) none (.nd .lf (some (.nd (.nd (.nd (.nd (.nd .lf (some []) .lf) none .lf) (some []) .lf) (some []) (.nd .lf (some []) (.nd (.nd .lf (some []) .lf) (some []) .lf))) none (.nd (.nd (.nd .lf (some []) .lf) none .lf) none (.nd (.nd (.nd .lf (some []) .lf) (some []) .lf) none .lf)))) .lf))))))) none (.nd (.nd (.nd (.nd (.nd .lf (some (.nd .lf none (.nd .lf none (.nd (.nd .lf (some []) .lf) (some [(1, 0, 2), (3, 0, 2), (6, 0, 2), (11, 0, 2)]) .lf)))) .lf) none (.nd (.nd (.nd .lf (some (.nd (.nd (.nd (.nd .lf (some [(6, 0, 1), (12, 0, 2)]) .lf) none (.nd (.nd .lf (some [(3, 0, 1), (8, 0, 1), (17, 0, 1), (19, 0, 1)]) .lf) none .lf)) none (.nd (.nd .lf none (.nd .lf (some [(3, 0, 1)]) .lf)) none .lf)) none (.nd (.nd .lf none (.nd (.nd .lf (some []) .lf) none .lf)) none (.nd .lf none (.nd .lf (some []) .lf))))) .lf) (some (.nd (.nd .lf (some [(0, 0, 1)]) .lf) none .lf)) (.nd .lf (some (.nd .lf none (.nd .lf none (.nd (.nd .lf (some []) .lf) none .lf)))) .lf)) none (.nd (.nd .lf (some (.nd (.nd .lf none (.nd .lf (some []) .lf)) none .lf)) .lf) (some (.nd (.nd .lf (some [(13, 0, 1)]) .lf) none .lf)) .lf))) (some (.nd (.nd (.nd (.nd .lf none (.nd .lf (some []) .lf)) none .lf) none (.nd (.nd .lf none (.nd (.nd .lf (some [(3, 0, 1), (8, 0, 1)]) .lf) none .lf)) none (.nd (.nd .lf (some []) .lf) none (.nd (.nd .lf (some [(10, 0, 1)]) .lf) (some []) .lf)))) none (.nd (.nd (.nd (.nd .lf (some [(10, 0, 1)]) .lf) none .lf) none (.nd .lf none (.nd .lf (some []) .lf))) none (.nd .lf none (.nd (.nd (.nd .lf (some [(2, 0, 1)]) .lf) none .lf) (some [(11, 0, 1)]) .lf))))) (.nd (.nd .lf (some (.nd (.nd (.nd (.nd .lf none (.nd .lf (some [(2, 0, 1)]) .lf)) none .lf) none (.nd (.nd (.nd .lf (some [(4, 0, 1), (19, 0, 1)]) .lf) none .lf) none .lf)) none (.nd (.nd .lf none (.nd (.nd .lf (some [(4, 0, 1), (6, 0, 1), (8, 0, 1), (16, 0, 1)]) .lf) none .lf)) none (.nd (.nd .lf (some [(10, 0, 1)]) .lf) none .lf)))) (.nd (.nd .lf (some (.nd (.nd .lf none (.nd (.nd (.nd .lf (some []) .lf) none .lf) none .lf)) none .lf)) .lf) none (.nd .lf (some (.nd .lf none (.nd (.nd .lf (some []) .lf) none (.nd .lf (some []) .lf)))) .lf))) none (.nd .lf (some (.nd (.nd (.nd (.nd (.nd .lf (some []) .lf) none (.nd .lf (some []) .lf)) none (.nd .lf (some []) .lf)) none (.nd (.nd (.nd .lf (some [(1, 0, 2)]) .lf) none .lf) none .lf)) none (.nd (.nd .lf none (.nd (.nd .lf (some []) .lf) none .lf)) none .lf))) (.nd .lf (some (.nd (.nd (.nd (.nd (.nd .lf (some [(1, 0, 1), (3, 0, 1)]) .lf) none (.nd .lf (some [(1, 0, 1), (3, 0, 1)]) .lf)) none .lf) none (.nd (.nd (.nd .lf (some [(1, 0, 1), (3, 0, 1), (5, 0, 1), (7, 0, 1), (9, 0, 1)]) .lf) (some [(1, 0, 1), (3, 0, 1), (5, 0, 1)]) .lf) (some [(1, 0, 1), (3, 0, 1), (5, 0, 1)]) (.nd (.nd .lf (some [(1, 0, 2), (3, 0, 2), (5, 0, 2), (7, 0, 2), (9, 0, 2), (14, 0, 1)]) .lf) none .lf))) none .lf)) (.nd .lf (some (.nd .lf none (.nd .lf none (.nd (.nd .lf (some []) .lf) none .lf)))) .lf))))) none (.nd (.nd (.nd (.nd (.nd .lf (some (.nd (.nd .lf none (.nd (.nd (.nd .lf (some []) .lf) none .lf) (some [(4, 0, 1), (18, 0, 1), (20, 0, 2)]) (.nd .lf (some [(4, 0, 1)]) .lf))) none (.nd (.nd .lf none (.nd .lf (some []) .lf)) none (.nd .lf (some []) (.nd (.nd .lf (some []) .lf) none .lf))))) .lf) none .lf) none (.nd (.nd .lf (some (.nd (.nd (.nd .lf (some [(4, 0, 3)]) .lf) none .lf) none (.nd (.nd .lf (some []) .lf) none .lf))) .lf) none (.nd .lf (some (.nd .lf none (.nd (.nd (.nd .lf (some []) .lf) none .lf) none .lf))) .lf))) none (.nd (.nd (.nd .lf (some (.nd .lf none (.nd (.nd .lf none (.nd .lf (some []) .lf)) none (.nd .lf (some []) .lf)))) .lf) (some (.nd .lf none (.nd (.nd .lf none (.nd (.nd .lf none (.nd .lf (some [(4, 0, 2)]) .lf)) none .lf)) (some [(10, 1, 2)]) (.nd .lf none (.nd .lf (some [(4, 0, 2)]) .lf))))) (.nd .lf (some (.nd (.nd (.nd (.nd .lf none (.nd .lf (some []) .lf)) none (.nd .lf (some []) .lf)) none (.nd (.nd (.nd .lf (some []) .lf) none .lf) (some []) .lf)) none (.nd (.nd (.nd (.nd .lf (some []) .lf) none .lf) none .lf) none (.nd .lf none (.nd (.nd .lf (some []) .lf) none .lf))))) .lf)) (some (.nd .lf none (.nd .lf none (.nd (.nd .lf (some []) .lf) none .lf)))) (.nd (.nd .lf (some (.nd .lf none (.nd .lf none (.nd .lf (some []) .lf)))) .lf) none .lf))) none (.nd (.nd (.nd (.nd .lf (some (.nd (.nd (.nd .lf (some []) .lf) none (.nd (.nd .lf (some [(3, 0, 1)]) .lf) none .lf)) none (.nd (.nd .lf none (.nd .lf (some []) .lf)) none .lf))) .lf) none .lf) (some (.nd (.nd .lf (some [(0, 0, 1)]) .lf) none .lf)) .lf) none (.nd (.nd .lf (some (.nd .lf none (.nd .lf none (.nd .lf (some []) .lf)))) .lf) (some (.nd (.nd .lf none (.nd (.nd (.nd .lf (some [(4, 0, 2)]) .lf) none .lf) none .lf)) none (.nd .lf none (.nd (.nd (.nd .lf (some [(4, 0, 2)]) .lf) none .lf) none (.nd .lf (some [(0, 0, 1)]) .lf))))) (.nd (.nd .lf (some (.nd (.nd (.nd .lf none (.nd .lf (some [(3, 0, 1), (5, 0, 1)]) .lf)) none (.nd .lf (some [(10, 0, 0)]) .lf)) none (.nd (.nd (.nd .lf (some [(3, 0, 1)]) .lf) none .lf) none .lf))) .lf) (some (.nd (.nd .lf (some []) .lf) none .lf)) (.nd .lf (some (.nd (.nd (.nd .lf (some []) .lf) (some []) (.nd .lf (some []) .lf)) none (.nd (.nd (.nd .lf (some []) .lf) none .lf) none .lf))) .lf)))))) none (.nd (.nd (.nd (.nd (.nd (.nd (.nd .lf (some (.nd (.nd .lf (some []) .lf) none .lf)) .lf) (some (.nd (.nd (.nd .lf none (.nd (.nd .lf (some [(2, 0, 1)]) .lf) none .lf)) none (.nd (.nd (.nd .lf (some [(10, 0, 1)]) .lf) none .lf) none .lf)) none (.nd (.nd (.nd .lf (some []) .lf) none (.nd .lf (some [(10, 0, 1)]) .lf)) (some [(1, 0, 1)]) .lf))) .lf) none .lf) (some (.nd .lf none (.nd (.nd .lf (some [(4, 0, 1)]) .lf) none .lf))) (.nd .lf (some (.nd (.nd .lf (some []) .lf) none .lf)) (.nd .lf (some (.nd (.nd .lf (some []) (.nd (.nd .lf (some []) .lf) (some []) .lf)) none .lf)) .lf))) none (.nd .lf (some (.nd (.nd (.nd (.nd (.nd (.nd .lf (some [(1, 0, 2), (3, 0, 2), (5, 0, 2), (7, 0, 2), (9, 0, 2), (14, 0, 1)]) .lf) none .lf) (some [(1, 0, 1), (3, 0, 1), (5, 0, 1)]) .lf) none .lf) none (.nd (.nd .lf none (.nd .lf (some [(1, 0, 1), (3, 0, 1), (5, 0, 1), (7, 0, 1), (9, 0, 1)]) .lf)) none (.nd .lf (some [(1, 0, 1), (3, 0, 1), (5, 0, 1)]) .lf))) none (.nd .lf none (.nd (.nd (.nd (.nd .lf (some [(1, 0, 1), (3, 0, 1)]) .lf) none .lf) none .lf) none (.nd (.nd .lf (some [(1, 0, 1), (3, 0, 1)]) .lf) none .lf))))) (.nd .lf (some (.nd .lf none (.nd .lf (some [(0, 0, 1)]) .lf))) .lf))) none (.nd (.nd (.nd .lf (some (.nd (.nd (.nd (.nd .lf (some [(4, 0, 1)]) (.nd .lf (some []) .lf)) none .lf) none (.nd (.nd (.nd .lf (some [(10, 0, 1)]) .lf) none (.nd .lf (some [(1, 0, 1), (3, 0, 1), (4, 0, 1), (6, 0, 2)]) .lf)) none (.nd .lf (some [(0, 0, 1)]) .lf))) none (.nd (.nd (.nd .lf none (.nd .lf (some []) .lf)) (some []) .lf) none (.nd (.nd .lf (some [(18, 0, 1)]) (.nd .lf (some [(4, 0, 1)]) .lf)) (some [(1, 0, 1)]) (.nd (.nd .lf (some [(10, 0, 0)]) .lf) (some [(4, 0, 1)]) .lf))))) .lf) (some (.nd (.nd (.nd (.nd .lf (some [(12, 0, 1)]) .lf) none .lf) none .lf) none .lf)) .lf) (some (.nd (.nd (.nd .lf none (.nd .lf (some [(4, 0, 1)]) .lf)) (some [(1, 0, 1), (6, 0, 1), (12, 0, 1), (14, 0, 2)]) .lf) none (.nd (.nd .lf (some [(4, 0, 1)]) .lf) none (.nd .lf (some [(2, 0, 1)]) .lf)))) (.nd .lf none (.nd (.nd .lf (some (.nd (.nd (.nd (.nd .lf (some []) .lf) none .lf) none (.nd .lf (some []) .lf)) none .lf)) .lf) none (.nd .lf (some (.nd (.nd (.nd .lf (some []) .lf) none .lf) none .lf)) .lf))))) none (.nd (.nd (.nd .lf (some (.nd .lf none (.nd .lf none (.nd (.nd .lf (some []) .lf) none .lf)))) (.nd .lf none (.nd .lf (some (.nd (.nd .lf (some [(3, 0, 1), (4, 0, 1), (6, 0, 2), (7, 0, 2)]) .lf) none .lf)) .lf))) none (.nd (.nd (.nd .lf (some (.nd (.nd (.nd .lf (some []) .lf) none .lf) none .lf)) .lf) none (.nd .lf (some (.nd (.nd (.nd (.nd (.nd .lf (some []) .lf) none .lf) (some []) .lf) (some []) (.nd .lf (some []) (.nd (.nd .lf (some []) .lf) (some []) .lf))) none (.nd (.nd (.nd .lf (some []) .lf) none .lf) none (.nd (.nd (.nd .lf (some []) .lf) (some []) .lf) none .lf)))) .lf)) none (.nd .lf (some (.nd (.nd (.nd .lf (some [(0, 0, 1), (1, 0, 1)]) .lf) none .lf) none .lf)) (.nd .lf (some (.nd .lf none (.nd (.nd .lf (some []) .lf) none (.nd .lf (some []) .lf)))) .lf)))) none (.nd (.nd (.nd (.nd .lf (some (.nd .lf none (.nd (.nd .lf none (.nd (.nd .lf (some []) .lf) none .lf)) none .lf))) .lf) none .lf) none (.nd (.nd .lf (some (.nd .lf none (.nd (.nd .lf (some []) .lf) none .lf))) .lf) (some (.nd (.nd .lf (some []) .lf) none .lf)) .lf)) (some (.nd (.nd (.nd .lf (some [(7, 0, 1)]) .lf) none .lf) none .lf)) (.nd (.nd .lf (some (.nd (.nd (.nd .lf (some [(4, 0, 1)]) .lf) none .lf) none (.nd .lf (some [(4, 0, 2)]) .lf))) .lf) none (.nd (.nd .lf (some (.nd (.nd .lf (some [(3, 0, 1), (4, 0, 1)]) .lf) none (.nd (.nd .lf (some [(3, 0, 1), (4, 0, 1)]) .lf) none .lf))) .lf) (some (.nd (.nd .lf none (.nd .lf none (.nd (.nd .lf (some [(1, 0, 1)]) .lf) none .lf))) none .lf)) (.nd .lf (some (.nd (.nd (.nd .lf (some []) .lf) none .lf) none .lf)) .lf))))))))
def frzT : Tr (Tr Bool) := .lf
def exts : List (Nat × Nat) := [(217, 1)]
def extT : Tr Nat := (.nd (.nd .lf none (.nd (.nd .lf none (.nd .lf none (.nd (.nd .lf none (.nd .lf (some 1) .lf)) none .lf))) none .lf)) none .lf)
def meths : List (Nat × List (String × FuncId)) := [(82, [("Kind", 277)]), (123, [("Kind", 279)]), (128, [("Kind", 280)]), (137, [("Kind", 281)]), (148, [("Kind", 282)]), (207, [("Kind", 283)]), (214, [("Kind", 284)]), (230, [("Kind", 285)]), (232, [("Kind", 286)]), (234, [("Kind", 287)]), (236, [("Kind", 288)]), (239, [("Kind", 289)])]
def methT : Tr (List (String × FuncId)) := (.nd (.nd (.nd (.nd (.nd .lf none (.nd (.nd .lf none (.nd .lf (some [("Kind", 283)]) .lf)) none (.nd .lf none (.nd .lf (some [("Kind", 289)]) .lf)))) none .lf) none (.nd .lf none (.nd .lf none (.nd .lf none (.nd .lf (some [("Kind", 279)]) .lf))))) none (.nd (.nd .lf none (.nd (.nd (.nd (.nd .lf (some [("Kind", 281)]) .lf) none .lf) none .lf) none .lf)) none .lf)) none (.nd (.nd (.nd (.nd (.nd (.nd (.nd .lf (some [("Kind", 280)]) .lf) none .lf) none .lf) none .lf) none (.nd (.nd .lf none (.nd .lf none (.nd .lf (some [("Kind", 286)]) .lf))) none .lf)) none (.nd (.nd .lf none (.nd (.nd (.nd .lf (some [("Kind", 282)]) .lf) none .lf) none .lf)) none (.nd (.nd .lf none (.nd .lf none (.nd .lf (some [("Kind", 288)]) .lf))) none .lf))) none (.nd (.nd (.nd .lf none (.nd (.nd .lf (some [("Kind", 277)]) .lf) none .lf)) none (.nd (.nd .lf none (.nd .lf none (.nd .lf (some [("Kind", 287)]) .lf))) none .lf)) none (.nd (.nd (.nd .lf none (.nd .lf none (.nd .lf (some [("Kind", 285)]) .lf))) none (.nd (.nd .lf none (.nd .lf (some [("Kind", 284)]) .lf)) none .lf)) none .lf))))
def polT : Tr Pol := (.nd (.nd (.nd (.nd (.nd (.nd (.nd (.nd (.nd .lf (some .raw) .lf) (some .raw) .lf) (some .raw) (.nd .lf (some .raw) .lf)) (some .raw) (.nd (.nd (.nd .lf (some .raw) .lf) (some .raw) .lf) (some .raw) (.nd .lf (some .raw) .lf))) (some .raw) (.nd (.nd (.nd .lf (some .raw) .lf) (some .raw) (.nd .lf (some .raw) .lf)) (some .raw) (.nd (.nd .lf (some .raw) .lf) (some .raw) (.nd .lf (some .raw) .lf)))) (some .raw) (.nd (.nd (.nd (.nd .lf (some .raw) .lf) (some .raw) (.nd .lf (some .raw) .lf)) (some .raw) (.nd (.nd .lf (some .raw) .lf) (some .raw) (.nd .lf (some .raw) .lf))) (some .raw) (.nd (.nd (.nd (.nd .lf (some .raw) .lf) (some .raw) .lf) (some .raw) (.nd .lf (some .raw) .lf)) (some .dfr) (.nd (.nd .lf (some .raw) .lf) (some .raw) (.nd .lf (some .raw) .lf))))) (some .raw) (.nd (.nd (.nd (.nd (.nd .lf (some .raw) .lf) (some .raw) (.nd .lf (some .raw) .lf)) (some .raw) (.nd (.nd .lf (some .raw) .lf) (some .raw) (.nd .lf (some .raw) .lf))) (some .raw) (.nd (.nd (.nd .lf (some .raw) .lf) (some .raw) (.nd .lf (some .raw) .lf)) (some .raw) (.nd (.nd .lf (some .raw) .lf) (some .raw) (.nd .lf (some .raw) .lf)))) (some .raw) (.nd (.nd (.nd (.nd .lf (some .raw) .lf) (some .raw) (.nd .lf (some .raw) .lf)) (some .raw) (.nd (.nd .lf (some .sorted) .lf) (some .raw) (.nd .lf (some .raw) .lf))) (some .raw) (.nd (.nd (.nd (.nd .lf (some .raw) .lf) (some .raw) .lf) (some .raw) (.nd .lf (some .raw) .lf)) (some .raw) (.nd (.nd .lf (some .raw) .lf) (some .raw) (.nd .lf (some .raw) .lf)))))) none (.nd (.nd (.nd (.nd (.nd (.nd (.nd .lf (some .raw) .lf) (some .raw) .lf) (some .raw) (.nd .lf (some .raw) .lf)) (some .raw) (.nd (.nd (.nd .lf (some .raw) .lf) (some .raw) .lf) (some .raw) (.nd .lf (some .raw) .lf))) (some .raw) (.nd (.nd (.nd .lf (some .raw) .lf) (some .raw) (.nd .lf (some .raw) .lf)) (some .raw) (.nd (.nd .lf (some .raw) .lf) (some .raw) (.nd .lf (some .raw) .lf)))) (some .raw) (.nd (.nd (.nd (.nd .lf (some .raw) .lf) (some .raw) (.nd .lf (some .raw) .lf)) (some .raw) (.nd (.nd .lf (some .raw) .lf) (some .raw) (.nd .lf (some .raw) .lf))) (some .raw) (.nd (.nd (.nd (.nd .lf (some .raw) .lf) (some .raw) .lf) (some .raw) .lf) (some .raw) (.nd (.nd .lf (some .raw) .lf) (some .raw) (.nd .lf (some .raw) .lf))))) (some .raw) (.nd (.nd (.nd (.nd (.nd .lf (some .raw) .lf) (some .raw) (.nd .lf (some .raw) .lf)) (some .raw) (.nd (.nd .lf (some .raw) .lf) (some .raw) (.nd .lf (some .raw) .lf))) (some .raw) (.nd (.nd (.nd (.nd .lf (some .raw) .lf) (some .raw) .lf) (some .raw) (.nd .lf (some .raw) .lf)) (some .raw) (.nd (.nd .lf (some .raw) .lf) (some .raw) (.nd .lf (some .raw) .lf)))) (some .raw) (.nd (.nd (.nd (.nd .lf (some .raw) .lf) (some .raw) (.nd .lf (some .raw) .lf)) (some .raw) (.nd (.nd .lf (some .raw) .lf) (some .raw) (.nd .lf (some .raw) .lf))) (some .raw) (.nd (.nd (.nd (.nd .lf (some .raw) .lf) (some .raw) .lf) (some .raw) (.nd .lf (some .raw) .lf)) (some .raw) (.nd (.nd .lf (some .raw) .lf) (some .raw) (.nd .lf (some .raw) .lf))))))) none (.nd (.nd (.nd (.nd (.nd (.nd (.nd (.nd .lf (some .raw) .lf) (some .raw) .lf) (some .raw) (.nd .lf (some .raw) .lf)) (some .raw) (.nd (.nd (.nd .lf (some .raw) .lf) (some .raw) .lf) (some .raw) (.nd .lf (some .raw) .lf))) (some .raw) (.nd (.nd (.nd .lf (some .raw) .lf) (some .raw) (.nd .lf (some .raw) .lf)) (some .raw) (.nd (.nd .lf (some .raw) .lf) (some .raw) (.nd .lf (some .raw) .lf)))) (some .raw) (.nd (.nd (.nd (.nd .lf (some .raw) .lf) (some .raw) (.nd .lf (some .raw) .lf)) (some .raw) (.nd (.nd .lf (some .raw) .lf) (some .raw) (.nd .lf (some .raw) .lf))) (some .raw) (.nd (.nd (.nd (.nd .lf (some .raw) .lf) (some .raw) .lf) (some .raw) (.nd .lf (some .raw) .lf)) (some .raw) (.nd (.nd .lf (some .raw) .lf) (some .raw) (.nd .lf (some .raw) .lf))))) (some .raw) (.nd (.nd (.nd (.nd (.nd .lf (some .raw) .lf) (some .raw) (.nd .lf (some .raw) .lf)) (some .raw) (.nd (.nd .lf (some .raw) .lf) (some .raw) (.nd .lf (some .raw) .lf))) (some .raw) (.nd (.nd (.nd .lf (some .raw) .lf) (some .raw) (.nd .lf (some .raw) .lf)) (some .raw) (.nd (.nd .lf (some .raw) .lf) (some .raw) (.nd .lf (some .raw) .lf)))) (some .raw) (.nd (.nd (.nd (.nd .lf (some .raw) .lf) (some .raw) (.nd .lf (some .raw) .lf)) (some .raw) (.nd (.nd .lf (some .raw) .lf) (some .raw) (.nd .lf (some .raw) .lf))) (some .raw) (.nd (.nd (.nd (.nd .lf (some .raw) .lf) (some .raw) .lf) (some .raw) (.nd .lf (some .raw) .lf)) (some .raw) (.nd (.nd .lf (some .raw) .lf) (some .raw) (.nd .lf (some .raw) .lf)))))) none (.nd (.nd (.nd (.nd (.nd (.nd (.nd .lf (some .raw) .lf) (some .raw) .lf) (some .raw) (.nd .lf (some .raw) .lf)) (some .raw) (.nd (.nd .lf (some .raw) .lf) (some .raw) (.nd .lf (some .raw) .lf))) (some .raw) (.nd (.nd (.nd .lf (some .raw) .lf) (some .raw) (.nd .lf (some .raw) .lf)) (some .raw) (.nd (.nd .lf (some .raw) .lf) (some .raw) (.nd .lf (some .raw) .lf)))) (some .raw) (.nd (.nd (.nd (.nd .lf (some .raw) .lf) (some .raw) (.nd .lf (some .raw) .lf)) (some .raw) (.nd (.nd .lf (some .raw) .lf) (some .sorted) (.nd .lf (some .raw) .lf))) (some .raw) (.nd (.nd (.nd (.nd .lf (some .raw) .lf) (some .raw) .lf) (some .raw) (.nd .lf (some .raw) .lf)) (some .raw) (.nd (.nd .lf (some .raw) .lf) (some .raw) (.nd .lf (some .raw) .lf))))) (some .raw) (.nd (.nd (.nd (.nd (.nd .lf (some .raw) .lf) (some .raw) (.nd .lf (some .raw) .lf)) (some .raw) (.nd (.nd .lf (some .raw) .lf) (some .raw) (.nd .lf (some .raw) .lf))) (some .raw) (.nd (.nd (.nd .lf (some .raw) .lf) (some .raw) (.nd .lf (some .raw) .lf)) (some .raw) (.nd (.nd .lf (some .raw) .lf) (some .raw) (.nd .lf (some .raw) .lf)))) (some .raw) (.nd (.nd (.nd (.nd .lf (some .raw) .lf) (some .raw) (.nd .lf (some .raw) .lf)) (some .raw) (.nd (.nd .lf (some .raw) .lf) (some .raw) (.nd .lf (some .raw) .lf))) (some .raw) (.nd (.nd (.nd (.nd .lf (some .raw) .lf) (some .raw) .lf) (some .raw) (.nd .lf (some .raw) .lf)) (some .raw) (.nd (.nd .lf (some .raw) .lf) (some .raw) (.nd .lf (some .raw) .lf))))))))
noncomputable def X : Ctx := ⟨tyT, fnT, methT, planT, polT, frzT, extT⟩
theorem ty1 : tiB Go.Proofs.Tryz.prog 1 ti1 = true := by kernel_rfl
theorem ty2 : tiB Go.Proofs.Tryz.prog 2 ti2 = true := by kernel_rfl
theorem ty3 : tiB Go.Proofs.Tryz.prog 3 ti3 = true := by kernel_rfl
theorem ty4 : tiB Go.Proofs.Tryz.prog 4 ti4 = true := by kernel_rfl
theorem ty5 : tiB Go.Proofs.Tryz.prog 5 ti5 = true := by kernel_rfl
theorem ty6 : tiB Go.Proofs.Tryz.prog 6 ti6 = true := by kernel_rfl
theorem ty7 : tiB Go.Proofs.Tryz.prog 7 ti7 = true := by kernel_rfl
theorem ty8 : tiB Go.Proofs.Tryz.prog 8 ti8 = true := by kernel_rfl
theorem ty9 : tiB Go.Proofs.Tryz.prog 9 ti9 = true := by kernel_rfl
theorem ty10 : tiB Go.Proofs.Tryz.prog 10 ti10 = true := by kernel_rfl
theorem ty11 : tiB Go.Proofs.Tryz.prog 11 ti11 = true := by kernel_rfl
theorem ty12 : tiB Go.Proofs.Tryz.prog 12 ti12 = true := by kernel_rfl
theorem ty13 : tiB Go.Proofs.Tryz.prog 13 ti13 = true := by kernel_rfl
theorem ty14 : tiB Go.Proofs.Tryz.prog 14 ti14 = true := by kernel_rfl
theorem ty15 : tiB Go.Proofs.Tryz.prog 15 ti15 = true := by kernel_rfl
theorem ty16 : tiB Go.Proofs.Tryz.prog 16 ti16 = true := by kernel_rfl
theorem ty17 : tiB Go.Proofs.Tryz.prog 17 ti17 = true := by kernel_rfl
theorem ty18 : tiB Go.Proofs.Tryz.prog 18 ti18 = true := by kernel_rfl
theorem ty19 : tiB Go.Proofs.Tryz.prog 19 ti19 = true := by kernel_rfl
theorem ty20 : tiB Go.Proofs.Tryz.prog 20 ti20 = true := by kernel_rfl
theorem ty21 : tiB Go.Proofs.Tryz.prog 21 ti21 = true := by kernel_rfl
theorem ty22 : tiB Go.Proofs.Tryz.prog 22 ti22 = true := by kernel_rfl
theorem ty23 : tiB Go.Proofs.Tryz.prog 23 ti23 = true := by kernel_rfl
theorem ty24 : tiB Go.Proofs.Tryz.prog 24 ti24 = true := by kernel_rfl
theorem ty25 : tiB Go.Proofs.Tryz.prog 25 ti25 = true := by kernel_rfl
theorem ty26 : tiB Go.Proofs.Tryz.prog 26 ti26 = true := by kernel_rfl
theorem ty27 : tiB Go.Proofs.Tryz.prog 27 ti27 = true := by kernel_rfl
theorem ty29 : tiB Go.Proofs.Tryz.prog 29 ti29 = true := by kernel_rfl
theorem ty30 : tiB Go.Proofs.Tryz.prog 30 ti30 = true := by kernel_rfl
theorem ty31 : tiB Go.Proofs.Tryz.prog 31 ti31 = true := by kernel_rfl
theorem ty32 : tiB Go.Proofs.Tryz.prog 32 ti32 = true := by kernel_rfl
theorem ty33 : tiB Go.Proofs.Tryz.prog 33 ti33 = true := by kernel_rfl
theorem ty34 : tiB Go.Proofs.Tryz.prog 34 ti34 = true := by kernel_rfl
theorem ty35 : tiB Go.Proofs.Tryz.prog 35 ti35 = true := by kernel_rfl
theorem ty36 : tiB Go.Proofs.Tryz.prog 36 ti36 = true := by kernel_rfl
theorem ty37 : tiB Go.Proofs.Tryz.prog 37 ti37 = true := by kernel_rfl
theorem ty38 : tiB Go.Proofs.Tryz.prog 38 ti38 = true := by kernel_rfl
theorem ty39 : tiB Go.Proofs.Tryz.prog 39 ti39 = true := by kernel_rfl
theorem ty40 : tiB Go.Proofs.Tryz.prog 40 ti40 = true := by kernel_rfl
theorem ty41 : tiB Go.Proofs.Tryz.prog 41 ti41 = true := by kernel_rfl
theorem ty42 : tiB Go.Proofs.Tryz.prog 42 ti42 = true := by kernel_rfl
theorem ty43 : tiB Go.Proofs.Tryz.prog 43 ti43 = true := by kernel_rfl
theorem ty44 : tiB Go.Proofs.Tryz.prog 44 ti44 = true := by kernel_rfl
theorem ty45 : tiB Go.Proofs.Tryz.prog 45 ti45 = true := by kernel_rfl
theorem ty46 : tiB Go.Proofs.Tryz.prog 46 ti46 = true := by kernel_rfl
theorem ty47 : tiB Go.Proofs.Tryz.prog 47 ti47 = true := by kernel_rfl
theorem ty48 : tiB Go.Proofs.Tryz.prog 48 ti48 = true := by kernel_rfl
theorem ty49 : tiB Go.Proofs.Tryz.prog 49 ti49 = true := by kernel_rfl
theorem ty50 : tiB Go.Proofs.Tryz.prog 50 ti50 = true := by kernel_rfl
theorem ty51 : tiB Go.Proofs.Tryz.prog 51 ti51 = true := by kernel_rfl
theorem ty52 : tiB Go.Proofs.Tryz.prog 52 ti52 = true := by kernel_rfl
theorem ty53 : tiB Go.Proofs.Tryz.prog 53 ti53 = true := by kernel_rfl
theorem ty54 : tiB Go.Proofs.Tryz.prog 54 ti54 = true := by kernel_rfl
theorem ty55 : tiB Go.Proofs.Tryz.prog 55 ti55 = true := by kernel_rfl
theorem ty56 : tiB Go.Proofs.Tryz.prog 56 ti56 = true := by kernel_rfl
theorem ty57 : tiB Go.Proofs.Tryz.prog 57 ti57 = true := by kernel_rfl
theorem ty58 : tiB Go.Proofs.Tryz.prog 58 ti58 = true := by kernel_rfl
theorem ty59 : tiB Go.Proofs.Tryz.prog 59 ti59 = true := by kernel_rfl
theorem ty60 : tiB Go.Proofs.Tryz.prog 60 ti60 = true := by kernel_rfl
theorem ty61 : tiB Go.Proofs.Tryz.prog 61 ti61 = true := by kernel_rfl
theorem ty62 : tiB Go.Proofs.Tryz.prog 62 ti62 = true := by kernel_rfl
theorem ty63 : tiB Go.Proofs.Tryz.prog 63 ti63 = true := by kernel_rfl
theorem ty64 : tiB Go.Proofs.Tryz.prog 64 ti64 = true := by kernel_rfl
theorem ty65 : tiB Go.Proofs.Tryz.prog 65 ti65 = true := by kernel_rfl
theorem ty66 : tiB Go.Proofs.Tryz.prog 66 ti66 = true := by kernel_rfl
theorem ty67 : tiB Go.Proofs.Tryz.prog 67 ti67 = true := by kernel_rfl
theorem ty68 : tiB Go.Proofs.Tryz.prog 68 ti68 = true := by kernel_rfl
theorem ty69 : tiB Go.Proofs.Tryz.prog 69 ti69 = true := by kernel_rfl
theorem ty70 : tiB Go.Proofs.Tryz.prog 70 ti70 = true := by kernel_rfl
theorem ty71 : tiB Go.Proofs.Tryz.prog 71 ti71 = true := by kernel_rfl
theorem ty72 : tiB Go.Proofs.Tryz.prog 72 ti72 = true := by kernel_rfl
theorem ty73 : tiB Go.Proofs.Tryz.prog 73 ti73 = true := by kernel_rfl
theorem ty74 : tiB Go.Proofs.Tryz.prog 74 ti74 = true := by kernel_rfl
theorem ty75 : tiB Go.Proofs.Tryz.prog 75 ti75 = true := by kernel_rfl
theorem ty76 : tiB Go.Proofs.Tryz.prog 76 ti76 = true := by kernel_rfl
theorem ty77 : tiB Go.Proofs.Tryz.prog 77 ti77 = true := by kernel_rfl
theorem ty78 : tiB Go.Proofs.Tryz.prog 78 ti78 = true := by kernel_rfl
theorem ty79 : tiB Go.Proofs.Tryz.prog 79 ti79 = true := by kernel_rfl
theorem ty80 : tiB Go.Proofs.Tryz.prog 80 ti80 = true := by kernel_rfl
theorem ty81 : tiB Go.Proofs.Tryz.prog 81 ti81 = true := by kernel_rfl
theorem ty82 : tiB Go.Proofs.Tryz.prog 82 ti82 = true := by kernel_rfl
theorem ty83 : tiB Go.Proofs.Tryz.prog 83 ti83 = true := by kernel_rfl
theorem ty84 : tiB Go.Proofs.Tryz.prog 84 ti84 = true := by kernel_rfl
theorem ty85 : tiB Go.Proofs.Tryz.prog 85 ti85 = true := by kernel_rfl
theorem ty87 : tiB Go.Proofs.Tryz.prog 87 ti87 = true := by kernel_rfl
theorem ty89 : tiB Go.Proofs.Tryz.prog 89 ti89 = true := by kernel_rfl
theorem ty91 : tiB Go.Proofs.Tryz.prog 91 ti91 = true := by kernel_rfl
theorem ty93 : tiB Go.Proofs.Tryz.prog 93 ti93 = true := by kernel_rfl
theorem ty94 : tiB Go.Proofs.Tryz.prog 94 ti94 = true := by kernel_rfl
theorem ty95 : tiB Go.Proofs.Tryz.prog 95 ti95 = true := by kernel_rfl
theorem ty96 : tiB Go.Proofs.Tryz.prog 96 ti96 = true := by kernel_rfl
theorem ty97 : tiB Go.Proofs.Tryz.prog 97 ti97 = true := by kernel_rfl
theorem ty98 : tiB Go.Proofs.Tryz.prog 98 ti98 = true := by kernel_rfl
theorem ty99 : tiB Go.Proofs.Tryz.prog 99 ti99 = true := by kernel_rfl
theorem ty100 : tiB Go.Proofs.Tryz.prog 100 ti100 = true := by kernel_rfl
theorem ty101 : tiB Go.Proofs.Tryz.prog 101 ti101 = true := by kernel_rfl
theorem ty102 : tiB Go.Proofs.Tryz.prog 102 ti102 = true := by kernel_rfl
theorem ty103 : tiB Go.Proofs.Tryz.prog 103 ti103 = true := by kernel_rfl
theorem ty104 : tiB Go.Proofs.Tryz.prog 104 ti104 = true := by kernel_rfl
theorem ty105 : tiB Go.Proofs.Tryz.prog 105 ti105 = true := by kernel_rfl
theorem ty106 : tiB Go.Proofs.Tryz.prog 106 ti106 = true := by kernel_rfl
theorem ty107 : tiB Go.Proofs.Tryz.prog 107 ti107 = true := by kernel_rfl
theorem ty108 : tiB Go.Proofs.Tryz.prog 108 ti108 = true := by kernel_rfl
theorem ty109 : tiB Go.Proofs.Tryz.prog 109 ti109 = true := by kernel_rfl
theorem ty110 : tiB Go.Proofs.Tryz.prog 110 ti110 = true := by kernel_rfl
theorem ty111 : tiB Go.Proofs.Tryz.prog 111 ti111 = true := by kernel_rfl
theorem ty112 : tiB Go.Proofs.Tryz.prog 112 ti112 = true := by kernel_rfl
theorem ty113 : tiB Go.Proofs.Tryz.prog 113 ti113 = true := by kernel_rfl
theorem ty114 : tiB Go.Proofs.Tryz.prog 114 ti114 = true := by kernel_rfl
theorem ty115 : tiB Go.Proofs.Tryz.prog 115 ti115 = true := by kernel_rfl
theorem ty116 : tiB Go.Proofs.Tryz.prog 116 ti116 = true := by kernel_rfl
theorem ty117 : tiB Go.Proofs.Tryz.prog 117 ti117 = true := by kernel_rfl
theorem ty118 : tiB Go.Proofs.Tryz.prog 118 ti118 = true := by kernel_rfl
theorem ty119 : tiB Go.Proofs.Tryz.prog 119 ti119 = true := by kernel_rfl
theorem ty120 : tiB Go.Proofs.Tryz.prog 120 ti120 = true := by kernel_rfl
theorem ty121 : tiB Go.Proofs.Tryz.prog 121 ti121 = true := by kernel_rfl
theorem ty122 : tiB Go.Proofs.Tryz.prog 122 ti122 = true := by kernel_rfl
theorem ty123 : tiB Go.Proofs.Tryz.prog 123 ti123 = true := by kernel_rfl
theorem ty124 : tiB Go.Proofs.Tryz.prog 124 ti124 = true := by kernel_rfl
theorem ty125 : tiB Go.Proofs.Tryz.prog 125 ti125 = true := by kernel_rfl
theorem ty126 : tiB Go.Proofs.Tryz.prog 126 ti126 = true := by kernel_rfl
theorem ty127 : tiB Go.Proofs.Tryz.prog 127 ti127 = true := by kernel_rfl
theorem ty128 : tiB Go.Proofs.Tryz.prog 128 ti128 = true := by kernel_rfl
theorem ty129 : tiB Go.Proofs.Tryz.prog 129 ti129 = true := by kernel_rfl
theorem ty130 : tiB Go.Proofs.Tryz.prog 130 ti130 = true := by kernel_rfl
theorem ty131 : tiB Go.Proofs.Tryz.prog 131 ti131 = true := by kernel_rfl
theorem ty132 : tiB Go.Proofs.Tryz.prog 132 ti132 = true := by kernel_rfl
theorem ty133 : tiB Go.Proofs.Tryz.prog 133 ti133 = true := by kernel_rfl
theorem ty134 : tiB Go.Proofs.Tryz.prog 134 ti134 = true := by kernel_rfl
theorem ty135 : tiB Go.Proofs.Tryz.prog 135 ti135 = true := by kernel_rfl
theorem ty136 : tiB Go.Proofs.Tryz.prog 136 ti136 = true := by kernel_rfl
theorem ty137 : tiB Go.Proofs.Tryz.prog 137 ti137 = true := by kernel_rfl
theorem ty138 : tiB Go.Proofs.Tryz.prog 138 ti138 = true := by kernel_rfl
theorem ty139 : tiB Go.Proofs.Tryz.prog 139 ti139 = true := by kernel_rfl
theorem ty140 : tiB Go.Proofs.Tryz.prog 140 ti140 = true := by kernel_rfl
theorem ty141 : tiB Go.Proofs.Tryz.prog 141 ti141 = true := by kernel_rfl
theorem ty142 : tiB Go.Proofs.Tryz.prog 142 ti142 = true := by kernel_rfl
theorem ty143 : tiB Go.Proofs.Tryz.prog 143 ti143 = true := by kernel_rfl
theorem ty144 : tiB Go.Proofs.Tryz.prog 144 ti144 = true := by kernel_rfl
theorem ty146 : tiB Go.Proofs.Tryz.prog 146 ti146 = true := by kernel_rfl
theorem ty147 : tiB Go.Proofs.Tryz.prog 147 ti147 = true := by kernel_rfl
theorem ty148 : tiB Go.Proofs.Tryz.prog 148 ti148 = true := by kernel_rfl
theorem ty150 : tiB Go.Proofs.Tryz.prog 150 ti150 = true := by kernel_rfl
theorem ty151 : tiB Go.Proofs.Tryz.prog 151 ti151 = true := by kernel_rfl
theorem ty152 : tiB Go.Proofs.Tryz.prog 152 ti152 = true := by kernel_rfl
theorem ty153 : tiB Go.Proofs.Tryz.prog 153 ti153 = true := by kernel_rfl
theorem ty154 : tiB Go.Proofs.Tryz.prog 154 ti154 = true := by kernel_rfl
theorem ty155 : tiB Go.Proofs.Tryz.prog 155 ti155 = true := by kernel_rfl
theorem ty156 : tiB Go.Proofs.Tryz.prog 156 ti156 = true := by kernel_rfl
theorem ty157 : tiB Go.Proofs.Tryz.prog 157 ti157 = true := by kernel_rfl
theorem ty158 : tiB Go.Proofs.Tryz.prog 158 ti158 = true := by kernel_rfl
theorem ty159 : tiB Go.Proofs.Tryz.prog 159 ti159 = true := by kernel_rfl
theorem ty160 : tiB Go.Proofs.Tryz.prog 160 ti160 = true := by kernel_rfl
theorem ty161 : tiB Go.Proofs.Tryz.prog 161 ti161 = true := by kernel_rfl
theorem ty162 : tiB Go.Proofs.Tryz.prog 162 ti162 = true := by kernel_rfl
theorem ty163 : tiB Go.Proofs.Tryz.prog 163 ti163 = true := by kernel_rfl
theorem ty165 : tiB Go.Proofs.Tryz.prog 165 ti165 = true := by kernel_rfl
theorem ty166 : tiB Go.Proofs.Tryz.prog 166 ti166 = true := by kernel_rfl
theorem ty167 : tiB Go.Proofs.Tryz.prog 167 ti167 = true := by kernel_rfl
theorem ty168 : tiB Go.Proofs.Tryz.prog 168 ti168 = true := by kernel_rfl
theorem ty169 : tiB Go.Proofs.Tryz.prog 169 ti169 = true := by kernel_rfl
theorem ty170 : tiB Go.Proofs.Tryz.prog 170 ti170 = true := by kernel_rfl
theorem ty171 : tiB Go.Proofs.Tryz.prog 171 ti171 = true := by kernel_rfl
theorem ty172 : tiB Go.Proofs.Tryz.prog 172 ti172 = true := by kernel_rfl
theorem ty173 : tiB Go.Proofs.Tryz.prog 173 ti173 = true := by kernel_rfl
theorem ty174 : tiB Go.Proofs.Tryz.prog 174 ti174 = true := by kernel_rfl
theorem ty175 : tiB Go.Proofs.Tryz.prog 175 ti175 = true := by kernel_rfl
theorem ty176 : tiB Go.Proofs.Tryz.prog 176 ti176 = true := by kernel_rfl
theorem ty177 : tiB Go.Proofs.Tryz.prog 177 ti177 = true := by kernel_rfl
theorem ty178 : tiB Go.Proofs.Tryz.prog 178 ti178 = true := by kernel_rfl
theorem ty180 : tiB Go.Proofs.Tryz.prog 180 ti180 = true := by kernel_rfl
theorem ty181 : tiB Go.Proofs.Tryz.prog 181 ti181 = true := by kernel_rfl
theorem ty182 : tiB Go.Proofs.Tryz.prog 182 ti182 = true := by kernel_rfl
theorem ty183 : tiB Go.Proofs.Tryz.prog 183 ti183 = true := by kernel_rfl
theorem ty184 : tiB Go.Proofs.Tryz.prog 184 ti184 = true := by kernel_rfl
theorem ty185 : tiB Go.Proofs.Tryz.prog 185 ti185 = true := by kernel_rfl
theorem ty186 : tiB Go.Proofs.Tryz.prog 186 ti186 = true := by kernel_rfl
theorem ty187 : tiB Go.Proofs.Tryz.prog 187 ti187 = true := by kernel_rfl
theorem ty188 : tiB Go.Proofs.Tryz.prog 188 ti188 = true := by kernel_rfl
theorem ty189 : tiB Go.Proofs.Tryz.prog 189 ti189 = true := by kernel_rfl
theorem ty191 : tiB Go.Proofs.Tryz.prog 191 ti191 = true := by kernel_rfl
theorem ty193 : tiB Go.Proofs.Tryz.prog 193 ti193 = true := by kernel_rfl
theorem ty194 : tiB Go.Proofs.Tryz.prog 194 ti194 = true := by kernel_rfl
theorem ty195 : tiB Go.Proofs.Tryz.prog 195 ti195 = true := by kernel_rfl
theorem ty196 : tiB Go.Proofs.Tryz.prog 196 ti196 = true := by kernel_rfl
theorem ty197 : tiB Go.Proofs.Tryz.prog 197 ti197 = true := by kernel_rfl
theorem ty198 : tiB Go.Proofs.Tryz.prog 198 ti198 = true := by kernel_rfl
theorem ty199 : tiB Go.Proofs.Tryz.prog 199 ti199 = true := by kernel_rfl
theorem ty200 : tiB Go.Proofs.Tryz.prog 200 ti200 = true := by kernel_rfl
theorem ty201 : tiB Go.Proofs.Tryz.prog 201 ti201 = true := by kernel_rfl
theorem ty202 : tiB Go.Proofs.Tryz.prog 202 ti202 = true := by kernel_rfl
theorem ty204 : tiB Go.Proofs.Tryz.prog 204 ti204 = true := by kernel_rfl
theorem ty205 : tiB Go.Proofs.Tryz.prog 205 ti205 = true := by kernel_rfl
theorem ty206 : tiB Go.Proofs.Tryz.prog 206 ti206 = true := by kernel_rfl
theorem ty207 : tiB Go.Proofs.Tryz.prog 207 ti207 = true := by kernel_rfl
theorem ty208 : tiB Go.Proofs.Tryz.prog 208 ti208 = true := by kernel_rfl
theorem ty209 : tiB Go.Proofs.Tryz.prog 209 ti209 = true := by kernel_rfl
theorem ty210 : tiB Go.Proofs.Tryz.prog 210 ti210 = true := by kernel_rfl
theorem ty211 : tiB Go.Proofs.Tryz.prog 211 ti211 = true := by kernel_rfl
theorem ty212 : tiB Go.Proofs.Tryz.prog 212 ti212 = true := by kernel_rfl
theorem ty213 : tiB Go.Proofs.Tryz.prog 213 ti213 = true := by kernel_rfl
theorem ty214 : tiB Go.Proofs.Tryz.prog 214 ti214 = true := by kernel_rfl
theorem ty216 : tiB Go.Proofs.Tryz.prog 216 ti216 = true := by kernel_rfl
theorem ty217 : tiB Go.Proofs.Tryz.prog 217 ti217 = true := by kernel_rfl
theorem ty218 : tiB Go.Proofs.Tryz.prog 218 ti218 = true := by kernel_rfl
theorem ty219 : tiB Go.Proofs.Tryz.prog 219 ti219 = true := by kernel_rfl
theorem ty220 : tiB Go.Proofs.Tryz.prog 220 ti220 = true := by kernel_rfl
theorem ty221 : tiB Go.Proofs.Tryz.prog 221 ti221 = true := by kernel_rfl
theorem ty222 : tiB Go.Proofs.Tryz.prog 222 ti222 = true := by kernel_rfl
theorem ty223 : tiB Go.Proofs.Tryz.prog 223 ti223 = true := by kernel_rfl
theorem ty224 : tiB Go.Proofs.Tryz.prog 224 ti224 = true := by kernel_rfl
theorem ty225 : tiB Go.Proofs.Tryz.prog 225 ti225 = true := by kernel_rfl
theorem ty226 : tiB Go.Proofs.Tryz.prog 226 ti226 = true := by kernel_rfl
theorem ty227 : tiB Go.Proofs.Tryz.prog 227 ti227 = true := by kernel_rfl
theorem ty228 : tiB Go.Proofs.Tryz.prog 228 ti228 = true := by kernel_rfl
theorem ty229 : tiB Go.Proofs.Tryz.prog 229 ti229 = true := by kernel_rfl
theorem ty230 : tiB Go.Proofs.Tryz.prog 230 ti230 = true := by kernel_rfl
theorem ty231 : tiB Go.Proofs.Tryz.prog 231 ti231 = true := by kernel_rfl
theorem ty232 : tiB Go.Proofs.Tryz.prog 232 ti232 = true := by kernel_rfl
theorem ty233 : tiB Go.Proofs.Tryz.prog 233 ti233 = true := by kernel_rfl
theorem ty234 : tiB Go.Proofs.Tryz.prog 234 ti234 = true := by kernel_rfl
theorem ty235 : tiB Go.Proofs.Tryz.prog 235 ti235 = true := by kernel_rfl
theorem ty236 : tiB Go.Proofs.Tryz.prog 236 ti236 = true := by kernel_rfl
theorem ty237 : tiB Go.Proofs.Tryz.prog 237 ti237 = true := by kernel_rfl
theorem ty238 : tiB Go.Proofs.Tryz.prog 238 ti238 = true := by kernel_rfl
theorem ty239 : tiB Go.Proofs.Tryz.prog 239 ti239 = true := by kernel_rfl
theorem ty240 : tiB Go.Proofs.Tryz.prog 240 ti240 = true := by kernel_rfl
theorem ty241 : tiB Go.Proofs.Tryz.prog 241 ti241 = true := by kernel_rfl
theorem ty242 : tiB Go.Proofs.Tryz.prog 242 ti242 = true := by kernel_rfl
theorem ty243 : tiB Go.Proofs.Tryz.prog 243 ti243 = true := by kernel_rfl
theorem ty244 : tiB Go.Proofs.Tryz.prog 244 ti244 = true := by kernel_rfl
theorem ty245 : tiB Go.Proofs.Tryz.prog 245 ti245 = true := by kernel_rfl
theorem ty246 : tiB Go.Proofs.Tryz.prog 246 ti246 = true := by kernel_rfl
theorem ty247 : tiB Go.Proofs.Tryz.prog 247 ti247 = true := by kernel_rfl
theorem ty248 : tiB Go.Proofs.Tryz.prog 248 ti248 = true := by kernel_rfl
theorem ty249 : tiB Go.Proofs.Tryz.prog 249 ti249 = true := by kernel_rfl
theorem ty250 : tiB Go.Proofs.Tryz.prog 250 ti250 = true := by kernel_rfl
theorem ty251 : tiB Go.Proofs.Tryz.prog 251 ti251 = true := by kernel_rfl
theorem ty252 : tiB Go.Proofs.Tryz.prog 252 ti252 = true := by kernel_rfl
theorem ty253 : tiB Go.Proofs.Tryz.prog 253 ti253 = true := by kernel_rfl
theorem ty254 : tiB Go.Proofs.Tryz.prog 254 ti254 = true := by kernel_rfl
theorem ty255 : tiB Go.Proofs.Tryz.prog 255 ti255 = true := by kernel_rfl
theorem ty256 : tiB Go.Proofs.Tryz.prog 256 ti256 = true := by kernel_rfl
theorem ty257 : tiB Go.Proofs.Tryz.prog 257 ti257 = true := by kernel_rfl
theorem ty258 : tiB Go.Proofs.Tryz.prog 258 ti258 = true := by kernel_rfl
theorem ty259 : tiB Go.Proofs.Tryz.prog 259 ti259 = true := by kernel_rfl
theorem ty261 : tiB Go.Proofs.Tryz.prog 261 ti261 = true := by kernel_rfl
theorem ty263 : tiB Go.Proofs.Tryz.prog 263 ti263 = true := by kernel_rfl
theorem ty264 : tiB Go.Proofs.Tryz.prog 264 ti264 = true := by kernel_rfl
theorem ty265 : tiB Go.Proofs.Tryz.prog 265 ti265 = true := by kernel_rfl
theorem ty266 : tiB Go.Proofs.Tryz.prog 266 ti266 = true := by kernel_rfl
theorem ty267 : tiB Go.Proofs.Tryz.prog 267 ti267 = true := by kernel_rfl
theorem ty268 : tiB Go.Proofs.Tryz.prog 268 ti268 = true := by kernel_rfl
theorem ty269 : tiB Go.Proofs.Tryz.prog 269 ti269 = true := by kernel_rfl
theorem ty270 : tiB Go.Proofs.Tryz.prog 270 ti270 = true := by kernel_rfl
theorem ty271 : tiB Go.Proofs.Tryz.prog 271 ti271 = true := by kernel_rfl
theorem ty272 : tiB Go.Proofs.Tryz.prog 272 ti272 = true := by kernel_rfl
theorem ty273 : tiB Go.Proofs.Tryz.prog 273 ti273 = true := by kernel_rfl
theorem ty274 : tiB Go.Proofs.Tryz.prog 274 ti274 = true := by kernel_rfl
theorem ty275 : tiB Go.Proofs.Tryz.prog 275 ti275 = true := by kernel_rfl
theorem ty276 : tiB Go.Proofs.Tryz.prog 276 ti276 = true := by kernel_rfl
theorem ty277 : tiB Go.Proofs.Tryz.prog 277 ti277 = true := by kernel_rfl
theorem ty278 : tiB Go.Proofs.Tryz.prog 278 ti278 = true := by kernel_rfl
theorem ty279 : tiB Go.Proofs.Tryz.prog 279 ti279 = true := by kernel_rfl
theorem ty280 : tiB Go.Proofs.Tryz.prog 280 ti280 = true := by kernel_rfl
theorem ty281 : tiB Go.Proofs.Tryz.prog 281 ti281 = true := by kernel_rfl
theorem ty282 : tiB Go.Proofs.Tryz.prog 282 ti282 = true := by kernel_rfl
theorem ty283 : tiB Go.Proofs.Tryz.prog 283 ti283 = true := by kernel_rfl
theorem ty284 : tiB Go.Proofs.Tryz.prog 284 ti284 = true := by kernel_rfl
theorem ty285 : tiB Go.Proofs.Tryz.prog 285 ti285 = true := by kernel_rfl
theorem ty286 : tiB Go.Proofs.Tryz.prog 286 ti286 = true := by kernel_rfl
theorem ty287 : tiB Go.Proofs.Tryz.prog 287 ti287 = true := by kernel_rfl
theorem ty289 : tiB Go.Proofs.Tryz.prog 289 ti289 = true := by kernel_rfl
theorem ty291 : tiB Go.Proofs.Tryz.prog 291 ti291 = true := by kernel_rfl
theorem ty293 : tiB Go.Proofs.Tryz.prog 293 ti293 = true := by kernel_rfl
theorem ty294 : tiB Go.Proofs.Tryz.prog 294 ti294 = true := by kernel_rfl
theorem ty296 : tiB Go.Proofs.Tryz.prog 296 ti296 = true := by kernel_rfl
theorem ty297 : tiB Go.Proofs.Tryz.prog 297 ti297 = true := by kernel_rfl
theorem ty298 : tiB Go.Proofs.Tryz.prog 298 ti298 = true := by kernel_rfl
theorem ty299 : tiB Go.Proofs.Tryz.prog 299 ti299 = true := by kernel_rfl
theorem ty300 : tiB Go.Proofs.Tryz.prog 300 ti300 = true := by kernel_rfl
theorem ty301 : tiB Go.Proofs.Tryz.prog 301 ti301 = true := by kernel_rfl
theorem ty302 : tiB Go.Proofs.Tryz.prog 302 ti302 = true := by kernel_rfl
theorem ty303 : tiB Go.Proofs.Tryz.prog 303 ti303 = true := by kernel_rfl
theorem ty304 : tiB Go.Proofs.Tryz.prog 304 ti304 = true := by kernel_rfl
theorem ty305 : tiB Go.Proofs.Tryz.prog 305 ti305 = true := by kernel_rfl
theorem ty306 : tiB Go.Proofs.Tryz.prog 306 ti306 = true := by kernel_rfl
theorem ty307 : tiB Go.Proofs.Tryz.prog 307 ti307 = true := by kernel_rfl
theorem ty308 : tiB Go.Proofs.Tryz.prog 308 ti308 = true := by kernel_rfl
theorem ty309 : tiB Go.Proofs.Tryz.prog 309 ti309 = true := by kernel_rfl
theorem ty310 : tiB Go.Proofs.Tryz.prog 310 ti310 = true := by kernel_rfl
theorem ty311 : tiB Go.Proofs.Tryz.prog 311 ti311 = true := by kernel_rfl
theorem ty312 : tiB Go.Proofs.Tryz.prog 312 ti312 = true := by kernel_rfl
theorem ty313 : tiB Go.Proofs.Tryz.prog 313 ti313 = true := by kernel_rfl
theorem ty314 : tiB Go.Proofs.Tryz.prog 314 ti314 = true := by kernel_rfl
theorem ty315 : tiB Go.Proofs.Tryz.prog 315 ti315 = true := by kernel_rfl
theorem ty316 : tiB Go.Proofs.Tryz.prog 316 ti316 = true := by kernel_rfl
theorem ty317 : tiB Go.Proofs.Tryz.prog 317 ti317 = true := by kernel_rfl
theorem ty318 : tiB Go.Proofs.Tryz.prog 318 ti318 = true := by kernel_rfl
theorem ty319 : tiB Go.Proofs.Tryz.prog 319 ti319 = true := by kernel_rfl
theorem ty320 : tiB Go.Proofs.Tryz.prog 320 ti320 = true := by kernel_rfl
theorem ty321 : tiB Go.Proofs.Tryz.prog 321 ti321 = true := by kernel_rfl
theorem ty323 : tiB Go.Proofs.Tryz.prog 323 ti323 = true := by kernel_rfl
theorem ty324 : tiB Go.Proofs.Tryz.prog 324 ti324 = true := by kernel_rfl
theorem ty325 : tiB Go.Proofs.Tryz.prog 325 ti325 = true := by kernel_rfl
theorem ty326 : tiB Go.Proofs.Tryz.prog 326 ti326 = true := by kernel_rfl
theorem ty327 : tiB Go.Proofs.Tryz.prog 327 ti327 = true := by kernel_rfl
theorem ty328 : tiB Go.Proofs.Tryz.prog 328 ti328 = true := by kernel_rfl
theorem ty329 : tiB Go.Proofs.Tryz.prog 329 ti329 = true := by kernel_rfl
theorem ty330 : tiB Go.Proofs.Tryz.prog 330 ti330 = true := by kernel_rfl
theorem ty331 : tiB Go.Proofs.Tryz.prog 331 ti331 = true := by kernel_rfl
theorem ty332 : tiB Go.Proofs.Tryz.prog 332 ti332 = true := by kernel_rfl
theorem ty333 : tiB Go.Proofs.Tryz.prog 333 ti333 = true := by kernel_rfl
theorem ty334 : tiB Go.Proofs.Tryz.prog 334 ti334 = true := by kernel_rfl
theorem ty335 : tiB Go.Proofs.Tryz.prog 335 ti335 = true := by kernel_rfl
theorem ty336 : tiB Go.Proofs.Tryz.prog 336 ti336 = true := by kernel_rfl
theorem ty337 : tiB Go.Proofs.Tryz.prog 337 ti337 = true := by kernel_rfl
theorem ty338 : tiB Go.Proofs.Tryz.prog 338 ti338 = true := by kernel_rfl
theorem ty340 : tiB Go.Proofs.Tryz.prog 340 ti340 = true := by kernel_rfl
theorem ty342 : tiB Go.Proofs.Tryz.prog 342 ti342 = true := by kernel_rfl
theorem ty344 : tiB Go.Proofs.Tryz.prog 344 ti344 = true := by kernel_rfl
theorem ty345 : tiB Go.Proofs.Tryz.prog 345 ti345 = true := by kernel_rfl
theorem ty347 : tiB Go.Proofs.Tryz.prog 347 ti347 = true := by kernel_rfl
theorem ty348 : tiB Go.Proofs.Tryz.prog 348 ti348 = true := by kernel_rfl
theorem ty349 : tiB Go.Proofs.Tryz.prog 349 ti349 = true := by kernel_rfl
theorem ty350 : tiB Go.Proofs.Tryz.prog 350 ti350 = true := by kernel_rfl
theorem ty351 : tiB Go.Proofs.Tryz.prog 351 ti351 = true := by kernel_rfl
theorem ty353 : tiB Go.Proofs.Tryz.prog 353 ti353 = true := by kernel_rfl
theorem ty354 : tiB Go.Proofs.Tryz.prog 354 ti354 = true := by kernel_rfl
theorem ty355 : tiB Go.Proofs.Tryz.prog 355 ti355 = true := by kernel_rfl
theorem ty356 : tiB Go.Proofs.Tryz.prog 356 ti356 = true := by kernel_rfl
theorem ty357 : tiB Go.Proofs.Tryz.prog 357 ti357 = true := by kernel_rfl
theorem ty358 : tiB Go.Proofs.Tryz.prog 358 ti358 = true := by kernel_rfl
theorem ty360 : tiB Go.Proofs.Tryz.prog 360 ti360 = true := by kernel_rfl
theorem ty361 : tiB Go.Proofs.Tryz.prog 361 ti361 = true := by kernel_rfl
theorem ty362 : tiB Go.Proofs.Tryz.prog 362 ti362 = true := by kernel_rfl
theorem ty363 : tiB Go.Proofs.Tryz.prog 363 ti363 = true := by kernel_rfl
theorem ty365 : tiB Go.Proofs.Tryz.prog 365 ti365 = true := by kernel_rfl
theorem ty366 : tiB Go.Proofs.Tryz.prog 366 ti366 = true := by kernel_rfl
theorem ty367 : tiB Go.Proofs.Tryz.prog 367 ti367 = true := by kernel_rfl
theorem ty368 : tiB Go.Proofs.Tryz.prog 368 ti368 = true := by kernel_rfl
theorem ty369 : tiB Go.Proofs.Tryz.prog 369 ti369 = true := by kernel_rfl
theorem ty370 : tiB Go.Proofs.Tryz.prog 370 ti370 = true := by kernel_rfl
theorem ty372 : tiB Go.Proofs.Tryz.prog 372 ti372 = true := by kernel_rfl
theorem ty373 : tiB Go.Proofs.Tryz.prog 373 ti373 = true := by kernel_rfl
theorem ty374 : tiB Go.Proofs.Tryz.prog 374 ti374 = true := by kernel_rfl
theorem ty376 : tiB Go.Proofs.Tryz.prog 376 ti376 = true := by kernel_rfl
theorem ty377 : tiB Go.Proofs.Tryz.prog 377 ti377 = true := by kernel_rfl
theorem ty378 : tiB Go.Proofs.Tryz.prog 378 ti378 = true := by kernel_rfl
theorem ty379 : tiB Go.Proofs.Tryz.prog 379 ti379 = true := by kernel_rfl
theorem ty380 : tiB Go.Proofs.Tryz.prog 380 ti380 = true := by kernel_rfl
theorem ty381 : tiB Go.Proofs.Tryz.prog 381 ti381 = true := by kernel_rfl
theorem ty382 : tiB Go.Proofs.Tryz.prog 382 ti382 = true := by kernel_rfl
theorem ty383 : tiB Go.Proofs.Tryz.prog 383 ti383 = true := by kernel_rfl
theorem ty384 : tiB Go.Proofs.Tryz.prog 384 ti384 = true := by kernel_rfl
theorem ty386 : tiB Go.Proofs.Tryz.prog 386 ti386 = true := by kernel_rfl
theorem ty387 : tiB Go.Proofs.Tryz.prog 387 ti387 = true := by kernel_rfl
theorem ty388 : tiB Go.Proofs.Tryz.prog 388 ti388 = true := by kernel_rfl
theorem ty389 : tiB Go.Proofs.Tryz.prog 389 ti389 = true := by kernel_rfl
theorem ty390 : tiB Go.Proofs.Tryz.prog 390 ti390 = true := by kernel_rfl
theorem ty391 : tiB Go.Proofs.Tryz.prog 391 ti391 = true := by kernel_rfl
theorem ty392 : tiB Go.Proofs.Tryz.prog 392 ti392 = true := by kernel_rfl
theorem ty393 : tiB Go.Proofs.Tryz.prog 393 ti393 = true := by kernel_rfl
theorem ty394 : tiB Go.Proofs.Tryz.prog 394 ti394 = true := by kernel_rfl
theorem ty395 : tiB Go.Proofs.Tryz.prog 395 ti395 = true := by kernel_rfl
theorem ty396 : tiB Go.Proofs.Tryz.prog 396 ti396 = true := by kernel_rfl
theorem ty397 : tiB Go.Proofs.Tryz.prog 397 ti397 = true := by kernel_rfl
theorem ty398 : tiB Go.Proofs.Tryz.prog 398 ti398 = true := by kernel_rfl
theorem ty399 : tiB Go.Proofs.Tryz.prog 399 ti399 = true := by kernel_rfl
theorem ty400 : tiB Go.Proofs.Tryz.prog 400 ti400 = true := by kernel_rfl
theorem ty402 : tiB Go.Proofs.Tryz.prog 402 ti402 = true := by kernel_rfl
theorem ty403 : tiB Go.Proofs.Tryz.prog 403 ti403 = true := by kernel_rfl
theorem ty404 : tiB Go.Proofs.Tryz.prog 404 ti404 = true := by kernel_rfl
theorem ty405 : tiB Go.Proofs.Tryz.prog 405 ti405 = true := by kernel_rfl
theorem ty406 : tiB Go.Proofs.Tryz.prog 406 ti406 = true := by kernel_rfl
theorem ty407 : tiB Go.Proofs.Tryz.prog 407 ti407 = true := by kernel_rfl
theorem ty408 : tiB Go.Proofs.Tryz.prog 408 ti408 = true := by kernel_rfl
theorem ty409 : tiB Go.Proofs.Tryz.prog 409 ti409 = true := by kernel_rfl
theorem ty410 : tiB Go.Proofs.Tryz.prog 410 ti410 = true := by kernel_rfl
theorem ty411 : tiB Go.Proofs.Tryz.prog 411 ti411 = true := by kernel_rfl
theorem ty412 : tiB Go.Proofs.Tryz.prog 412 ti412 = true := by kernel_rfl
theorem ty413 : tiB Go.Proofs.Tryz.prog 413 ti413 = true := by kernel_rfl
theorem ty414 : tiB Go.Proofs.Tryz.prog 414 ti414 = true := by kernel_rfl
theorem ty415 : tiB Go.Proofs.Tryz.prog 415 ti415 = true := by kernel_rfl
theorem ty416 : tiB Go.Proofs.Tryz.prog 416 ti416 = true := by kernel_rfl
theorem ty417 : tiB Go.Proofs.Tryz.prog 417 ti417 = true := by kernel_rfl
theorem ty418 : tiB Go.Proofs.Tryz.prog 418 ti418 = true := by kernel_rfl
theorem ty419 : tiB Go.Proofs.Tryz.prog 419 ti419 = true := by kernel_rfl
theorem ty420 : tiB Go.Proofs.Tryz.prog 420 ti420 = true := by kernel_rfl
theorem ty421 : tiB Go.Proofs.Tryz.prog 421 ti421 = true := by kernel_rfl
theorem ty422 : tiB Go.Proofs.Tryz.prog 422 ti422 = true := by kernel_rfl
theorem ty423 : tiB Go.Proofs.Tryz.prog 423 ti423 = true := by kernel_rfl
theorem ty424 : tiB Go.Proofs.Tryz.prog 424 ti424 = true := by kernel_rfl
theorem ty425 : tiB Go.Proofs.Tryz.prog 425 ti425 = true := by kernel_rfl
theorem tysOk0 : ∀ x ∈ tys0, tiB Go.Proofs.Tryz.prog x.1 x.2 = true := by
  simp only [tys0, List.forall_mem_cons]
  exact ⟨ty1, ty2, ty3, ty4, ty5, ty6, ty7, ty8, ty9, ty10, ty11, ty12, ty13, ty14, ty15, ty16, ty17, ty18, ty19, ty20, by simp⟩
theorem tysOk1 : ∀ x ∈ tys1, tiB Go.Proofs.Tryz.prog x.1 x.2 = true := by
  simp only [tys1, List.forall_mem_cons]
  exact ⟨ty21, ty22, ty23, ty24, ty25, ty26, ty27, ty29, ty30, ty31, ty32, ty33, ty34, ty35, ty36, ty37, ty38, ty39, ty40, ty41, by simp⟩
theorem tysOk2 : ∀ x ∈ tys2, tiB Go.Proofs.Tryz.prog x.1 x.2 = true := by
  simp only [tys2, List.forall_mem_cons]
  exact ⟨ty42, ty43, ty44, ty45, ty46, ty47, ty48, ty49, ty50, ty51, ty52, ty53, ty54, ty55, ty56, ty57, ty58, ty59, ty60, ty61, by simp⟩
theorem tysOk3 : ∀ x ∈ tys3, tiB Go.Proofs.Tryz.prog x.1 x.2 = true := by
  simp only [tys3, List.forall_mem_cons]
  exact ⟨ty62, ty63, ty64, ty65, ty66, ty67, ty68, ty69, ty70, ty71, ty72, ty73, ty74, ty75, ty76, ty77, ty78, ty79, ty80, ty81, by simp⟩
theorem tysOk4 : ∀ x ∈ tys4, tiB Go.Proofs.Tryz.prog x.1 x.2 = true := by
  simp only [tys4, List.forall_mem_cons]
  exact ⟨ty82, ty83, ty84, ty85, ty87, ty89, ty91, ty93, ty94, ty95, ty96, ty97, ty98, ty99, ty100, ty101, ty102, ty103, ty104, ty105, by simp⟩
theorem tysOk5 : ∀ x ∈ tys5, tiB Go.Proofs.Tryz.prog x.1 x.2 = true := by
  simp only [tys5, List.forall_mem_cons]
  exact ⟨ty106, ty107, ty108, ty109, ty110, ty111, ty112, ty113, ty114, ty115, ty116, ty117, ty118, ty119, ty120, ty121, ty122, ty123, ty124, ty125, by simp⟩
theorem tysOk6 : ∀ x ∈ tys6, tiB Go.Proofs.Tryz.prog x.1 x.2 = true := by
  simp only [tys6, List.forall_mem_cons]
  exact ⟨ty126, ty127, ty128, ty129, ty130, ty131, ty132, ty133, ty134, ty135, ty136, ty137, ty138, ty139, ty140, ty141, ty142, ty143, ty144, ty146, by simp⟩
theorem tysOk7 : ∀ x ∈ tys7, tiB Go.Proofs.Tryz.prog x.1 x.2 = true := by
  simp only [tys7, List.forall_mem_cons]
  exact ⟨ty147, ty148, ty150, ty151, ty152, ty153, ty154, ty155, ty156, ty157, ty158, ty159, ty160, ty161, ty162, ty163, ty165, ty166, ty167, ty168, by simp⟩
theorem tysOk8 : ∀ x ∈ tys8, tiB Go.Proofs.Tryz.prog x.1 x.2 = true := by
  simp only [tys8, List.forall_mem_cons]
  exact ⟨ty169, ty170, ty171, ty172, ty173, ty174, ty175, ty176, ty177, ty178, ty180, ty181, ty182, ty183, ty184, ty185, ty186, ty187, ty188, ty189, by simp⟩
theorem tysOk9 : ∀ x ∈ tys9, tiB Go.Proofs.Tryz.prog x.1 x.2 = true := by
  simp only [tys9, List.forall_mem_cons]
  exact ⟨ty191, ty193, ty194, ty195, ty196, ty197, ty198, ty199, ty200, ty201, ty202, ty204, ty205, ty206, ty207, ty208, ty209, ty210, ty211, ty212, by simp⟩
theorem tysOk10 : ∀ x ∈ tys10, tiB Go.Proofs.Tryz.prog x.1 x.2 = true := by
  simp only [tys10, List.forall_mem_cons]
  exact ⟨ty213, ty214, ty216, ty217, ty218, ty219, ty220, ty221, ty222, ty223, ty224, ty225, ty226, ty227, ty228, ty229, ty230, ty231, ty232, ty233, by simp⟩
theorem tysOk11 : ∀ x ∈ tys11, tiB Go.Proofs.Tryz.prog x.1 x.2 = true := by
  simp only [tys11, List.forall_mem_cons]
  exact ⟨ty234, ty235, ty236, ty237, ty238, ty239, ty240, ty241, ty242, ty243, ty244, ty245, ty246, ty247, ty248, ty249, ty250, ty251, ty252, ty253, by simp⟩
theorem tysOk12 : ∀ x ∈ tys12, tiB Go.Proofs.Tryz.prog x.1 x.2 = true := by
  simp only [tys12, List.forall_mem_cons]
  exact ⟨ty254, ty255, ty256, ty257, ty258, ty259, ty261, ty263, ty264, ty265, ty266, ty267, ty268, ty269, ty270, ty271, ty272, ty273, ty274, ty275, by simp⟩
theorem tysOk13 : ∀ x ∈ tys13, tiB Go.Proofs.Tryz.prog x.1 x.2 = true := by
  simp only [tys13, List.forall_mem_cons]
  exact ⟨ty276, ty277, ty278, ty279, ty280, ty281, ty282, ty283, ty284, ty285, ty286, ty287, ty289, ty291, ty293, ty294, ty296, ty297, ty298, ty299, by simp⟩
theorem tysOk14 : ∀ x ∈ tys14, tiB Go.Proofs.Tryz.prog x.1 x.2 = true := by
  simp only [tys14, List.forall_mem_cons]
  exact ⟨ty300, ty301, ty302, ty303, ty304, ty305, ty306, ty307, ty308, ty309, ty310, ty311, ty312, ty313, ty314, ty315, ty316, ty317, ty318, ty319, by simp⟩
theorem tysOk15 : ∀ x ∈ tys15, tiB Go.Proofs.Tryz.prog x.1 x.2 = true := by
  simp only [tys15, List.forall_mem_cons]
  exact ⟨ty320, ty321, ty323, ty324, ty325, ty326, ty327, ty328, ty329, ty330, ty331, ty332, ty333, ty334, ty335, ty336, ty337, ty338, ty340, ty342, by simp⟩
theorem tysOk16 : ∀ x ∈ tys16, tiB Go.Proofs.Tryz.prog x.1 x.2 = true := by
  simp only [tys16, List.forall_mem_cons]
  exact ⟨ty344, ty345, ty347, ty348, ty349, ty350, ty351, ty353, ty354, ty355, ty356, ty357, ty358, ty360, ty361, ty362, ty363, ty365, ty366, ty367, by simp⟩
theorem tysOk17 : ∀ x ∈ tys17, tiB Go.Proofs.Tryz.prog x.1 x.2 = true := by
  simp only [tys17, List.forall_mem_cons]
  exact ⟨ty368, ty369, ty370, ty372, ty373, ty374, ty376, ty377, ty378, ty379, ty380, ty381, ty382, ty383, ty384, ty386, ty387, ty388, ty389, ty390, by simp⟩
theorem tysOk18 : ∀ x ∈ tys18, tiB Go.Proofs.Tryz.prog x.1 x.2 = true := by
  simp only [tys18, List.forall_mem_cons]
  exact ⟨ty391, ty392, ty393, ty394, ty395, ty396, ty397, ty398, ty399, ty400, ty402, ty403, ty404, ty405, ty406, ty407, ty408, ty409, ty410, ty411, by simp⟩
theorem tysOk19 : ∀ x ∈ tys19, tiB Go.Proofs.Tryz.prog x.1 x.2 = true := by
  simp only [tys19, List.forall_mem_cons]
  exact ⟨ty412, ty413, ty414, ty415, ty416, ty417, ty418, ty419, ty420, ty421, ty422, ty423, ty424, ty425, by simp⟩
theorem fn3 : fnB X 3 Go.Proofs.Tryz.f3 = true := by kernel_rfl
theorem fn4 : fnB X 4 Go.Proofs.Tryz.f4 = true := by kernel_rfl
theorem fn5 : fnB X 5 Go.Proofs.Tryz.f5 = true := by kernel_rfl
theorem fn6 : fnB X 6 Go.Proofs.Tryz.f6 = true := by kernel_rfl
theorem fn7 : fnB X 7 Go.Proofs.Tryz.f7 = true := by kernel_rfl
theorem fn8 : fnB X 8 Go.Proofs.Tryz.f8 = true := by kernel_rfl
theorem fn9 : fnB X 9 Go.Proofs.Tryz.f9 = true := by kernel_rfl
theorem fn10 : fnB X 10 Go.Proofs.Tryz.f10 = true := by kernel_rfl
theorem fn11 : fnB X 11 Go.Proofs.Tryz.f11 = true := by kernel_rfl
theorem fn12 : fnB X 12 Go.Proofs.Tryz.f12 = true := by kernel_rfl
theorem fn13 : fnB X 13 Go.Proofs.Tryz.f13 = true := by kernel_rfl
theorem fn14 : fnB X 14 Go.Proofs.Tryz.f14 = true := by kernel_rfl
theorem fn15 : fnB X 15 Go.Proofs.Tryz.f15 = true := by kernel_rfl
theorem fn16 : fnB X 16 Go.Proofs.Tryz.f16 = true := by kernel_rfl
theorem fn17 : fnB X 17 Go.Proofs.Tryz.f17 = true := by kernel_rfl
theorem fn18 : fnB X 18 Go.Proofs.Tryz.f18 = true := by kernel_rfl
theorem fn19 : fnB X 19 Go.Proofs.Tryz.f19 = true := by kernel_rfl
theorem fn20 : fnB X 20 Go.Proofs.Tryz.f20 = true := by kernel_rfl
theorem fn21 : fnB X 21 Go.Proofs.Tryz.f21 = true := by kernel_rfl
theorem fn22 : fnB X 22 Go.Proofs.Tryz.f22 = true := by kernel_rfl
theorem fn23 : fnB X 23 Go.Proofs.Tryz.f23 = true := by kernel_rfl
theorem fn24 : fnB X 24 Go.Proofs.Tryz.f24 = true := by kernel_rfl
theorem fn25 : fnB X 25 Go.Proofs.Tryz.f25 = true := by kernel_rfl
theorem fn26 : fnB X 26 Go.Proofs.Tryz.f26 = true := by kernel_rfl
theorem fn27 : fnB X 27 Go.Proofs.Tryz.f27 = true := by kernel_rfl
theorem fn28 : fnB X 28 Go.Proofs.Tryz.f28 = true := by kernel_rfl
theorem fn29 : fnB X 29 Go.Proofs.Tryz.f29 = true := by kernel_rfl
theorem fn30 : fnB X 30 Go.Proofs.Tryz.f30 = true := by kernel_rfl
theorem fn31 : fnB X 31 Go.Proofs.Tryz.f31 = true := by kernel_rfl
theorem fn32 : fnB X 32 Go.Proofs.Tryz.f32 = true := by kernel_rfl
theorem fn33 : fnB X 33 Go.Proofs.Tryz.f33 = true := by kernel_rfl
theorem fn34 : fnB X 34 Go.Proofs.Tryz.f34 = true := by kernel_rfl
theorem fn35 : fnB X 35 Go.Proofs.Tryz.f35 = true := by kernel_rfl
theorem fn36 : fnB X 36 Go.Proofs.Tryz.f36 = true := by kernel_rfl
theorem fn37 : fnB X 37 Go.Proofs.Tryz.f37 = true := by kernel_rfl
theorem fn38 : fnB X 38 Go.Proofs.Tryz.f38 = true := by kernel_rfl
theorem fn39 : fnB X 39 Go.Proofs.Tryz.f39 = true := by kernel_rfl
theorem fn40 : fnB X 40 Go.Proofs.Tryz.f40 = true := by kernel_rfl
theorem fn41 : fnB X 41 Go.Proofs.Tryz.f41 = true := by kernel_rfl
theorem fn42 : fnB X 42 Go.Proofs.Tryz.f42 = true := by kernel_rfl
theorem fn43 : fnB X 43 Go.Proofs.Tryz.f43 = true := by kernel_rfl
theorem fn44 : fnB X 44 Go.Proofs.Tryz.f44 = true := by kernel_rfl
theorem fn45 : fnB X 45 Go.Proofs.Tryz.f45 = true := by kernel_rfl
theorem fn46 : fnB X 46 Go.Proofs.Tryz.f46 = true := by kernel_rfl
theorem fn47 : fnB X 47 Go.Proofs.Tryz.f47 = true := by kernel_rfl
theorem fn48 : fnB X 48 Go.Proofs.Tryz.f48 = true := by kernel_rfl
theorem fn49 : fnB X 49 Go.Proofs.Tryz.f49 = true := by kernel_rfl
theorem fn50 : fnB X 50 Go.Proofs.Tryz.f50 = true := by kernel_rfl
theorem fn51 : fnB X 51 Go.Proofs.Tryz.f51 = true := by kernel_rfl
theorem fn52 : fnB X 52 Go.Proofs.Tryz.f52 = true := by kernel_rfl
theorem fn53 : fnB X 53 Go.Proofs.Tryz.f53 = true := by kernel_rfl
theorem fn54 : fnB X 54 Go.Proofs.Tryz.f54 = true := by kernel_rfl
theorem fn55 : fnB X 55 Go.Proofs.Tryz.f55 = true := by kernel_rfl
theorem fn56 : fnB X 56 Go.Proofs.Tryz.f56 = true := by kernel_rfl
theorem fn57 : fnB X 57 Go.Proofs.Tryz.f57 = true := by kernel_rfl
theorem fn58 : fnB X 58 Go.Proofs.Tryz.f58 = true := by kernel_rfl
theorem fn59 : fnB X 59 Go.Proofs.Tryz.f59 = true := by kernel_rfl
theorem fn60 : fnB X 60 Go.Proofs.Tryz.f60 = true := by kernel_rfl
theorem fn61 : fnB X 61 Go.Proofs.Tryz.f61 = true := by kernel_rfl
theorem fn62 : fnB X 62 Go.Proofs.Tryz.f62 = true := by kernel_rfl
theorem fn63 : fnB X 63 Go.Proofs.Tryz.f63 = true := by kernel_rfl
theorem fn64 : fnB X 64 Go.Proofs.Tryz.f64 = true := by kernel_rfl
theorem fn65 : fnB X 65 Go.Proofs.Tryz.f65 = true := by kernel_rfl
theorem fn66 : fnB X 66 Go.Proofs.Tryz.f66 = true := by kernel_rfl
theorem fn67 : fnB X 67 Go.Proofs.Tryz.f67 = true := by kernel_rfl
theorem fn68 : fnB X 68 Go.Proofs.Tryz.f68 = true := by kernel_rfl
theorem fn69 : fnB X 69 Go.Proofs.Tryz.f69 = true := by kernel_rfl
theorem fn70 : fnB X 70 Go.Proofs.Tryz.f70 = true := by kernel_rfl
theorem fn71 : fnB X 71 Go.Proofs.Tryz.f71 = true := by kernel_rfl
theorem fn72 : fnB X 72 Go.Proofs.Tryz.f72 = true := by kernel_rfl
theorem fn73 : fnB X 73 Go.Proofs.Tryz.f73 = true := by kernel_rfl
theorem fn74 : fnB X 74 Go.Proofs.Tryz.f74 = true := by kernel_rfl
theorem fn75 : fnB X 75 Go.Proofs.Tryz.f75 = true := by kernel_rfl
theorem fn76 : fnB X 76 Go.Proofs.Tryz.f76 = true := by kernel_rfl
theorem fn77 : fnB X 77 Go.Proofs.Tryz.f77 = true := by kernel_rfl
theorem fn78 : fnB X 78 Go.Proofs.Tryz.f78 = true := by kernel_rfl
theorem fn79 : fnB X 79 Go.Proofs.Tryz.f79 = true := by kernel_rfl
theorem fn80 : fnB X 80 Go.Proofs.Tryz.f80 = true := by kernel_rfl
theorem fn81 : fnB X 81 Go.Proofs.Tryz.f81 = true := by kernel_rfl
theorem fn82 : fnB X 82 Go.Proofs.Tryz.f82 = true := by kernel_rfl
theorem fn83 : fnB X 83 Go.Proofs.Tryz.f83 = true := by kernel_rfl
theorem fn84 : fnB X 84 Go.Proofs.Tryz.f84 = true := by kernel_rfl
theorem fn85 : fnB X 85 Go.Proofs.Tryz.f85 = true := by kernel_rfl
theorem fn86 : fnB X 86 Go.Proofs.Tryz.f86 = true := by kernel_rfl
theorem fn87 : fnB X 87 Go.Proofs.Tryz.f87 = true := by kernel_rfl
theorem fn88 : fnB X 88 Go.Proofs.Tryz.f88 = true := by kernel_rfl
theorem fn89 : fnB X 89 Go.Proofs.Tryz.f89 = true := by kernel_rfl
theorem fn90 : fnB X 90 Go.Proofs.Tryz.f90 = true := by kernel_rfl
theorem fn91 : fnB X 91 Go.Proofs.Tryz.f91 = true := by kernel_rfl
theorem fn92 : fnB X 92 Go.Proofs.Tryz.f92 = true := by kernel_rfl
theorem fn93 : fnB X 93 Go.Proofs.Tryz.f93 = true := by kernel_rfl
theorem fn94 : fnB X 94 Go.Proofs.Tryz.f94 = true := by kernel_rfl
theorem fn95 : fnB X 95 Go.Proofs.Tryz.f95 = true := by kernel_rfl
theorem fn96 : fnB X 96 Go.Proofs.Tryz.f96 = true := by kernel_rfl
theorem fn97 : fnB X 97 Go.Proofs.Tryz.f97 = true := by kernel_rfl
theorem fn98 : fnB X 98 Go.Proofs.Tryz.f98 = true := by kernel_rfl
theorem fn99 : fnB X 99 Go.Proofs.Tryz.f99 = true := by kernel_rfl
theorem fn100 : fnB X 100 Go.Proofs.Tryz.f100 = true := by kernel_rfl
theorem fn101 : fnB X 101 Go.Proofs.Tryz.f101 = true := by kernel_rfl
theorem fn102 : fnB X 102 Go.Proofs.Tryz.f102 = true := by kernel_rfl
theorem fn103 : fnB X 103 Go.Proofs.Tryz.f103 = true := by kernel_rfl
theorem fn104 : fnB X 104 Go.Proofs.Tryz.f104 = true := by kernel_rfl
theorem fn105 : fnB X 105 Go.Proofs.Tryz.f105 = true := by kernel_rfl
theorem fn106 : fnB X 106 Go.Proofs.Tryz.f106 = true := by kernel_rfl
theorem fn107 : fnB X 107 Go.Proofs.Tryz.f107 = true := by kernel_rfl
theorem fn108 : fnB X 108 Go.Proofs.Tryz.f108 = true := by kernel_rfl
theorem fn109 : fnB X 109 Go.Proofs.Tryz.f109 = true := by kernel_rfl
theorem fn110 : fnB X 110 Go.Proofs.Tryz.f110 = true := by kernel_rfl
theorem fn111 : fnB X 111 Go.Proofs.Tryz.f111 = true := by kernel_rfl
theorem fn112 : fnB X 112 Go.Proofs.Tryz.f112 = true := by kernel_rfl
theorem fn113 : fnB X 113 Go.Proofs.Tryz.f113 = true := by kernel_rfl
theorem fn114 : fnB X 114 Go.Proofs.Tryz.f114 = true := by kernel_rfl
theorem fn115 : fnB X 115 Go.Proofs.Tryz.f115 = true := by kernel_rfl
theorem fn116 : fnB X 116 Go.Proofs.Tryz.f116 = true := by kernel_rfl
theorem fn117 : fnB X 117 Go.Proofs.Tryz.f117 = true := by kernel_rfl
theorem fn118 : fnB X 118 Go.Proofs.Tryz.f118 = true := by kernel_rfl
theorem fn119 : fnB X 119 Go.Proofs.Tryz.f119 = true := by kernel_rfl
theorem fn120 : fnB X 120 Go.Proofs.Tryz.f120 = true := by kernel_rfl
theorem fn121 : fnB X 121 Go.Proofs.Tryz.f121 = true := by kernel_rfl
theorem fn122 : fnB X 122 Go.Proofs.Tryz.f122 = true := by kernel_rfl
theorem fn123 : fnB X 123 Go.Proofs.Tryz.f123 = true := by kernel_rfl
theorem fn124 : fnB X 124 Go.Proofs.Tryz.f124 = true := by kernel_rfl
theorem fn125 : fnB X 125 Go.Proofs.Tryz.f125 = true := by kernel_rfl
theorem fn126 : fnB X 126 Go.Proofs.Tryz.f126 = true := by kernel_rfl
theorem fn127 : fnB X 127 Go.Proofs.Tryz.f127 = true := by kernel_rfl
theorem fn128 : fnB X 128 Go.Proofs.Tryz.f128 = true := by kernel_rfl
theorem fn129 : fnB X 129 Go.Proofs.Tryz.f129 = true := by kernel_rfl
theorem fn130 : fnB X 130 Go.Proofs.Tryz.f130 = true := by kernel_rfl
theorem fn131 : fnB X 131 Go.Proofs.Tryz.f131 = true := by kernel_rfl
theorem fn132 : fnB X 132 Go.Proofs.Tryz.f132 = true := by kernel_rfl
theorem fn133 : fnB X 133 Go.Proofs.Tryz.f133 = true := by kernel_rfl
theorem fn134 : fnB X 134 Go.Proofs.Tryz.f134 = true := by kernel_rfl
theorem fn135 : fnB X 135 Go.Proofs.Tryz.f135 = true := by kernel_rfl
theorem fn136 : fnB X 136 Go.Proofs.Tryz.f136 = true := by kernel_rfl
theorem fn137 : fnB X 137 Go.Proofs.Tryz.f137 = true := by kernel_rfl
theorem fn138 : fnB X 138 Go.Proofs.Tryz.f138 = true := by kernel_rfl
theorem fn139 : fnB X 139 Go.Proofs.Tryz.f139 = true := by kernel_rfl
theorem fn140 : fnB X 140 Go.Proofs.Tryz.f140 = true := by kernel_rfl
theorem fn141 : fnB X 141 Go.Proofs.Tryz.f141 = true := by kernel_rfl
theorem fn142 : fnB X 142 Go.Proofs.Tryz.f142 = true := by kernel_rfl
theorem fn143 : fnB X 143 Go.Proofs.Tryz.f143 = true := by kernel_rfl
theorem fn144 : fnB X 144 Go.Proofs.Tryz.f144 = true := by kernel_rfl
theorem fn145 : fnB X 145 Go.Proofs.Tryz.f145 = true := by kernel_rfl
theorem fn146 : fnB X 146 Go.Proofs.Tryz.f146 = true := by kernel_rfl
theorem fn147 : fnB X 147 Go.Proofs.Tryz.f147 = true := by kernel_rfl
theorem fn148 : fnB X 148 Go.Proofs.Tryz.f148 = true := by kernel_rfl
theorem fn149 : fnB X 149 Go.Proofs.Tryz.f149 = true := by kernel_rfl
theorem fn150 : fnB X 150 Go.Proofs.Tryz.f150 = true := by kernel_rfl
theorem fn151 : fnB X 151 Go.Proofs.Tryz.f151 = true := by kernel_rfl
theorem fn152 : fnB X 152 Go.Proofs.Tryz.f152 = true := by kernel_rfl
theorem fn153 : fnB X 153 Go.Proofs.Tryz.f153 = true := by kernel_rfl
theorem fn154 : fnB X 154 Go.Proofs.Tryz.f154 = true := by kernel_rfl
theorem fn155 : fnB X 155 Go.Proofs.Tryz.f155 = true := by kernel_rfl
theorem fn156 : fnB X 156 Go.Proofs.Tryz.f156 = true := by kernel_rfl
theorem fn157 : fnB X 157 Go.Proofs.Tryz.f157 = true := by kernel_rfl
theorem fn158 : fnB X 158 Go.Proofs.Tryz.f158 = true := by kernel_rfl
theorem fn159 : fnB X 159 Go.Proofs.Tryz.f159 = true := by kernel_rfl
theorem fn160 : fnB X 160 Go.Proofs.Tryz.f160 = true := by kernel_rfl
theorem fn161 : fnB X 161 Go.Proofs.Tryz.f161 = true := by kernel_rfl
theorem fn162 : fnB X 162 Go.Proofs.Tryz.f162 = true := by kernel_rfl
theorem fn163 : fnB X 163 Go.Proofs.Tryz.f163 = true := by kernel_rfl
theorem fn164 : fnB X 164 Go.Proofs.Tryz.f164 = true := by kernel_rfl
theorem fn165 : fnB X 165 Go.Proofs.Tryz.f165 = true := by kernel_rfl
theorem fn166 : fnB X 166 Go.Proofs.Tryz.f166 = true := by kernel_rfl
theorem fn167 : fnB X 167 Go.Proofs.Tryz.f167 = true := by kernel_rfl
theorem fn168 : fnB X 168 Go.Proofs.Tryz.f168 = true := by kernel_rfl
theorem fn169 : fnB X 169 Go.Proofs.Tryz.f169 = true := by kernel_rfl
theorem fn170 : fnB X 170 Go.Proofs.Tryz.f170 = true := by kernel_rfl
theorem fn171 : fnB X 171 Go.Proofs.Tryz.f171 = true := by kernel_rfl
theorem fn172 : fnB X 172 Go.Proofs.Tryz.f172 = true := by kernel_rfl
theorem fn173 : fnB X 173 Go.Proofs.Tryz.f173 = true := by kernel_rfl
theorem fn174 : fnB X 174 Go.Proofs.Tryz.f174 = true := by kernel_rfl
theorem fn175 : fnB X 175 Go.Proofs.Tryz.f175 = true := by kernel_rfl
theorem fn176 : fnB X 176 Go.Proofs.Tryz.f176 = true := by kernel_rfl
theorem fn177 : fnB X 177 Go.Proofs.Tryz.f177 = true := by kernel_rfl
theorem fn178 : fnB X 178 Go.Proofs.Tryz.f178 = true := by kernel_rfl
theorem fn179 : fnB X 179 Go.Proofs.Tryz.f179 = true := by kernel_rfl
theorem fn180 : fnB X 180 Go.Proofs.Tryz.f180 = true := by kernel_rfl
theorem fn181 : fnB X 181 Go.Proofs.Tryz.f181 = true := by kernel_rfl
theorem fn182 : fnB X 182 Go.Proofs.Tryz.f182 = true := by kernel_rfl
theorem fn183 : fnB X 183 Go.Proofs.Tryz.f183 = true := by kernel_rfl
theorem fn184 : fnB X 184 Go.Proofs.Tryz.f184 = true := by kernel_rfl
theorem fn185 : fnB X 185 Go.Proofs.Tryz.f185 = true := by kernel_rfl
theorem fn186 : fnB X 186 Go.Proofs.Tryz.f186 = true := by kernel_rfl
theorem fn187 : fnB X 187 Go.Proofs.Tryz.f187 = true := by kernel_rfl
theorem fn188 : fnB X 188 Go.Proofs.Tryz.f188 = true := by kernel_rfl
theorem fn189 : fnB X 189 Go.Proofs.Tryz.f189 = true := by kernel_rfl
theorem fn190 : fnB X 190 Go.Proofs.Tryz.f190 = true := by kernel_rfl
theorem fn191 : fnB X 191 Go.Proofs.Tryz.f191 = true := by kernel_rfl
theorem fn192 : fnB X 192 Go.Proofs.Tryz.f192 = true := by kernel_rfl
theorem fn193 : fnB X 193 Go.Proofs.Tryz.f193 = true := by kernel_rfl
theorem fn194 : fnB X 194 Go.Proofs.Tryz.f194 = true := by kernel_rfl
theorem fn195 : fnB X 195 Go.Proofs.Tryz.f195 = true := by kernel_rfl
theorem fn196 : fnB X 196 Go.Proofs.Tryz.f196 = true := by kernel_rfl
theorem fn197 : fnB X 197 Go.Proofs.Tryz.f197 = true := by kernel_rfl
theorem fn198 : fnB X 198 Go.Proofs.Tryz.f198 = true := by kernel_rfl
theorem fn199 : fnB X 199 Go.Proofs.Tryz.f199 = true := by kernel_rfl
theorem fn200 : fnB X 200 Go.Proofs.Tryz.f200 = true := by kernel_rfl
theorem fn201 : fnB X 201 Go.Proofs.Tryz.f201 = true := by kernel_rfl
theorem fn202 : fnB X 202 Go.Proofs.Tryz.f202 = true := by kernel_rfl
theorem fn203 : fnB X 203 Go.Proofs.Tryz.f203 = true := by kernel_rfl
theorem fn204 : fnB X 204 Go.Proofs.Tryz.f204 = true := by kernel_rfl
theorem fn205 : fnB X 205 Go.Proofs.Tryz.f205 = true := by kernel_rfl
theorem fn206 : fnB X 206 Go.Proofs.Tryz.f206 = true := by kernel_rfl
theorem fn207 : fnB X 207 Go.Proofs.Tryz.f207 = true := by kernel_rfl
theorem fn208 : fnB X 208 Go.Proofs.Tryz.f208 = true := by kernel_rfl
theorem fn209 : fnB X 209 Go.Proofs.Tryz.f209 = true := by kernel_rfl
theorem fn210 : fnB X 210 Go.Proofs.Tryz.f210 = true := by kernel_rfl
theorem fn211 : fnB X 211 Go.Proofs.Tryz.f211 = true := by kernel_rfl
theorem fn212 : fnB X 212 Go.Proofs.Tryz.f212 = true := by kernel_rfl
theorem fn213 : fnB X 213 Go.Proofs.Tryz.f213 = true := by kernel_rfl
theorem fn214 : fnB X 214 Go.Proofs.Tryz.f214 = true := by kernel_rfl
theorem fn215 : fnB X 215 Go.Proofs.Tryz.f215 = true := by kernel_rfl
theorem fn216 : fnB X 216 Go.Proofs.Tryz.f216 = true := by kernel_rfl
theorem fn218 : fnB X 218 Go.Proofs.Tryz.f218 = true := by kernel_rfl
theorem fn219 : fnB X 219 Go.Proofs.Tryz.f219 = true := by kernel_rfl
theorem fn220 : fnB X 220 Go.Proofs.Tryz.f220 = true := by kernel_rfl
theorem fn221 : fnB X 221 Go.Proofs.Tryz.f221 = true := by kernel_rfl
theorem fn222 : fnB X 222 Go.Proofs.Tryz.f222 = true := by kernel_rfl
theorem fn223 : fnB X 223 Go.Proofs.Tryz.f223 = true := by kernel_rfl
theorem fn224 : fnB X 224 Go.Proofs.Tryz.f224 = true := by kernel_rfl
theorem fn225 : fnB X 225 Go.Proofs.Tryz.f225 = true := by kernel_rfl
theorem fn226 : fnB X 226 Go.Proofs.Tryz.f226 = true := by kernel_rfl
theorem fn227 : fnB X 227 Go.Proofs.Tryz.f227 = true := by kernel_rfl
theorem fn228 : fnB X 228 Go.Proofs.Tryz.f228 = true := by kernel_rfl
theorem fn229 : fnB X 229 Go.Proofs.Tryz.f229 = true := by kernel_rfl
theorem fn230 : fnB X 230 Go.Proofs.Tryz.f230 = true := by kernel_rfl
theorem fn231 : fnB X 231 Go.Proofs.Tryz.f231 = true := by kernel_rfl
theorem fn232 : fnB X 232 Go.Proofs.Tryz.f232 = true := by kernel_rfl
theorem fn233 : fnB X 233 Go.Proofs.Tryz.f233 = true := by kernel_rfl
theorem fn234 : fnB X 234 Go.Proofs.Tryz.f234 = true := by kernel_rfl
theorem fn235 : fnB X 235 Go.Proofs.Tryz.f235 = true := by kernel_rfl
theorem fn236 : fnB X 236 Go.Proofs.Tryz.f236 = true := by kernel_rfl
theorem fn237 : fnB X 237 Go.Proofs.Tryz.f237 = true := by kernel_rfl
theorem fn238 : fnB X 238 Go.Proofs.Tryz.f238 = true := by kernel_rfl
theorem fn239 : fnB X 239 Go.Proofs.Tryz.f239 = true := by kernel_rfl
theorem fn240 : fnB X 240 Go.Proofs.Tryz.f240 = true := by kernel_rfl
theorem fn241 : fnB X 241 Go.Proofs.Tryz.f241 = true := by kernel_rfl
theorem fn242 : fnB X 242 Go.Proofs.Tryz.f242 = true := by kernel_rfl
theorem fn243 : fnB X 243 Go.Proofs.Tryz.f243 = true := by kernel_rfl
theorem fn244 : fnB X 244 Go.Proofs.Tryz.f244 = true := by kernel_rfl
theorem fn245 : fnB X 245 Go.Proofs.Tryz.f245 = true := by kernel_rfl
theorem fn246 : fnB X 246 Go.Proofs.Tryz.f246 = true := by kernel_rfl
theorem fn247 : fnB X 247 Go.Proofs.Tryz.f247 = true := by kernel_rfl
theorem fn248 : fnB X 248 Go.Proofs.Tryz.f248 = true := by kernel_rfl
theorem fn249 : fnB X 249 Go.Proofs.Tryz.f249 = true := by kernel_rfl
theorem fn250 : fnB X 250 Go.Proofs.Tryz.f250 = true := by kernel_rfl
theorem fn251 : fnB X 251 Go.Proofs.Tryz.f251 = true := by kernel_rfl
theorem fn252 : fnB X 252 Go.Proofs.Tryz.f252 = true := by kernel_rfl
theorem fn253 : fnB X 253 Go.Proofs.Tryz.f253 = true := by kernel_rfl
theorem fn254 : fnB X 254 Go.Proofs.Tryz.f254 = true := by kernel_rfl
theorem fn255 : fnB X 255 Go.Proofs.Tryz.f255 = true := by kernel_rfl
theorem fn256 : fnB X 256 Go.Proofs.Tryz.f256 = true := by kernel_rfl
theorem fn257 : fnB X 257 Go.Proofs.Tryz.f257 = true := by kernel_rfl
theorem fn258 : fnB X 258 Go.Proofs.Tryz.f258 = true := by kernel_rfl
theorem fn277 : fnB X 277 Go.Proofs.Tryz.f277 = true := by kernel_rfl
theorem fn279 : fnB X 279 Go.Proofs.Tryz.f279 = true := by kernel_rfl
theorem fn280 : fnB X 280 Go.Proofs.Tryz.f280 = true := by kernel_rfl
theorem fn281 : fnB X 281 Go.Proofs.Tryz.f281 = true := by kernel_rfl
theorem fn282 : fnB X 282 Go.Proofs.Tryz.f282 = true := by kernel_rfl
theorem fn283 : fnB X 283 Go.Proofs.Tryz.f283 = true := by kernel_rfl
theorem fn284 : fnB X 284 Go.Proofs.Tryz.f284 = true := by kernel_rfl
theorem fn285 : fnB X 285 Go.Proofs.Tryz.f285 = true := by kernel_rfl
theorem fn286 : fnB X 286 Go.Proofs.Tryz.f286 = true := by kernel_rfl
theorem fn287 : fnB X 287 Go.Proofs.Tryz.f287 = true := by kernel_rfl
theorem fn288 : fnB X 288 Go.Proofs.Tryz.f288 = true := by kernel_rfl
theorem fn289 : fnB X 289 Go.Proofs.Tryz.f289 = true := by kernel_rfl
theorem fnsOk0 : ∀ x ∈ fns0, fnB X x.1 x.2 = true := by
  simp only [fns0, List.forall_mem_cons]
  exact ⟨fn3, fn4, fn5, fn6, fn7, fn8, fn9, fn10, fn11, fn12, fn13, fn14, fn15, fn16, fn17, fn18, fn19, fn20, fn21, fn22, by simp⟩
theorem fnsAt0 : ∀ x ∈ fns0, Go.Proofs.Tryz.prog.funcs[x.1]? = some x.2 := by
  simp only [fns0, List.forall_mem_cons]
  exact ⟨Go.Proofs.Tryz.func3, Go.Proofs.Tryz.func4, Go.Proofs.Tryz.func5, Go.Proofs.Tryz.func6, Go.Proofs.Tryz.func7, Go.Proofs.Tryz.func8, Go.Proofs.Tryz.func9, Go.Proofs.Tryz.func10, Go.Proofs.Tryz.func11, Go.Proofs.Tryz.func12, Go.Proofs.Tryz.func13, Go.Proofs.Tryz.func14, Go.Proofs.Tryz.func15, Go.Proofs.Tryz.func16, Go.Proofs.Tryz.func17, Go.Proofs.Tryz.func18, Go.Proofs.Tryz.func19, Go.Proofs.Tryz.func20, Go.Proofs.Tryz.func21, Go.Proofs.Tryz.func22, by simp⟩
theorem fnsOk1 : ∀ x ∈ fns1, fnB X x.1 x.2 = true := by
  simp only [fns1, List.forall_mem_cons]
  exact ⟨fn23, fn24, fn25, fn26, fn27, fn28, fn29, fn30, fn31, fn32, fn33, fn34, fn35, fn36, fn37, fn38, fn39, fn40, fn41, fn42, by simp⟩
theorem fnsAt1 : ∀ x ∈ fns1, Go.Proofs.Tryz.prog.funcs[x.1]? = some x.2 := by
  simp only [fns1, List.forall_mem_cons]
  exact ⟨Go.Proofs.Tryz.func23, Go.Proofs.Tryz.func24, Go.Proofs.Tryz.func25, Go.Proofs.Tryz.func26, Go.Proofs.Tryz.func27, Go.Proofs.Tryz.func28, Go.Proofs.Tryz.func29, Go.Proofs.Tryz.func30, Go.Proofs.Tryz.func31, Go.Proofs.Tryz.func32, Go.Proofs.Tryz.func33, Go.Proofs.Tryz.func34, Go.Proofs.Tryz.func35, Go.Proofs.Tryz.func36, Go.Proofs.Tryz.func37, Go.Proofs.Tryz.func38, Go.Proofs.Tryz.func39, Go.Proofs.Tryz.func40, Go.Proofs.Tryz.func41, Go.Proofs.Tryz.func42, by simp⟩
theorem fnsOk2 : ∀ x ∈ fns2, fnB X x.1 x.2 = true := by
  simp only [fns2, List.forall_mem_cons]
  exact ⟨fn43, fn44, fn45, fn46, fn47, fn48, fn49, fn50, fn51, fn52, fn53, fn54, fn55, fn56, fn57, fn58, fn59, fn60, fn61, fn62, by simp⟩
theorem fnsAt2 : ∀ x ∈ fns2, Go.Proofs.Tryz.prog.funcs[x.1]? = some x.2 := by
  simp only [fns2, List.forall_mem_cons]
  exact ⟨Go.Proofs.Tryz.func43, Go.Proofs.Tryz.func44, Go.Proofs.Tryz.func45, Go.Proofs.Tryz.func46, Go.Proofs.Tryz.func47, Go.Proofs.Tryz.func48, Go.Proofs.Tryz.func49, Go.Proofs.Tryz.func50, Go.Proofs.Tryz.func51, Go.Proofs.Tryz.func52, Go.Proofs.Tryz.func53, Go.Proofs.Tryz.func54, Go.Proofs.Tryz.func55, Go.Proofs.Tryz.func56, Go.Proofs.Tryz.func57, Go.Proofs.Tryz.func58, Go.Proofs.Tryz.func59, Go.Proofs.Tryz.func60, Go.Proofs.Tryz.func61, Go.Proofs.Tryz.func62, by simp⟩
theorem fnsOk3 : ∀ x ∈ fns3, fnB X x.1 x.2 = true := by
  simp only [fns3, List.forall_mem_cons]
  exact ⟨fn63, fn64, fn65, fn66, fn67, fn68, fn69, fn70, fn71, fn72, fn73, fn74, fn75, fn76, fn77, fn78, fn79, fn80, fn81, fn82, by simp⟩
theorem fnsAt3 : ∀ x ∈ fns3, Go.Proofs.Tryz.prog.funcs[x.1]? = some x.2 := by
  simp only [fns3, List.forall_mem_cons]
  exact ⟨Go.Proofs.Tryz.func63, Go.Proofs.Tryz.func64, Go.Proofs.Tryz.func65, Go.Proofs.Tryz.func66, Go.Proofs.Tryz.func67, Go.Proofs.Tryz.func68, Go.Proofs.Tryz.func69, Go.Proofs.Tryz.func70, Go.Proofs.Tryz.func71, Go.Proofs.Tryz.func72, Go.Proofs.Tryz.func73, Go.Proofs.Tryz.func74, Go.Proofs.Tryz.func75, Go.Proofs.Tryz.func76, Go.Proofs.Tryz.func77, Go.Proofs.Tryz.func78, Go.Proofs.Tryz.func79, Go.Proofs.Tryz.func80, Go.Proofs.Tryz.func81, Go.Proofs.Tryz.func82, by simp⟩
theorem fnsOk4 : ∀ x ∈ fns4, fnB X x.1 x.2 = true := by
  simp only [fns4, List.forall_mem_cons]
  exact ⟨fn83, fn84, fn85, fn86, fn87, fn88, fn89, fn90, fn91, fn92, fn93, fn94, fn95, fn96, fn97, fn98, fn99, fn100, fn101, fn102, by simp⟩
theorem fnsAt4 : ∀ x ∈ fns4, Go.Proofs.Tryz.prog.funcs[x.1]? = some x.2 := by
  simp only [fns4, List.forall_mem_cons]
  exact ⟨Go.Proofs.Tryz.func83, Go.Proofs.Tryz.func84, Go.Proofs.Tryz.func85, Go.Proofs.Tryz.func86, Go.Proofs.Tryz.func87, Go.Proofs.Tryz.func88, Go.Proofs.Tryz.func89, Go.Proofs.Tryz.func90, Go.Proofs.Tryz.func91, Go.Proofs.Tryz.func92, Go.Proofs.Tryz.func93, Go.Proofs.Tryz.func94, Go.Proofs.Tryz.func95, Go.Proofs.Tryz.func96, Go.Proofs.Tryz.func97, Go.Proofs.Tryz.func98, Go.Proofs.Tryz.func99, Go.Proofs.Tryz.func100, Go.Proofs.Tryz.func101, Go.Proofs.Tryz.func102, by simp⟩
theorem fnsOk5 : ∀ x ∈ fns5, fnB X x.1 x.2 = true := by
  simp only [fns5, List.forall_mem_cons]
  exact ⟨fn103, fn104, fn105, fn106, fn107, fn108, fn109, fn110, fn111, fn112, fn113, fn114, fn115, fn116, fn117, fn118, fn119, fn120, fn121, fn122, by simp⟩
theorem fnsAt5 : ∀ x ∈ fns5, Go.Proofs.Tryz.prog.funcs[x.1]? = some x.2 := by
  simp only [fns5, List.forall_mem_cons]
  exact ⟨Go.Proofs.Tryz.func103, Go.Proofs.Tryz.func104, Go.Proofs.Tryz.func105, Go.Proofs.Tryz.func106, Go.Proofs.Tryz.func107, Go.Proofs.Tryz.func108, Go.Proofs.Tryz.func109, Go.Proofs.Tryz.func110, Go.Proofs.Tryz.func111, Go.Proofs.Tryz.func112, Go.Proofs.Tryz.func113, Go.Proofs.Tryz.func114, Go.Proofs.Tryz.func115, Go.Proofs.Tryz.func116, Go.Proofs.Tryz.func117, Go.Proofs.Tryz.func118, Go.Proofs.Tryz.func119, Go.Proofs.Tryz.func120, Go.Proofs.Tryz.func121, Go.Proofs.Tryz.func122, by simp⟩
theorem fnsOk6 : ∀ x ∈ fns6, fnB X x.1 x.2 = true := by
  simp only [fns6, List.forall_mem_cons]
  exact ⟨fn123, fn124, fn125, fn126, fn127, fn128, fn129, fn130, fn131, fn132, fn133, fn134, fn135, fn136, fn137, fn138, fn139, fn140, fn141, fn142, by simp⟩
theorem fnsAt6 : ∀ x ∈ fns6, Go.Proofs.Tryz.prog.funcs[x.1]? = some x.2 := by
  simp only [fns6, List.forall_mem_cons]
  exact ⟨Go.Proofs.Tryz.func123, Go.Proofs.Tryz.func124, Go.Proofs.Tryz.func125, Go.Proofs.Tryz.func126, Go.Proofs.Tryz.func127, Go.Proofs.Tryz.func128, Go.Proofs.Tryz.func129, Go.Proofs.Tryz.func130, Go.Proofs.Tryz.func131, Go.Proofs.Tryz.func132, Go.Proofs.Tryz.func133, Go.Proofs.Tryz.func134, Go.Proofs.Tryz.func135, Go.Proofs.Tryz.func136, Go.Proofs.Tryz.func137, Go.Proofs.Tryz.func138, Go.Proofs.Tryz.func139, Go.Proofs.Tryz.func140, Go.Proofs.Tryz.func141, Go.Proofs.Tryz.func142, by simp⟩
theorem fnsOk7 : ∀ x ∈ fns7, fnB X x.1 x.2 = true := by
  simp only [fns7, List.forall_mem_cons]
  exact ⟨fn143, fn144, fn145, fn146, fn147, fn148, fn149, fn150, fn151, fn152, fn153, fn154, fn155, fn156, fn157, fn158, fn159, fn160, fn161, fn162, by simp⟩
theorem fnsAt7 : ∀ x ∈ fns7, Go.Proofs.Tryz.prog.funcs[x.1]? = some x.2 := by
  simp only [fns7, List.forall_mem_cons]
  exact ⟨Go.Proofs.Tryz.func143, Go.Proofs.Tryz.func144, Go.Proofs.Tryz.func145, Go.Proofs.Tryz.func146, Go.Proofs.Tryz.func147, Go.Proofs.Tryz.func148, Go.Proofs.Tryz.func149, Go.Proofs.Tryz.func150, Go.Proofs.Tryz.func151, Go.Proofs.Tryz.func152, Go.Proofs.Tryz.func153, Go.Proofs.Tryz.func154, Go.Proofs.Tryz.func155, Go.Proofs.Tryz.func156, Go.Proofs.Tryz.func157, Go.Proofs.Tryz.func158, Go.Proofs.Tryz.func159, Go.Proofs.Tryz.func160, Go.Proofs.Tryz.func161, Go.Proofs.Tryz.func162, by simp⟩
theorem fnsOk8 : ∀ x ∈ fns8, fnB X x.1 x.2 = true := by
  simp only [fns8, List.forall_mem_cons]
  exact ⟨fn163, fn164, fn165, fn166, fn167, fn168, fn169, fn170, fn171, fn172, fn173, fn174, fn175, fn176, fn177, fn178, fn179, fn180, fn181, fn182, by simp⟩
theorem fnsAt8 : ∀ x ∈ fns8, Go.Proofs.Tryz.prog.funcs[x.1]? = some x.2 := by
  simp only [fns8, List.forall_mem_cons]
  exact ⟨Go.Proofs.Tryz.func163, Go.Proofs.Tryz.func164, Go.Proofs.Tryz.func165, Go.Proofs.Tryz.func166, Go.Proofs.Tryz.func167, Go.Proofs.Tryz.func168, Go.Proofs.Tryz.func169, Go.Proofs.Tryz.func170, Go.Proofs.Tryz.func171, Go.Proofs.Tryz.func172, Go.Proofs.Tryz.func173, Go.Proofs.Tryz.func174, Go.Proofs.Tryz.func175, Go.Proofs.Tryz.func176, Go.Proofs.Tryz.func177, Go.Proofs.Tryz.func178, Go.Proofs.Tryz.func179, Go.Proofs.Tryz.func180, Go.Proofs.Tryz.func181, Go.Proofs.Tryz.func182, by simp⟩
theorem fnsOk9 : ∀ x ∈ fns9, fnB X x.1 x.2 = true := by
  simp only [fns9, List.forall_mem_cons]
  exact ⟨fn183, fn184, fn185, fn186, fn187, fn188, fn189, fn190, fn191, fn192, fn193, fn194, fn195, fn196, fn197, fn198, fn199, fn200, fn201, fn202, by simp⟩
theorem fnsAt9 : ∀ x ∈ fns9, Go.Proofs.Tryz.prog.funcs[x.1]? = some x.2 := by
  simp only [fns9, List.forall_mem_cons]
  exact ⟨Go.Proofs.Tryz.func183, Go.Proofs.Tryz.func184, Go.Proofs.Tryz.func185, Go.Proofs.Tryz.func186, Go.Proofs.Tryz.func187, Go.Proofs.Tryz.func188, Go.Proofs.Tryz.func189, Go.Proofs.Tryz.func190, Go.Proofs.Tryz.func191, Go.Proofs.Tryz.func192, Go.Proofs.Tryz.func193, Go.Proofs.Tryz.func194, Go.Proofs.Tryz.func195, Go.Proofs.Tryz.func196, Go.Proofs.Tryz.func197, Go.Proofs.Tryz.func198, Go.Proofs.Tryz.func199, Go.Proofs.Tryz.func200, Go.Proofs.Tryz.func201, Go.Proofs.Tryz.func202, by simp⟩
theorem fnsOk10 : ∀ x ∈ fns10, fnB X x.1 x.2 = true := by
  simp only [fns10, List.forall_mem_cons]
  exact ⟨fn203, fn204, fn205, fn206, fn207, fn208, fn209, fn210, fn211, fn212, fn213, fn214, fn215, fn216, fn218, fn219, fn220, fn221, fn222, fn223, by simp⟩
theorem fnsAt10 : ∀ x ∈ fns10, Go.Proofs.Tryz.prog.funcs[x.1]? = some x.2 := by
  simp only [fns10, List.forall_mem_cons]
  exact ⟨Go.Proofs.Tryz.func203, Go.Proofs.Tryz.func204, Go.Proofs.Tryz.func205, Go.Proofs.Tryz.func206, Go.Proofs.Tryz.func207, Go.Proofs.Tryz.func208, Go.Proofs.Tryz.func209, Go.Proofs.Tryz.func210, Go.Proofs.Tryz.func211, Go.Proofs.Tryz.func212, Go.Proofs.Tryz.func213, Go.Proofs.Tryz.func214, Go.Proofs.Tryz.func215, Go.Proofs.Tryz.func216, Go.Proofs.Tryz.func218, Go.Proofs.Tryz.func219, Go.Proofs.Tryz.func220, Go.Proofs.Tryz.func221, Go.Proofs.Tryz.func222, Go.Proofs.Tryz.func223, by simp⟩
theorem fnsOk11 : ∀ x ∈ fns11, fnB X x.1 x.2 = true := by
  simp only [fns11, List.forall_mem_cons]
  exact ⟨fn224, fn225, fn226, fn227, fn228, fn229, fn230, fn231, fn232, fn233, fn234, fn235, fn236, fn237, fn238, fn239, fn240, fn241, fn242, fn243, by simp⟩
theorem fnsAt11 : ∀ x ∈ fns11, Go.Proofs.Tryz.prog.funcs[x.1]? = some x.2 := by
  simp only [fns11, List.forall_mem_cons]
  exact ⟨Go.Proofs.Tryz.func224, Go.Proofs.Tryz.func225, Go.Proofs.Tryz.func226, Go.Proofs.Tryz.func227, Go.Proofs.Tryz.func228, Go.Proofs.Tryz.func229, Go.Proofs.Tryz.func230, Go.Proofs.Tryz.func231, Go.Proofs.Tryz.func232, Go.Proofs.Tryz.func233, Go.Proofs.Tryz.func234, Go.Proofs.Tryz.func235, Go.Proofs.Tryz.func236, Go.Proofs.Tryz.func237, Go.Proofs.Tryz.func238, Go.Proofs.Tryz.func239, Go.Proofs.Tryz.func240, Go.Proofs.Tryz.func241, Go.Proofs.Tryz.func242, Go.Proofs.Tryz.func243, by simp⟩
theorem fnsOk12 : ∀ x ∈ fns12, fnB X x.1 x.2 = true := by
  simp only [fns12, List.forall_mem_cons]
  exact ⟨fn244, fn245, fn246, fn247, fn248, fn249, fn250, fn251, fn252, fn253, fn254, fn255, fn256, fn257, fn258, fn277, fn279, fn280, fn281, fn282, by simp⟩
theorem fnsAt12 : ∀ x ∈ fns12, Go.Proofs.Tryz.prog.funcs[x.1]? = some x.2 := by
  simp only [fns12, List.forall_mem_cons]
  exact ⟨Go.Proofs.Tryz.func244, Go.Proofs.Tryz.func245, Go.Proofs.Tryz.func246, Go.Proofs.Tryz.func247, Go.Proofs.Tryz.func248, Go.Proofs.Tryz.func249, Go.Proofs.Tryz.func250, Go.Proofs.Tryz.func251, Go.Proofs.Tryz.func252, Go.Proofs.Tryz.func253, Go.Proofs.Tryz.func254, Go.Proofs.Tryz.func255, Go.Proofs.Tryz.func256, Go.Proofs.Tryz.func257, Go.Proofs.Tryz.func258, Go.Proofs.Tryz.func277, Go.Proofs.Tryz.func279, Go.Proofs.Tryz.func280, Go.Proofs.Tryz.func281, Go.Proofs.Tryz.func282, by simp⟩
theorem fnsOk13 : ∀ x ∈ fns13, fnB X x.1 x.2 = true := by
  simp only [fns13, List.forall_mem_cons]
  exact ⟨fn283, fn284, fn285, fn286, fn287, fn288, fn289, by simp⟩
theorem fnsAt13 : ∀ x ∈ fns13, Go.Proofs.Tryz.prog.funcs[x.1]? = some x.2 := by
  simp only [fns13, List.forall_mem_cons]
  exact ⟨Go.Proofs.Tryz.func283, Go.Proofs.Tryz.func284, Go.Proofs.Tryz.func285, Go.Proofs.Tryz.func286, Go.Proofs.Tryz.func287, Go.Proofs.Tryz.func288, Go.Proofs.Tryz.func289, by simp⟩
theorem tables : Go.A.Tables Go.Proofs.Tryz.prog X tys fns exts meths where
  ext := by kernel_rfl
  exts := by
    simp only [exts, List.forall_mem_cons]
    exact ⟨fun _ args w => run_callFunc_extern Go.Proofs.Tryz.func217 (by kernel_rfl) (by kernel_rfl) (by kernel_rfl) (e := Extern.BytealgCompare.compare) (by kernel_rfl) args w, by simp⟩
  meth := by kernel_rfl
  meths := by kernel_rfl
  ty := by kernel_rfl
  fn := by kernel_rfl
  tys := mem_flat (by
    simp only [List.forall_mem_cons]
    exact ⟨tysOk0, tysOk1, tysOk2, tysOk3, tysOk4, tysOk5, tysOk6, tysOk7, tysOk8, tysOk9, tysOk10, tysOk11, tysOk12, tysOk13, tysOk14, tysOk15, tysOk16, tysOk17, tysOk18, tysOk19, by simp⟩)
  at_ := mem_flat (by
    simp only [List.forall_mem_cons]
    exact ⟨fnsAt0, fnsAt1, fnsAt2, fnsAt3, fnsAt4, fnsAt5, fnsAt6, fnsAt7, fnsAt8, fnsAt9, fnsAt10, fnsAt11, fnsAt12, fnsAt13, by simp⟩)
  fns := mem_flat (by
    simp only [List.forall_mem_cons]
    exact ⟨fnsOk0, fnsOk1, fnsOk2, fnsOk3, fnsOk4, fnsOk5, fnsOk6, fnsOk7, fnsOk8, fnsOk9, fnsOk10, fnsOk11, fnsOk12, fnsOk13, by simp⟩)
  mixed := by kernel_rfl
theorem ctx : CtxOk Go.Proofs.Tryz.prog X := tables.ctx
theorem codes : CodesOk X := tables.codes
theorem sound [Outer] (k : Nat) : CallsOk Go.Proofs.Tryz.prog (AEval X k) := AEval_ok ctx codes k
end Go.Proofs.YtgekgcffmmbhbaaGreat.T
