import Derived.Test.YtjhcgnmibnjocaaGreatGW
import Derived.Deep.CutBlock
import Derived.Laws.Tables
/-! Several texts in one. -/
set_option linter.unusedVariables false
set_option linter.unusedSimpArgs false
namespace Go.Proofs.YtjhcgnmibnjocaaGreat
open Go.RowKit Go.Maps
def cgO : List Bool → Code → Option Code
 | [], c => some c
 | false :: p, .seq a _ => cgO p a
 | true :: p, .seq _ b => cgO p b
 | false :: p, .block _ c => cgO p c
 | false :: p, .loop c => cgO p c
 | false :: p, .cond _ a _ => cgO p a
 | true :: p, .cond _ _ b => cgO p b
 | _, _ => none
def cg (p : List Bool) (b : Option Code) : Code := (b.bind (cgO p)).getD .skip
theorem wp_path {P : Program} {p : List Bool} {b : Option Code} {c : Code} {Q : Exit → Act → World → Prop} {a : Act} {w : World} (h : b.bind (cgO p) = some c) (hw : Code.wp P c Q a w) : Code.wp P (cg p b) Q a w := by
 unfold cg
 rw [h]
 exact hw
theorem wp_unpath {P : Program} (p : List Bool) (b : Option Code) {c : Code} {Q : Exit → Act → World → Prop} {a : Act} {w : World} (h : b.bind (cgO p) = some c) (hw : Code.wp P (cg p b) Q a w) : Code.wp P c Q a w := by
 unfold cg at hw
 rw [h] at hw
 exact hw
theorem Blk.row {w : World} {g : Nat} {t : TypeId} {old cs : Array Value} (h : Blk w g t old) (_ : old.size = cs.size) : Blk (w.setRow g cs) g t cs := setRow_heap w g old cs t (0, 0) h
theorem Kp.row (w : World) (g : Nat) (cs : Array Value) : Kp (fun k => k = g) w (w.setRow g cs) := by
 refine ⟨rfl, rfl, rfl, ?_, fun k hk hne => ?_⟩
 ·simp [World.setRow]
 ·show (w.heap.modify g _)[k]? = _
  rw [Array.getElem?_modify, if_neg (fun e => hne e.symm)]
def ArmQ (id : Int) (k j pm p : Nat) (w : World) (A8 : Option Addr) (n8 c8 : Nat) (L : List (List Nat)) (y1 y2 y3 y4 y6 y39 y40 y41 y42 y43 y44 y45 y46 y47 y48 y49 y50 y51 y52 y53 y54 y55 y56 y57 y58 y59 y60 y61 y62 y63 y64 y65 y66 y67 y68 y69 y70 y71 y72 y73 : Value) (Q : Exit → Act → World → Prop) : Prop :=
 ∀ {z13 z14 z15 z16 z17 z18 z19 z20 z21 z22 z23 z24 z25 z26 z27 z28 z29 z30 z31 z32 z33 z34 z35 z36 z37 z38 z74 z75 z76 z77 z78 z79 z80 z81 z82 z83 z84 z85 z86 z87 z88 z89 z90 z91 z92 z93 z94 z95 z96 z97 z98 z99 z100 z101 z102 z103 z104 z105 z106 z107 z108 z109 z110 z111 z112 z113 z114 z115 z116 z117 z118 z119 z120 z121 z122 z123 z124 z125 z126 z127 z128 z129 z130 z131 z132 z133 z134 z135 z136 z137 z138 z139 z140 z141 z142 z143 z144 z145 z146 z147 z148 z149 z150 z151 z152 z153 z154 z155 z156 z157 z158 z159 z160 z161 z162 z163 z164 z165 z166 z167 z168 z169 z170 z171 z172 z173 z174 z175 z176 z177 z178 z179 z180 z181 z182 z183 z184 z185 z186 z187 z188 z189 z190 z191 z192 z193 z194 z195 z196 z197 z198 z199 z200 z201 z202 z203 z204 z205 z206 z207 z208 z209 z210 z211 z212 z213 z214 z215 z216 z217 z218 z219 z220 z221 z222 z223 z224 z225 z226 z227 z228 z229 z230 z231 z232 z233 z234 z235 z236 z237 z238 z239 z240 z241 z242 z243 z244 z245 z246 z247 z248 z249 z250 z251 z252 z253 z254 z255 z256 z257 z258 z259 z260 z261 z262 z263 z264 z265 z266 z267 z268 z269 z270 z271 z272 z273 z274 z275 z276 z277 z278 z279 z280 z281 z282 z283 z284 z285 z286 z287 z288 z289 z290 z291 : Value} {g' : Nat} {r' : Rl} {A6 B1 : Option Addr} {n6 c6 m1 d1 : Nat} {R : List (List Nat)} {W8 : World}, Mid w W8 g' pm r' (.slice A8 n8 c8) L R A6 n6 B1 m1 → Pin k (j + 1) r' (L ++ R) → Sr R → Q .normal ⟨#[.int .i64 id, y1, y2, y3, y4, .pointer (some ⟨g', 0, none⟩), y6, .pointer (some ⟨pm, 0, none⟩), .slice A8 n8 c8, .int .i64 (j : Int), .pointer (some ⟨p, 0, none⟩), .slice A6 n6 c6, .slice B1 m1 d1, z13, z14, z15, z16, z17, z18, z19, z20, z21, z22, z23, z24, z25, z26, z27, z28, z29, z30, z31, z32, z33, z34, z35, z36, z37, z38, y39, y40, y41, y42, y43, y44, y45, y46, y47, y48, y49, y50, y51, y52, y53, y54, y55, y56, y57, y58, y59, y60, y61, y62, y63, y64, y65, y66, y67, y68, y69, y70, y71, y72, y73, z74, z75, z76, z77, z78, z79, z80, z81, z82, z83, z84, z85, z86, z87, z88, z89, z90, z91, z92, z93, z94, z95, z96, z97, z98, z99, z100, z101, z102, z103, z104, z105, z106, z107, z108, z109, z110, z111, z112, z113, z114, z115, z116, z117, z118, z119, z120, z121, z122, z123, z124, z125, z126, z127, z128, z129, z130, z131, z132, z133, z134, z135, z136, z137, z138, z139, z140, z141, z142, z143, z144, z145, z146, z147, z148, z149, z150, z151, z152, z153, z154, z155, z156, z157, z158, z159, z160, z161, z162, z163, z164, z165, z166, z167, z168, z169, z170, z171, z172, z173, z174, z175, z176, z177, z178, z179, z180, z181, z182, z183, z184, z185, z186, z187, z188, z189, z190, z191, z192, z193, z194, z195, z196, z197, z198, z199, z200, z201, z202, z203, z204, z205, z206, z207, z208, z209, z210, z211, z212, z213, z214, z215, z216, z217, z218, z219, z220, z221, z222, z223, z224, z225, z226, z227, z228, z229, z230, z231, z232, z233, z234, z235, z236, z237, z238, z239, z240, z241, z242, z243, z244, z245, z246, z247, z248, z249, z250, z251, z252, z253, z254, z255, z256, z257, z258, z259, z260, z261, z262, z263, z264, z265, z266, z267, z268, z269, z270, z271, z272, z273, z274, z275, z276, z277, z278, z279, z280, z281, z282, z283, z284, z285, z286, z287, z288, z289, z290, z291], []⟩ W8
theorem ArmQ.go {id : Int} {k j pm p : Nat} {w : World} {A8 : Option Addr} {n8 c8 : Nat} {L : List (List Nat)} {y1 y2 y3 y4 y6 y39 y40 y41 y42 y43 y44 y45 y46 y47 y48 y49 y50 y51 y52 y53 y54 y55 y56 y57 y58 y59 y60 y61 y62 y63 y64 y65 y66 y67 y68 y69 y70 y71 y72 y73 : Value} {Q : Exit → Act → World → Prop} (h : ArmQ id k j pm p w A8 n8 c8 L y1 y2 y3 y4 y6 y39 y40 y41 y42 y43 y44 y45 y46 y47 y48 y49 y50 y51 y52 y53 y54 y55 y56 y57 y58 y59 y60 y61 y62 y63 y64 y65 y66 y67 y68 y69 y70 y71 y72 y73 Q)
  {z13 z14 z15 z16 z17 z18 z19 z20 z21 z22 z23 z24 z25 z26 z27 z28 z29 z30 z31 z32 z33 z34 z35 z36 z37 z38 z74 z75 z76 z77 z78 z79 z80 z81 z82 z83 z84 z85 z86 z87 z88 z89 z90 z91 z92 z93 z94 z95 z96 z97 z98 z99 z100 z101 z102 z103 z104 z105 z106 z107 z108 z109 z110 z111 z112 z113 z114 z115 z116 z117 z118 z119 z120 z121 z122 z123 z124 z125 z126 z127 z128 z129 z130 z131 z132 z133 z134 z135 z136 z137 z138 z139 z140 z141 z142 z143 z144 z145 z146 z147 z148 z149 z150 z151 z152 z153 z154 z155 z156 z157 z158 z159 z160 z161 z162 z163 z164 z165 z166 z167 z168 z169 z170 z171 z172 z173 z174 z175 z176 z177 z178 z179 z180 z181 z182 z183 z184 z185 z186 z187 z188 z189 z190 z191 z192 z193 z194 z195 z196 z197 z198 z199 z200 z201 z202 z203 z204 z205 z206 z207 z208 z209 z210 z211 z212 z213 z214 z215 z216 z217 z218 z219 z220 z221 z222 z223 z224 z225 z226 z227 z228 z229 z230 z231 z232 z233 z234 z235 z236 z237 z238 z239 z240 z241 z242 z243 z244 z245 z246 z247 z248 z249 z250 z251 z252 z253 z254 z255 z256 z257 z258 z259 z260 z261 z262 z263 z264 z265 z266 z267 z268 z269 z270 z271 z272 z273 z274 z275 z276 z277 z278 z279 z280 z281 z282 z283 z284 z285 z286 z287 z288 z289 z290 z291 : Value} {g' : Nat} {r' : Rl} {A6 B1 : Option Addr} {n6 c6 m1 d1 : Nat} {R : List (List Nat)} {W8 : World} (h1 : Mid w W8 g' pm r' (.slice A8 n8 c8) L R A6 n6 B1 m1) (h2 : Pin k (j + 1) r' (L ++ R)) (h3 : Sr R) : Q .normal ⟨#[.int .i64 id, y1, y2, y3, y4, .pointer (some ⟨g', 0, none⟩), y6, .pointer (some ⟨pm, 0, none⟩), .slice A8 n8 c8, .int .i64 (j : Int), .pointer (some ⟨p, 0, none⟩), .slice A6 n6 c6, .slice B1 m1 d1, z13, z14, z15, z16, z17, z18, z19, z20, z21, z22, z23, z24, z25, z26, z27, z28, z29, z30, z31, z32, z33, z34, z35, z36, z37, z38, y39, y40, y41, y42, y43, y44, y45, y46, y47, y48, y49, y50, y51, y52, y53, y54, y55, y56, y57, y58, y59, y60, y61, y62, y63, y64, y65, y66, y67, y68, y69, y70, y71, y72, y73, z74, z75, z76, z77, z78, z79, z80, z81, z82, z83, z84, z85, z86, z87, z88, z89, z90, z91, z92, z93, z94, z95, z96, z97, z98, z99, z100, z101, z102, z103, z104, z105, z106, z107, z108, z109, z110, z111, z112, z113, z114, z115, z116, z117, z118, z119, z120, z121, z122, z123, z124, z125, z126, z127, z128, z129, z130, z131, z132, z133, z134, z135, z136, z137, z138, z139, z140, z141, z142, z143, z144, z145, z146, z147, z148, z149, z150, z151, z152, z153, z154, z155, z156, z157, z158, z159, z160, z161, z162, z163, z164, z165, z166, z167, z168, z169, z170, z171, z172, z173, z174, z175, z176, z177, z178, z179, z180, z181, z182, z183, z184, z185, z186, z187, z188, z189, z190, z191, z192, z193, z194, z195, z196, z197, z198, z199, z200, z201, z202, z203, z204, z205, z206, z207, z208, z209, z210, z211, z212, z213, z214, z215, z216, z217, z218, z219, z220, z221, z222, z223, z224, z225, z226, z227, z228, z229, z230, z231, z232, z233, z234, z235, z236, z237, z238, z239, z240, z241, z242, z243, z244, z245, z246, z247, z248, z249, z250, z251, z252, z253, z254, z255, z256, z257, z258, z259, z260, z261, z262, z263, z264, z265, z266, z267, z268, z269, z270, z271, z272, z273, z274, z275, z276, z277, z278, z279, z280, z281, z282, z283, z284, z285, z286, z287, z288, z289, z290, z291], []⟩ W8 := h h1 h2 h3
def Arm (K : Int → Prop) : Prop := ∀ {id : Int} {k j g pm p : Nat} {w W3 : World} {S T : Nat → Prop} {r : Rl} {A8 Am B C A1 A2 B2 uA : Option Addr} {n8 c8 cm d f0 c1 c2 d2 uc : Nat} {L : List (List Nat)} {kd f : Int} {v : Vi} {t : List Nat} {m : Mg} {Q : Exit → Act → World → Prop} {y1 y2 y3 y4 y6 y13 y14 y15 y16 y17 y18 y19 y20 y21 y22 y23 y24 y25 y26 y27 y28 y29 y30 y31 y32 y33 y34 y35 y36 y37 y38 y39 y40 y41 y42 y43 y44 y45 y46 y47 y48 y49 y50 y51 y52 y53 y54 y55 y56 y57 y58 y59 y60 y61 y62 y63 y64 y65 y66 y67 y68 y69 y70 y71 y72 y73 y74 y75 y76 y77 y78 y79 y80 y81 y82 y83 y84 y85 y86 y87 y88 y89 y90 y91 y92 y93 y94 y95 y96 y97 y98 y99 y101 y102 y103 y104 y105 y106 y107 y108 y109 y110 y111 y112 y113 y114 y115 y116 y117 y118 y119 y120 y121 y122 y123 y124 y125 y126 y127 y128 y129 y130 y131 y132 y133 y134 y135 y136 y137 y138 y139 y140 y141 y142 y143 y144 y145 y146 y147 y148 y149 y150 y151 y152 y153 y154 y155 y156 y157 y158 y159 y160 y161 y162 y163 y164 y165 y166 y167 y168 y169 y170 y171 y172 y173 y174 y175 y176 y177 y178 y179 y180 y181 y182 y183 y184 y185 y186 y187 y188 y189 y190 y191 y192 y193 y194 y195 y196 y197 y198 y199 y200 y201 y202 y203 y204 y205 y206 y207 y208 y209 y210 y211 y212 y213 y214 y215 y216 y217 y218 y219 y220 y221 y222 y223 y224 y225 y226 y227 y228 y229 y230 y231 y232 y233 y234 y235 y236 y237 y238 y239 y240 y241 y242 y243 y244 y245 y246 y247 y248 y249 y250 y251 y252 y253 y254 y255 y256 y257 y258 y259 y260 y261 y262 y263 y264 y265 y266 y267 y268 y269 y270 y271 y272 y273 y274 y275 y276 y277 y278 y279 y280 y281 y282 y283 y284 y285 y286 y287 y288 y289 y290 y291 : Value}
  (hk : (k : Int) = id) (hk0 : 0 ≤ id ∧ id < 8) (hPin : Pin k j r L) (b1 : ¬50 ≤ j) (b3 : ¬200 < t.length) (b4 : ¬20 < v.l.length) (hl1 : m.log.length ≤ 30) (hl2 : m.v.l.length ≤ 20) (hl3 : ∀ x ∈ m.log, x.t.length ≤ 200)
  (hv1 : Reads w w.heap.size 1 A1 v.l.length (ints v.l)) (hv2 : v.ok) (hv3 : v.l.length ≤ 17592186044416) (hU : Bsl w (fun k => w.heap.size ≤ k) (.slice uA t.length uc) t) (hun : t.length ≤ 140737488351232)
  (hm1 : Reads w w.heap.size 1 A2 m.v.l.length (ints m.v.l)) (hm2 : m.v.ok) (hm3 : m.v.l.length ≤ 17592186044416) (hE : Ents0 w (fun k => w.heap.size ≤ k) B2 m.log.length m.log) (hEn : m.log.length ≤ 17592186044416) (hi : I64 m.k ∧ I64 m.e ∧ I64 m.i ∧ I64 m.s) (hf : I64 f) (hcpx : m.log.length ≤ d2)
  (hpw : w.heap.size ≤ p) (hpo : pm < p) (hTp : ∀ k, T k → k < p)
  (hP3 : PlX w W3 S T g pm r r (.slice A8 n8 c8) (.slice Am r.v.l.length cm) (.slice B r.log.length d) (.slice C r.acks.length f0) L) (hO3 : Blk W3 p 40 #[.int .i64 kd, .int .i64 v.e, .int .i64 v.p, .slice A1 v.l.length c1, .slice uA t.length uc, .int .i64 f, .int .i64 m.k, .int .i64 m.e, .int .i64 m.v.e, .int .i64 m.v.p, .slice A2 m.v.l.length c2, .int .i64 m.i, .int .i64 m.s, .slice B2 m.log.length d2])
  (hQ : ArmQ id k j pm p w A8 n8 c8 L y1 y2 y3 y4 y6 y39 y40 y41 y42 y43 y44 y45 y46 y47 y48 y49 y50 y51 y52 y53 y54 y55 y56 y57 y58 y59 y60 y61 y62 y63 y64 y65 y66 y67 y68 y69 y70 y71 y72 y73 Q) (_ : K kd), Code.wp Tryz.prog (cg [true, true, true, true, true, true, false, true, false, false, true, true, false, false, true, true, true, false, true] Tryz.f3.body) Q ⟨#[.int .i64 id, y1, y2, y3, y4, .pointer (some ⟨g, 0, none⟩), y6, .pointer (some ⟨pm, 0, none⟩), .slice A8 n8 c8, .int .i64 (j : Int), .pointer (some ⟨p, 0, none⟩), .slice none 0 0, .slice none 0 0, y13, y14, y15, y16, y17, y18, y19, y20, y21, y22, y23, y24, y25, y26, y27, y28, y29, y30, y31, y32, y33, y34, y35, y36, y37, y38, y39, y40, y41, y42, y43, y44, y45, y46, y47, y48, y49, y50, y51, y52, y53, y54, y55, y56, y57, y58, y59, y60, y61, y62, y63, y64, y65, y66, y67, y68, y69, y70, y71, y72, y73, y74, y75, y76, y77, y78, y79, y80, y81, y82, y83, y84, y85, y86, y87, y88, y89, y90, y91, y92, y93, y94, y95, y96, y97, y98, y99, .int .i64 kd, y101, y102, y103, y104, y105, y106, y107, y108, y109, y110, y111, y112, y113, y114, y115, y116, y117, y118, y119, y120, y121, y122, y123, y124, y125, y126, y127, y128, y129, y130, y131, y132, y133, y134, y135, y136, y137, y138, y139, y140, y141, y142, y143, y144, y145, y146, y147, y148, y149, y150, y151, y152, y153, y154, y155, y156, y157, y158, y159, y160, y161, y162, y163, y164, y165, y166, y167, y168, y169, y170, y171, y172, y173, y174, y175, y176, y177, y178, y179, y180, y181, y182, y183, y184, y185, y186, y187, y188, y189, y190, y191, y192, y193, y194, y195, y196, y197, y198, y199, y200, y201, y202, y203, y204, y205, y206, y207, y208, y209, y210, y211, y212, y213, y214, y215, y216, y217, y218, y219, y220, y221, y222, y223, y224, y225, y226, y227, y228, y229, y230, y231, y232, y233, y234, y235, y236, y237, y238, y239, y240, y241, y242, y243, y244, y245, y246, y247, y248, y249, y250, y251, y252, y253, y254, y255, y256, y257, y258, y259, y260, y261, y262, y263, y264, y265, y266, y267, y268, y269, y270, y271, y272, y273, y274, y275, y276, y277, y278, y279, y280, y281, y282, y283, y284, y285, y286, y287, y288, y289, y290, y291], []⟩ W3
end Go.Proofs.YtjhcgnmibnjocaaGreat

namespace Go.Proofs.YtjhcgnmibnjocaaGreat
open Go.RowKit Go.Maps
set_option maxRecDepth 100000 in
set_option maxHeartbeats 40000000 in
theorem arm0 : Arm (fun kd => kd = 0) := by
 unfold Arm
 intro id k j g pm p w W3 S T r A8 Am B C A1 A2 B2 uA n8 c8 cm d f0 c1 c2 d2 uc L kd f v t m Q y1 y2 y3 y4 y6
 iterate 278 intro _
 intro hk hk0 hPin b1 b3 b4 hl1 hl2 hl3 hv1 hv2 hv3 hU hun hm1 hm2 hm3 hE hEn hi hf hcpx hpw hpo hTp hP3 hO3 hQ hK
 have k0 : kd = 0 := hK
 clear hK
 have hbW := hP3.b
 have hsW := hbW.size
 have cO := hO3.cell
 have lO := hO3.lt
 have hkW := Kp.of_below (S := fun k => w.heap.size ≤ k) hbW
 have hrok := hP3.rel.sub.2.2.1
 have hn4 := hrok.n
 have hA1l : 0 < v.l.length → ∀ a, A1 = some a → a.block < w.heap.size := fun h0 a ha => by
  obtain ⟨a', e', hl', _⟩ := hv1.2 h0
  rw [ha] at e'; cases e'; exact hl'
 have hL7 : L.length ≤ 1000000 := by have := hPin.ln; omega
 refine wp_path rfl ?_
 subst k0
 have hto := vto_any v.e v.p A1 v.l.length c1 v.l W3 (Reads.kp hv1 (Kp.of_below (S := fun _ => False) hbW) (fun _ _ _ h => h)) (by omega)
 have hee : ((leadP r v).e != (leadP r v).e) = false := by simp
 have hPn := hPin.lead v
 have hSr := sr_lead r v
 go_upto_region 63 with (first | (go_at_call 8; (with_reducible refine hto.mono ?_); rintro e w5 ⟨⟨v5, rfl, ho5⟩, hb5⟩; obtain ⟨A5, c5, rfl, _⟩ := own_sl ho5; have hP5 := hP3.below hb5) | (go_at_call 7; (with_reducible refine (lead_any A5 c5 v w5 hP5.rel (Reads.of_own ho5) (fun h0 a ha hs => by have := (own_addr ho5 a ha).1; have := hP3.lt _ (hP3.rel.sub.1 _ hs); omega) (by omega)).mono ?_); rintro e w6 hA6; obtain ⟨S6, hP6, s6, ⟨A6, n6, c6, rfl, hR6⟩, hk6, hs6⟩ := hP5.aft hA6; have hO6 := Blk.kp (hO3.below hb5 lO) hk6 (fun e => by have := hTp _ (hP3.rel.sub.1 _ e); omega); have cO6 := hO6.cell; have lO6 := hO6.lt; have cP6 := hP6.blk.cell; have lP6 := hP6.blk.lt) | (go_at_call 9; (with_reducible refine (dlead_any r v _ _ _ A1 c1 w6 hP6.dr hP6.lt (Reads.kp hv1 (Kp.of_below (S := fun _ => False) hP6.b) (fun _ _ _ h => h)) (fun h0 a ha ht => by have := hP6.tb _ ht; have := hA1l h0 a ha; omega) hn4 (by omega) hv2.l hv2.p).mono ?_); rintro e w7 ⟨vm', va', B1, m1, d1, rfl, hR7, hD7, hb7⟩; obtain ⟨Bm, cm', rfl⟩ := hD7.slm; obtain ⟨Ba, ca', rfl⟩ := hD7.sla; have hP7 := hP6.below hb7; have cP7 := hP7.blk.cell; have fP7 := hP7.blk.frozen; have lP7 := hP7.blk.lt))
 have hP8 := hP7.set_ hD7 (Kp.nine w7 pm _ _ _ _ _ _ _ _ _) (Blk.nine hP7.blk)
 have hkN : ∀ a0 a1 a2 a3 a4 a5 a6 a7 a8 : Value, Kp (fun k => T k ∨ S6 k) w7 _ := fun a0 a1 a2 a3 a4 a5 a6 a7 a8 => (Kp.nine w7 pm a0 a1 a2 a3 a4 a5 a6 a7 a8).weaken (fun k hk => by rw [hk]; exact hP7.tp.1)
 refine abstr (fun W => Mid w W g pm (leadP r v).r (.slice A8 n8 c8) L (leadP r v).recs A6 n6 B1 m1) ⟨S6, _, _, _, _, hP8, (hR6.kp (Kp.of_below hb7)).kp (hkN _ _ _ _ _ _ _ _ _), hR7.kp (hkN _ _ _ _ _ _ _ _ _)⟩ (fun W8 hW8 => ?_)
 clear hkN hP8 hP7 cP7 fP7 lP7 hR7 hD7 hb7 hO6 cO6 lO6 cP6 lP6 hP6 hR6 hA6 hk6 hs6 s6 hP5 ho5 hb5 hto hee hP3 hO3 cO lO
 generalize (leadP r v).r = r' at *
 generalize (leadP r v).recs = R at *
 obtain ⟨g', rfl⟩ : ∃ g', g' = g := ⟨_, rfl⟩
 exact hQ.go hW8 hPn hSr
end Go.Proofs.YtjhcgnmibnjocaaGreat

namespace Go.Proofs.YtjhcgnmibnjocaaGreat
open Go.RowKit Go.Maps
set_option maxRecDepth 100000 in
set_option maxHeartbeats 40000000 in
theorem arm2 : Arm (fun kd => kd = 2) := by
 unfold Arm
 intro id k j g pm p w W3 S T r A8 Am B C A1 A2 B2 uA n8 c8 cm d f0 c1 c2 d2 uc L kd f v t m Q y1 y2 y3 y4 y6
 iterate 278 intro _
 intro hk hk0 hPin b1 b3 b4 hl1 hl2 hl3 hv1 hv2 hv3 hU hun hm1 hm2 hm3 hE hEn hi hf hcpx hpw hpo hTp hP3 hO3 hQ hK
 have k2 : kd = 2 := hK
 clear hK
 have hbW := hP3.b
 have hsW := hbW.size
 have cO := hO3.cell
 have lO := hO3.lt
 have hkW := Kp.of_below (S := fun k => w.heap.size ≤ k) hbW
 have hrok := hP3.rel.sub.2.2.1
 have hn4 := hrok.n
 have hA1l : 0 < v.l.length → ∀ a, A1 = some a → a.block < w.heap.size := fun h0 a ha => by
  obtain ⟨a', e', hl', _⟩ := hv1.2 h0
  rw [ha] at e'; cases e'; exact hl'
 have hL7 : L.length ≤ 1000000 := by have := hPin.ln; omega
 refine wp_path rfl ?_
 subst k2
 have hPn := hPin.none
 have hSr := Sr.nil
 have hTo := tick_outs r hrok
 obtain ⟨Am3, cm3, vl3, mb3, hX3⟩ := hP3.rel.2
 have lP3 := hP3.blk.lt
 go_upto_region 34 with fail
 refine wp_region_tree_below W3.heap.size [3] [0, 6] (.leaf [(true, false, 0), (true, true, 3), (false, true, 1), (false, true, 2), (false, false, 4), (false, false, 5), (true, false, 6)]) (by kernel_rfl) (by kernel_rfl) (fun X => ?_); simp only [First.wpT, List.map_cons, List.map_nil, List.getD_cons_zero, List.getD_cons_succ]
 have hBV := hP3.blk.ext X
 have hbX : Below W3.heap.size W3 (W3.ext X) := World.below_ext _ _
 have hXX := hX3.below hbX
 have hDX := hP3.dr.kp (Kp.of_below hbX)
 have hTX : ∀ k, T k → k < (W3.ext X).heap.size := fun k hk => by have := hP3.lt k hk; have := hbX.size; omega
 have hTk := tick_any (W3.ext X) hXX hrok
 have hDk := fun W (hW : Below (W3.ext X).heap.size (W3.ext X) W) => dtick_any r _ _ _ W (hDX.kp (Kp.of_below hW)) (fun k hk => by have := hTX k hk; have := hW.size; omega) hrok
 generalize tickP r = TO at *
 (repeat (first | (refine wfp fun K hK => ?_; go_simp; refine hK _ _ ?_; clear hK K) | (refine wff fun K hK => ?_; go_simp; refine hK _ _ ?_; clear hK K)))
 (refine first_read rfl (v := .agg #[.int .i64 r.id, .int .i64 r.v.e, .int .i64 r.v.p, (.slice Am r.v.l.length cm), (.slice B r.log.length d), .int .i64 r.joined, .int .i64 (r.sure : Int), (.slice C r.acks.length f0), .bool r.act]) (fun w' hw' => ?_) (fun K hK => ?_); rotate_left 1; go_simp; refine hK _ _ ?_; clear hK K; rotate_left 1; (have hB' := Blk.below hBV hw' lP3; have c' := Blk.cell hB'; go_simp))
 (repeat (first | (refine wfp fun K hK => ?_; go_simp; refine hK _ _ ?_; clear hK K) | (refine wff fun K hK => ?_; go_simp; refine hK _ _ ?_; clear hK K)))
 have hsX := hbX.size
 have hbXw := hP3.below hbX
 clear hBV
 generalize W3.ext X = V at *
 refine First.wpF_must (fun K hK => ?_)
 go_wp2_with (go_at_call 14; (with_reducible refine hTk.mono ?_); rintro e w5 ⟨⟨A5, c5, rfl, hO5⟩, hb5⟩)
 (refine hK _ _ (fun hnd => by first | exact Bool.noConfusion hnd | exact hb5.mono hsX) ?_; clear hK K)
 have s5 := hb5.size
 (repeat (first | (refine wfp fun K hK => ?_; go_simp; refine hK _ _ ?_; clear hK K) | (refine wff fun K hK => ?_; go_simp; refine hK _ _ ?_; clear hK K)))
 have hT5 : ∀ k, T k → k < w5.heap.size := fun k hk => by have := hTX k hk; omega
 have hOt := outs_any A5 TO.length c5 TO w5 hO5 hT5 (by omega) (fun x hx => by have := (hTo.2 x hx).1; omega)
 refine First.wpF_must (fun K hK => ?_)
 go_wp2_with (go_at_call 13; (with_reducible refine hOt.mono ?_); rintro e w6 ⟨A6, c6, rfl, hO6, hb6⟩)
 (refine hK _ _ (fun hnd => by first | exact Bool.noConfusion hnd | exact hb6.mono (by omega)) ?_; clear hK K)
 have s6 := hb6.size
 have hb56 := hb5.trans (hb6.mono s5)
 (repeat (first | (refine wfp fun K hK => ?_; go_simp; refine hK _ _ ?_; clear hK K) | (refine wff fun K hK => ?_; go_simp; refine hK _ _ ?_; clear hK K)))
 refine First.wpF_must (fun K hK => ?_)
 go_wp2_with (go_at_call 15; (with_reducible refine (hDk w6 hb56).mono ?_); rintro e w7 ⟨A7, c7, rfl, hO7, hb7⟩)
 (refine hK _ _ (fun hnd => by first | exact Bool.noConfusion hnd | exact hb7.mono (by omega)) ?_; clear hK K)
 have s7 := hb7.size
 have hb57 := hb56.trans (hb7.mono (by omega))
 (repeat (first | (refine wfp fun K hK => ?_; go_simp; refine hK _ _ ?_; clear hK K) | (refine wff fun K hK => ?_; go_simp; refine hK _ _ ?_; clear hK K)))
 have hSo := dsameouts_any A6 A7 TO.length c6 c7 TO w7 (hO6.kp (Kp.of_below hb7)) hO7 (by omega) (fun x hx => by have := hTo.2 x hx; omega)
 refine First.wpF_must (fun K hK => ?_)
 go_wp2_with (go_at_call 12; (with_reducible refine hSo.mono ?_); rintro e w9 ⟨rfl, hb9⟩)
 (refine hK _ _ (fun hnd => by first | exact Bool.noConfusion hnd | exact hb9.mono (by omega)) ?_; clear hK K)
 (repeat (first | (refine wfp fun K hK => ?_; go_simp; refine hK _ _ ?_; clear hK K) | (refine wff fun K hK => ?_; go_simp; refine hK _ _ ?_; clear hK K)))
 refine First.wpF_nil ?_
 go_upto_region 63 with fail
 obtain ⟨R, hR⟩ : ∃ R : List (List Nat), R = [] := ⟨_, rfl⟩
 refine abstr (fun W => Mid w W g pm r (.slice A8 n8 c8) L [] none 0 none 0) ⟨S, T, _, _, _, (hbXw.below hb57).below hb9, Recs.nil _ _, Recs.nil _ _⟩ (fun W8 hW8 => ?_)
 rw [← hR] at hW8 hPn hSr
 obtain ⟨r', hr'⟩ : ∃ r', r' = r := ⟨_, rfl⟩
 rw [← hr'] at hW8 hPn
 obtain ⟨g', rfl⟩ : ∃ g', g' = g := ⟨_, rfl⟩
 clear hP3 hO3 cO lO hR hr' hSo hb9 hb57 hb7 hO7 hO6 hb6 hO5 hb5 hb56 hOt hDk hTk hXX hDX hTX hbXw hbX hX3 hT5 hTo
 exact hQ.go hW8 hPn hSr
end Go.Proofs.YtjhcgnmibnjocaaGreat

namespace Go.Proofs.YtjhcgnmibnjocaaGreat
open Go.RowKit Go.Maps
set_option maxRecDepth 100000 in
set_option maxHeartbeats 40000000 in
theorem arm4 : Arm (fun kd => kd = 4) := by
 unfold Arm
 intro id k j g pm p w W3 S T r A8 Am B C A1 A2 B2 uA n8 c8 cm d f0 c1 c2 d2 uc L kd f v t m Q y1 y2 y3 y4 y6
 iterate 278 intro _
 intro hk hk0 hPin b1 b3 b4 hl1 hl2 hl3 hv1 hv2 hv3 hU hun hm1 hm2 hm3 hE hEn hi hf hcpx hpw hpo hTp hP3 hO3 hQ hK
 have k4 : kd = 4 := hK
 clear hK
 have hbW := hP3.b
 have hsW := hbW.size
 have cO := hO3.cell
 have lO := hO3.lt
 have hkW := Kp.of_below (S := fun k => w.heap.size ≤ k) hbW
 have hrok := hP3.rel.sub.2.2.1
 have hn4 := hrok.n
 have hA1l : 0 < v.l.length → ∀ a, A1 = some a → a.block < w.heap.size := fun h0 a ha => by
  obtain ⟨a', e', hl', _⟩ := hv1.2 h0
  rw [ha] at e'; cases e'; exact hl'
 have hL7 : L.length ≤ 1000000 := by have := hPin.ln; omega
 refine wp_path rfl ?_
 subst k4
 go_upto_region 58 with fail
 obtain ⟨Aa, na, ca, ea, hRk⟩ := (hP3.own.sub (T' := fun k => W3.heap.size ≤ k) (fun k hk ht => by omega)).recs2 (fun k hk ht => by have := hP3.lt k (hP3.ow k hk).1; omega)
 have ea' : A8 = Aa ∧ n8 = na ∧ c8 = ca := by simp only [Value.slice.injEq] at ea; exact ea
 rw [← ea'.1, ← ea'.2.1] at hRk
 clear ea ea'
 obtain ⟨ρ, hρ, hρ2⟩ := id_ hPin.k
 have hKp := hPin.k
 have hLb : ∀ b ∈ L, b.length ≤ 1000000 := fun b hb => by have := hPin.lb b hb; omega
 have hna : n8 ≤ 1000000 := by have := hRk.len; omega
 obtain ⟨LL, hLL⟩ : ∃ LL, LL = L := ⟨_, rfl⟩
 rw [← hLL] at hRk hKp hLb hρ
 clear hLL
 obtain ⟨W4, rfl⟩ : ∃ W4, W4 = W3 := ⟨_, rfl⟩
 have hP4 := hP3
 have hld := load_far id A8 n8 c8 LL W4 hk0 hRk (fun k hk => hk) (by omega) hLb
 have hdl := fun (T' : Nat → Prop) (w5 : World) (hb5 : Below W4.heap.size W4 w5) (hl5 : ∀ k, T' k → k < w5.heap.size) => dload_any (T := T') id A8 n8 c8 LL w5 hk0 (hRk.kp (Kp.of_below hb5)) hl5 (by omega) hLb
 have hPn := hPin.load hKp hρ
 have hρ' := hide (show restores (newP id) LL = some ρ by rw [← hk]; exact hρ)
 clear hρ
 rw [hρ'.out] at hld
 go_upto_region 59 with (go_at_call 20; (with_reducible refine hld.mono ?_); rintro e w5 ⟨hb5, hL5⟩; obtain ⟨g', rfl, hRl⟩ := loadedF_some hL5; obtain ⟨S', hP5⟩ := hP4.load hb5 hRl)
 go_upto_region 62 with (first | (go_at_call 21; (with_reducible refine (hdl (fun k => T k ∨ S' k) w5 hb5 hP5.lt).mono ?_); rintro e w6 ⟨hb6, hL6⟩; rw [hρ'.out] at hL6; obtain ⟨vm', vl', va', rfl, hD6⟩ := dloaded_o hL6; obtain ⟨Bm, cm', rfl⟩ := hD6.slm; obtain ⟨Bl, cl', rfl⟩ := hD6.sll; obtain ⟨Ba, ca', rfl⟩ := hD6.sla))
 have hbA : Below w6.heap.size w6 (w6.alloc (.cells #[.int .i64 (loadedP ρ).id, .int .i64 (loadedP ρ).v.e, .int .i64 (loadedP ρ).v.p, (.slice Bm (loadedP ρ).v.l.length cm'), (.slice Bl (loadedP ρ).log.length cl'), .int .i64 (loadedP ρ).joined, .int .i64 ((loadedP ρ).sure : Int), (.slice Ba (loadedP ρ).acks.length ca'), .bool (loadedP ρ).act] 34)) := Below.alloc (Below.refl _ _) (Nat.le_refl _) _
 refine abstr (fun W => PlX w W S' (fun k => T k ∨ S' k) g' pm (loadedP ρ) r (.slice A8 n8 c8) (.slice Am r.v.l.length cm) (.slice B r.log.length d) (.slice C r.acks.length f0) L ∧ Blk W w6.heap.size 34 #[.int .i64 (loadedP ρ).id, .int .i64 (loadedP ρ).v.e, .int .i64 (loadedP ρ).v.p, (.slice Bm (loadedP ρ).v.l.length cm'), (.slice Bl (loadedP ρ).log.length cl'), .int .i64 (loadedP ρ).joined, .int .i64 ((loadedP ρ).sure : Int), (.slice Ba (loadedP ρ).acks.length ca'), .bool (loadedP ρ).act] ∧ DrW W (fun k => T k ∨ S' k) (.slice Bm (loadedP ρ).v.l.length cm') (.slice Bl (loadedP ρ).log.length cl') (.slice Ba (loadedP ρ).acks.length ca') (loadedP ρ)) ⟨(hP5.below hb6).below hbA, Blk.new _ _ _, hD6.kp (Kp.of_below hbA)⟩ (fun W9 hW9 => ?_)
 have hqpm : pm < w6.heap.size := (hP5.below hb6).blk.lt
 clear hbA hD6 hb6 hP5 hb5 hP4 hRk hKp hLb hP3 hO3 cO lO hld hdl
 generalize w6.heap.size = q at *
 generalize (fun k => T k ∨ S' k) = T9 at *
 generalize loadedP ρ = r' at *
 obtain ⟨hP9, hQ9, hD9⟩ := hW9
 refine wp_region_kp (fun k => k = pm) [1] [0] [(true, false, 0), (true, true, 1), (false, true, 2), (false, false, 3)] (by kernel_rfl) (by kernel_rfl) (fun X => ?_); simp only [List.map_cons, List.map_nil, List.getD_cons_zero, List.getD_cons_succ]
 have hne : ¬(q = pm) := by omega
 (repeat (first | (refine wfp fun K hK => ?_; go_simp; refine hK _ _ ?_; clear hK K) | (refine wff fun K hK => ?_; go_simp; refine hK _ _ ?_; clear hK K)))
 (refine first_readG rfl (v := .agg #[.int .i64 r'.id, .int .i64 r'.v.e, .int .i64 r'.v.p, (.slice Bm r'.v.l.length cm'), (.slice Bl r'.log.length cl'), .int .i64 r'.joined, .int .i64 (r'.sure : Int), (.slice Ba r'.acks.length ca'), .bool r'.act]) (fun w' hw' => ?_) (fun K hK => ?_); rotate_left 1; go_simp; refine hK _ _ ?_; clear hK K; rotate_left 1; (have hB' := Blk.kp (Blk.ext hQ9 _) hw' hne; have c' := Blk.cell hB'; go_simp))
 (repeat (first | (refine wfp fun K hK => ?_; go_simp; refine hK _ _ ?_; clear hK K) | (refine wff fun K hK => ?_; go_simp; refine hK _ _ ?_; clear hK K)))
 have hbX : Below W9.heap.size W9 (W9.ext X) := World.below_ext _ _
 have hPX := hP9.below hbX
 have hDX := hD9.kp (Kp.of_below hbX)
 clear hP9 hD9 hQ9 hbX
 generalize W9.ext X = V at *
 have c2' := hPX.blk.cell
 have f2' := hPX.blk.frozen
 have l2' := hPX.blk.lt
 refine First.wpF_must (fun K hK => ?_)
 go_wp2
 (refine hK _ _ (fun hnd => by first | exact Bool.noConfusion hnd | exact Kp.refl _ _) ?_; clear hK K)
 (repeat (first | (refine wfp fun K hK => ?_; go_simp; refine hK _ _ ?_; clear hK K) | (refine wff fun K hK => ?_; go_simp; refine hK _ _ ?_; clear hK K)))
 refine First.wpF_must (fun K hK => ?_); (refine wpList_store_row (P := Tryz.prog) rfl 34 (.tmp 7) _ rfl pm _ rfl rfl _ _ hPX.blk (by kernel_rfl) rfl (by simp [Value.oneCell']) ?_); go_wp2; (refine hK _ _ (fun hnd => by first | exact Bool.noConfusion hnd | exact Kp.refl _ _) ?_; clear hK K); (repeat (first | (refine wfp fun K hK => ?_; go_simp; refine hK _ _ ?_; clear hK K) | (refine wff fun K hK => ?_; go_simp; refine hK _ _ ?_; clear hK K)))
 refine First.wpF_nil ?_
 go_upto_region 63 with fail
 obtain ⟨R, hR⟩ : ∃ R : List (List Nat), R = [] := ⟨_, rfl⟩
 refine abstr (fun W => Mid w W g' pm r' (.slice A8 n8 c8) L [] none 0 none 0) ⟨S', T9, _, _, _, hPX.set_ hDX (Kp.row V pm _) (Blk.row hPX.blk rfl), Recs.nil _ _, Recs.nil _ _⟩ (fun W8 hW8 => ?_)
 have hSr := Sr.nil
 rw [← hR] at hW8 hPn hSr
 clear hPX hDX c2' f2' l2' hR V
 exact hQ.go hW8 hPn hSr
end Go.Proofs.YtjhcgnmibnjocaaGreat

namespace Go.Proofs.YtjhcgnmibnjocaaGreat
open Go.RowKit Go.Maps
set_option maxRecDepth 100000 in
set_option maxHeartbeats 40000000 in
theorem arm5 : Arm (fun kd => kd = 5) := by
 unfold Arm
 intro id k j g pm p w W3 S T r A8 Am B C A1 A2 B2 uA n8 c8 cm d f0 c1 c2 d2 uc L kd f v t m Q y1 y2 y3 y4 y6
 iterate 278 intro _
 intro hk hk0 hPin b1 b3 b4 hl1 hl2 hl3 hv1 hv2 hv3 hU hun hm1 hm2 hm3 hE hEn hi hf hcpx hpw hpo hTp hP3 hO3 hQ hK
 have k5 : kd = 5 := hK
 clear hK
 have hbW := hP3.b
 have hsW := hbW.size
 have cO := hO3.cell
 have lO := hO3.lt
 have hkW := Kp.of_below (S := fun k => w.heap.size ≤ k) hbW
 have hrok := hP3.rel.sub.2.2.1
 have hn4 := hrok.n
 have hA1l : 0 < v.l.length → ∀ a, A1 = some a → a.block < w.heap.size := fun h0 a ha => by
  obtain ⟨a', e', hl', _⟩ := hv1.2 h0
  rw [ha] at e'; cases e'; exact hl'
 have hL7 : L.length ≤ 1000000 := by have := hPin.ln; omega
 refine wp_path rfl ?_
 subst k5
 have cP3 := hP3.blk.cell
 have lP3 := hP3.blk.lt
 have hSv := dsave_any r _ _ _ W3 hP3.dr hrok
 have hKp := Kept.save hrok hPin.jn hPin.id
 have hSb := save_b hrok hPin.lg (by omega)
 go_upto_region 58 with (go_at_call 19; (with_reducible refine hSv.mono ?_); rintro e w4 ⟨Aa, ca, rfl, hRs, hb4⟩)
 generalize saveP r = LL at *
 have hRk0 := hRs.sub (T' := fun k => w4.heap.size ≤ k) (fun k hk ht => by omega)
 obtain ⟨ρ, hρ, hρ2⟩ := id_ hKp
 have hLb : ∀ b ∈ LL, b.length ≤ 1000000 := fun b hb => by have := hSb.2 b hb; omega
 obtain ⟨na, hna⟩ : ∃ na, na = LL.length := ⟨_, rfl⟩
 have hna' : na ≤ 1000000 := by have := hSb.1; omega
 rw [← hna] at hRk0
 refine abstr (fun W => PlX w W S T g pm r r (.slice A8 n8 c8) (.slice Am r.v.l.length cm) (.slice B r.log.length d) (.slice C r.acks.length f0) L ∧ Recs W (fun k => W.heap.size ≤ k) Aa na LL) ⟨hP3.below hb4, hRk0⟩ (fun W4 hW4 => ?_)
 rw [← hna]
 obtain ⟨hP4, hRk⟩ := hW4
 clear hna
 clear hRk0 hRs hb4 hSv hSb cP3 lP3
 have hld := load_far id Aa na ca LL W4 hk0 hRk (fun k hk => hk) (by omega) hLb
 have hdl := fun (T' : Nat → Prop) (w5 : World) (hb5 : Below W4.heap.size W4 w5) (hl5 : ∀ k, T' k → k < w5.heap.size) => dload_any (T := T') id Aa na ca LL w5 hk0 (hRk.kp (Kp.of_below hb5)) hl5 (by omega) hLb
 have hPn := hPin.load hKp hρ
 have hρ' := hide (show restores (newP id) LL = some ρ by rw [← hk]; exact hρ)
 clear hρ
 rw [hρ'.out] at hld
 go_upto_region 59 with (go_at_call 20; (with_reducible refine hld.mono ?_); rintro e w5 ⟨hb5, hL5⟩; obtain ⟨g', rfl, hRl⟩ := loadedF_some hL5; obtain ⟨S', hP5⟩ := hP4.load hb5 hRl)
 go_upto_region 62 with (first | (go_at_call 21; (with_reducible refine (hdl (fun k => T k ∨ S' k) w5 hb5 hP5.lt).mono ?_); rintro e w6 ⟨hb6, hL6⟩; rw [hρ'.out] at hL6; obtain ⟨vm', vl', va', rfl, hD6⟩ := dloaded_o hL6; obtain ⟨Bm, cm', rfl⟩ := hD6.slm; obtain ⟨Bl, cl', rfl⟩ := hD6.sll; obtain ⟨Ba, ca', rfl⟩ := hD6.sla))
 have hbA : Below w6.heap.size w6 (w6.alloc (.cells #[.int .i64 (loadedP ρ).id, .int .i64 (loadedP ρ).v.e, .int .i64 (loadedP ρ).v.p, (.slice Bm (loadedP ρ).v.l.length cm'), (.slice Bl (loadedP ρ).log.length cl'), .int .i64 (loadedP ρ).joined, .int .i64 ((loadedP ρ).sure : Int), (.slice Ba (loadedP ρ).acks.length ca'), .bool (loadedP ρ).act] 34)) := Below.alloc (Below.refl _ _) (Nat.le_refl _) _
 refine abstr (fun W => PlX w W S' (fun k => T k ∨ S' k) g' pm (loadedP ρ) r (.slice A8 n8 c8) (.slice Am r.v.l.length cm) (.slice B r.log.length d) (.slice C r.acks.length f0) L ∧ Blk W w6.heap.size 34 #[.int .i64 (loadedP ρ).id, .int .i64 (loadedP ρ).v.e, .int .i64 (loadedP ρ).v.p, (.slice Bm (loadedP ρ).v.l.length cm'), (.slice Bl (loadedP ρ).log.length cl'), .int .i64 (loadedP ρ).joined, .int .i64 ((loadedP ρ).sure : Int), (.slice Ba (loadedP ρ).acks.length ca'), .bool (loadedP ρ).act] ∧ DrW W (fun k => T k ∨ S' k) (.slice Bm (loadedP ρ).v.l.length cm') (.slice Bl (loadedP ρ).log.length cl') (.slice Ba (loadedP ρ).acks.length ca') (loadedP ρ)) ⟨(hP5.below hb6).below hbA, Blk.new _ _ _, hD6.kp (Kp.of_below hbA)⟩ (fun W9 hW9 => ?_)
 have hqpm : pm < w6.heap.size := (hP5.below hb6).blk.lt
 clear hbA hD6 hb6 hP5 hb5 hP4 hRk hKp hLb hP3 hO3 cO lO hld hdl
 generalize w6.heap.size = q at *
 generalize (fun k => T k ∨ S' k) = T9 at *
 generalize loadedP ρ = r' at *
 obtain ⟨hP9, hQ9, hD9⟩ := hW9
 refine wp_region_kp (fun k => k = pm) [1] [0] [(true, false, 0), (true, true, 1), (false, true, 2), (false, false, 3)] (by kernel_rfl) (by kernel_rfl) (fun X => ?_); simp only [List.map_cons, List.map_nil, List.getD_cons_zero, List.getD_cons_succ]
 have hne : ¬(q = pm) := by omega
 (repeat (first | (refine wfp fun K hK => ?_; go_simp; refine hK _ _ ?_; clear hK K) | (refine wff fun K hK => ?_; go_simp; refine hK _ _ ?_; clear hK K)))
 (refine first_readG rfl (v := .agg #[.int .i64 r'.id, .int .i64 r'.v.e, .int .i64 r'.v.p, (.slice Bm r'.v.l.length cm'), (.slice Bl r'.log.length cl'), .int .i64 r'.joined, .int .i64 (r'.sure : Int), (.slice Ba r'.acks.length ca'), .bool r'.act]) (fun w' hw' => ?_) (fun K hK => ?_); rotate_left 1; go_simp; refine hK _ _ ?_; clear hK K; rotate_left 1; (have hB' := Blk.kp (Blk.ext hQ9 _) hw' hne; have c' := Blk.cell hB'; go_simp))
 (repeat (first | (refine wfp fun K hK => ?_; go_simp; refine hK _ _ ?_; clear hK K) | (refine wff fun K hK => ?_; go_simp; refine hK _ _ ?_; clear hK K)))
 have hbX : Below W9.heap.size W9 (W9.ext X) := World.below_ext _ _
 have hPX := hP9.below hbX
 have hDX := hD9.kp (Kp.of_below hbX)
 clear hP9 hD9 hQ9 hbX
 generalize W9.ext X = V at *
 have c2' := hPX.blk.cell
 have f2' := hPX.blk.frozen
 have l2' := hPX.blk.lt
 refine First.wpF_must (fun K hK => ?_)
 go_wp2
 (refine hK _ _ (fun hnd => by first | exact Bool.noConfusion hnd | exact Kp.refl _ _) ?_; clear hK K)
 (repeat (first | (refine wfp fun K hK => ?_; go_simp; refine hK _ _ ?_; clear hK K) | (refine wff fun K hK => ?_; go_simp; refine hK _ _ ?_; clear hK K)))
 refine First.wpF_must (fun K hK => ?_); (refine wpList_store_row (P := Tryz.prog) rfl 34 (.tmp 7) _ rfl pm _ rfl rfl _ _ hPX.blk (by kernel_rfl) rfl (by simp [Value.oneCell']) ?_); go_wp2; (refine hK _ _ (fun hnd => by first | exact Bool.noConfusion hnd | exact Kp.refl _ _) ?_; clear hK K); (repeat (first | (refine wfp fun K hK => ?_; go_simp; refine hK _ _ ?_; clear hK K) | (refine wff fun K hK => ?_; go_simp; refine hK _ _ ?_; clear hK K)))
 refine First.wpF_nil ?_
 go_upto_region 63 with fail
 obtain ⟨R, hR⟩ : ∃ R : List (List Nat), R = [] := ⟨_, rfl⟩
 refine abstr (fun W => Mid w W g' pm r' (.slice A8 n8 c8) L [] none 0 none 0) ⟨S', T9, _, _, _, hPX.set_ hDX (Kp.row V pm _) (Blk.row hPX.blk rfl), Recs.nil _ _, Recs.nil _ _⟩ (fun W8 hW8 => ?_)
 have hSr := Sr.nil
 rw [← hR] at hW8 hPn hSr
 clear hPX hDX c2' f2' l2' hR V
 exact hQ.go hW8 hPn hSr
end Go.Proofs.YtjhcgnmibnjocaaGreat

namespace Go.Proofs.YtjhcgnmibnjocaaGreat
open Go.RowKit Go.Maps
set_option maxRecDepth 100000 in
set_option maxHeartbeats 40000000 in
theorem armd : Arm (fun kd => ¬kd = 0 ∧ ¬kd = 1 ∧ ¬kd = 2 ∧ ¬kd = 3 ∧ ¬kd = 4 ∧ ¬kd = 5) := by
 unfold Arm
 intro id k j g pm p w W3 S T r A8 Am B C A1 A2 B2 uA n8 c8 cm d f0 c1 c2 d2 uc L kd f v t m Q y1 y2 y3 y4 y6
 iterate 278 intro _
 intro hk hk0 hPin b1 b3 b4 hl1 hl2 hl3 hv1 hv2 hv3 hU hun hm1 hm2 hm3 hE hEn hi hf hcpx hpw hpo hTp hP3 hO3 hQ hK
 obtain ⟨k0, k1, k2, k3, k4, k5⟩ := (show ¬kd = 0 ∧ ¬kd = 1 ∧ ¬kd = 2 ∧ ¬kd = 3 ∧ ¬kd = 4 ∧ ¬kd = 5 from hK)
 clear hK
 have k0' : (kd == 0) = false := by simpa using k0
 have k1' : (kd == 1) = false := by simpa using k1
 have k2' : (kd == 2) = false := by simpa using k2
 have k3' : (kd == 3) = false := by simpa using k3
 have k4' : (kd == 4) = false := by simpa using k4
 have k5' : (kd == 5) = false := by simpa using k5
 have hbW := hP3.b
 have hsW := hbW.size
 have cO := hO3.cell
 have lO := hO3.lt
 have hkW := Kp.of_below (S := fun k => w.heap.size ≤ k) hbW
 have hrok := hP3.rel.sub.2.2.1
 have hn4 := hrok.n
 have hA1l : 0 < v.l.length → ∀ a, A1 = some a → a.block < w.heap.size := fun h0 a ha => by
  obtain ⟨a', e', hl', _⟩ := hv1.2 h0
  rw [ha] at e'; cases e'; exact hl'
 have hL7 : L.length ≤ 1000000 := by have := hPin.ln; omega
 refine wp_path rfl ?_
 have hPn := hPin.none
 have hSr := Sr.nil
 go_upto_region 63 with fail
 refine abstr (fun W => Mid w W g pm r (.slice A8 n8 c8) L [] none 0 none 0) ⟨S, T, _, _, _, hP3, Recs.nil _ _, Recs.nil _ _⟩ (fun W8 hW8 => ?_)
 obtain ⟨R, hR⟩ : ∃ R : List (List Nat), R = [] := ⟨_, rfl⟩
 rw [← hR] at hW8 hPn hSr
 obtain ⟨r', hr'⟩ : ∃ r', r' = r := ⟨_, rfl⟩
 rw [← hr'] at hW8 hPn
 obtain ⟨g', rfl⟩ : ∃ g', g' = g := ⟨_, rfl⟩
 clear hP3 hO3 cO lO hR hr'
 exact hQ.go hW8 hPn hSr
end Go.Proofs.YtjhcgnmibnjocaaGreat
