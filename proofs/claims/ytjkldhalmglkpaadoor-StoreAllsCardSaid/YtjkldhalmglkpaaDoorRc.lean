/-
 The resolved texts of this seat's functions, printed by this session's own program, and that they are what the translation has.
-/
import Derived.Test.YtjkldhalmglkpaaDoorChecked
import Derived.Test.YtjkldhalmglkpaaDoorZRg
import Derived.KernelRfl
namespace Go.Proofs.YtjkldhalmglkpaaDoor
open Go Go.Sl
abbrev oo (d : Nat) (r : RO) : ROp := ⟨some d, r, none⟩
set_option maxRecDepth 100000
/-- causeway/causewaylaw07.StoreAlls -/
def rc3 : RCI :=
 .seq (.plain (.ops 0 false [
 oo 4 (.box 22 (.t 1)),
 oo 5 (.box 3 (.t 2)),
 oo 6 (.alloc 4 [(.bool false)])] []))
 (.seq (.plain (.ops 1 false [
 oo 31 (.call 8 []),
 oo 7 (.val (.t 31))] []))
 (.seq (.plain (.ops 2 false [
 oo 32 (.val (.t 0)),
 oo 33 (.call 9 [.t 32]),
 oo 8 (.alloc 22 [(.slice none 0 0)]),
 ⟨none,.store 1 (.t 8) (.t 33),none⟩] []))
 (.seq (.plain (.ops 3 false [
 oo 34 (.val (.t 0)),
 oo 35 (.call 10 [.t 34]),
 oo 9 (.alloc 25 [(.pointer none)]),
 ⟨none,.store 1 (.t 9) (.t 35),none⟩] []))
 (.seq (.plain (.seq (.ops 4 false [
 oo 36 (.val (.t 7)),
 oo 37 (.not (.t 36)),
 oo 38 (.val (.t 37)),
 ⟨some 39,.load (.t 9),some (38,false)⟩,
 ⟨some 40,.eqp .ptr false (.t 39) (.c (.pointer none)),some (38,false)⟩,
 oo 41 (.pick (.t 38) (.c (.bool true)) (.t 40))] [])
 (.cond (.t 41) (.seq (.ops 5 false [
 ⟨none,.store 1 (.t 6) (.c (.bool false)),none⟩] [])
 (.ret))
 (.skip))))
 (.seq (.plain (.ops 6 false [
 oo 42 (.load (.t 9)),
 oo 43 (.call 11 [.t 42]),
 oo 10 (.alloc 28 [.nilFunc]),
 ⟨none,.store 1 (.t 10) (.t 43),none⟩] []))
 (.seq (.plain (.ops 7 false [
 oo 11 (.alloc 22 [(.slice none 0 0)])] []))
 (.seq (.plain (.ops 8 false [
 oo 12 (.alloc 3 [(.int .i64 0)]),
 ⟨none,.store 1 (.t 12) (.c (.int .i64 0)),none⟩] []))
 (.seq (.seq (.plain (.ops 9 false [
 oo 44 (.load (.t 10))] []))
 (.block 0 (.range (.t 44) [45,46] (.plain (.seq (.ops 10 false [
 oo 13 (.val (.t 45))] [])
 (.ops 11 false [
 oo 14 (.val (.t 46))] [])))
 (.block 1 (.seq (.plain (.seq (.ops 12 false [
 oo 15 (.val (.c (.int .i64 0)))] [])
 (.block 2 (.loop (.seq (.seq (.ops 13 false [
 oo 47 (.val (.t 15)),
 oo 48 (.load (.t 4)),
 oo 49 (.len (.t 48)),
 oo 50 (.bin .lss (.t 47) (.t 49)),
 oo 51 (.val (.t 50)),
 ⟨some 52,.val (.t 15),some (51,true)⟩,
 ⟨some 53,.bin .lss (.t 52) (.c (.int .i64 3)),some (51,true)⟩,
 oo 54 (.pick (.t 51) (.t 53) (.c (.bool false)))] [])
 (.cond (.t 54) (.skip)
 (.exit 2)))
 (.seq (.block 3 (.seq (.ops 15 true [
 oo 57 (.load (.t 9)),
 oo 58 (.load (.t 4)),
 oo 59 (.val (.t 15)),
 oo 60 (.indexS 2 (.t 58) (.t 59)),
 oo 61 (.fieldA 0 (.t 60)),
 oo 62 (.load (.t 61)),
 oo 63 (.load (.t 4)),
 oo 64 (.val (.t 15)),
 oo 65 (.indexS 2 (.t 63) (.t 64)),
 oo 66 (.fieldA 1 (.t 65)),
 oo 67 (.load (.t 66)),
 oo 68 (.call 12 [.t 57,.t 62,.t 67]),
 oo 16 (.val (.t 68))] [([],[]),([],[]),([],[]),([1,2],[1,2]),([3],[3]),([4],[4]),([],[]),([],[]),([6,7],[6,7]),([8],[8]),([9],[9]),([0,5,10],[0,5,10]),([11,11,0,1,2,3,4,5,6,7,8,9,10,11],[11])])
 (.seq (.ops 16 true [
 oo 69 (.val (.t 16)),
 oo 70 (.load (.t 4)),
 oo 71 (.val (.t 15)),
 oo 72 (.indexS 2 (.t 70) (.t 71)),
 oo 73 (.fieldA 0 (.t 72)),
 oo 74 (.load (.t 73)),
 oo 75 (.load (.t 4)),
 oo 76 (.val (.t 15)),
 oo 77 (.indexS 2 (.t 75) (.t 76)),
 oo 78 (.fieldA 1 (.t 77)),
 oo 79 (.load (.t 78)),
 oo 80 (.call 13 [.t 74,.t 79]),
 oo 81 (.bin .neq (.t 69) (.t 80))] [([],[]),([],[]),([],[]),([1,2],[1,2]),([3],[3]),([4],[4]),([],[]),([],[]),([6,7],[6,7]),([8],[8]),([9],[9]),([5,10],[5,10]),([0,11],[0,11])])
 (.cond (.t 81) (.seq (.ops 17 false [
 ⟨none,.store 1 (.t 6) (.c (.bool false)),none⟩] [])
 (.ret))
 (.skip)))))
 (.ops 14 false [
 oo 55 (.val (.t 15)),
 oo 56 (.bin .add (.t 55) (.c (.int .i64 1))),
 oo 15 (.val (.t 56))] [])))))))
 (.seq (.seq (.plain (.ops 18 true [
 oo 82 (.load (.t 12)),
 oo 83 (.load (.t 5)),
 oo 84 (.load (.t 8)),
 oo 85 (.len (.t 84)),
 oo 86 (.bin .add (.t 85) (.c (.int .i64 2))),
 oo 87 (.call 14 [.t 83,.t 86]),
 oo 88 (.bin .eql (.t 82) (.t 87))] [([],[]),([],[]),([],[]),([2],[2]),([3],[3]),([1,4],[1,4]),([0,5],[0,5])]))
 (.cond (.t 88) (.seq (.plain (.ops 19 false [
 oo 17 (.alloc 3 [(.int .i64 0)]),
 ⟨none,.store 1 (.t 17) (.c (.int .i64 0)),none⟩] []))
 (.seq (.plain (.ops 20 false [
 oo 89 (.load (.t 10))] []))
 (.block 4 (.range (.t 89) [90,91] (.plain (.ops 21 false [
 oo 18 (.val (.t 90))] []))
 (.plain (.block 5 (.seq (.seq (.ops 22 false [
 oo 92 (.load (.t 17)),
 oo 93 (.load (.t 8)),
 oo 94 (.len (.t 93)),
 oo 95 (.bin .geq (.t 92) (.t 94)),
 oo 96 (.val (.t 95)),
 ⟨some 97,.val (.t 18),some (96,false)⟩,
 ⟨some 98,.load (.t 8),some (96,false)⟩,
 ⟨some 99,.load (.t 17),some (96,false)⟩,
 ⟨some 100,.indexS 2 (.t 98) (.t 99),some (96,false)⟩,
 ⟨some 101,.fieldA 0 (.t 100),some (96,false)⟩,
 ⟨some 102,.load (.t 101),some (96,false)⟩,
 ⟨some 103,.eqp .str true (.t 97) (.t 102),some (96,false)⟩,
 oo 104 (.pick (.t 96) (.c (.bool true)) (.t 103))] [])
 (.cond (.t 104) (.seq (.ops 23 false [
 ⟨none,.store 1 (.t 6) (.c (.bool false)),none⟩] [])
 (.ret))
 (.skip)))
 (.seq (.ops 24 false [
 oo 105 (.load (.t 17)),
 oo 106 (.bin .add (.t 105) (.c (.int .i64 1))),
 ⟨none,.store 1 (.t 17) (.t 106),none⟩] [])
 (.seq (.ops 25 false [
 oo 107 (.load (.t 17)),
 oo 108 (.load (.t 5)),
 oo 109 (.bin .rem (.t 108) (.c (.int .i64 5))),
 oo 110 (.bin .gtr (.t 107) (.t 109))] [])
 (.cond (.t 110) (.exit 4)
 (.skip)))))))))))
 (.plain (.skip))))
 (.plain (.seq (.ops 26 false [
 oo 111 (.load (.t 11)),
 oo 112 (.val (.t 13)),
 oo 113 (.val (.t 14)),
 oo 114 (.build [(.string ⟨#[]⟩),(.slice none 0 0)] [(0,1,(.t 112)),(1,1,(.t 113))]),
 oo 115 (.buildS 34 1 [(.string ⟨#[]⟩),(.slice none 0 0)] [(0,2,(.t 114))]),
 oo 116 (.blt .append #[22,22] 22 [.t 111,.t 115]),
 ⟨none,.store 1 (.t 11) (.t 116),none⟩] [])
 (.ops 27 false [
 oo 117 (.load (.t 12)),
 oo 118 (.bin .add (.t 117) (.c (.int .i64 1))),
 ⟨none,.store 1 (.t 12) (.t 118),none⟩] [])))))))))
 (.seq (.plain (.ops 28 false [
 oo 119 (.load (.t 11)),
 oo 120 (.load (.t 8)),
 oo 121 (.call 15 [.t 119,.t 120]),
 oo 19 (.val (.t 121))] []))
 (.seq (.plain (.seq (.ops 29 false [
 oo 20 (.val (.c (.int .i64 0)))] [])
 (.block 6 (.loop (.seq (.seq (.ops 30 false [
 oo 122 (.val (.t 20)),
 oo 123 (.load (.t 11)),
 oo 124 (.len (.t 123)),
 oo 125 (.bin .lss (.t 122) (.t 124))] [])
 (.cond (.t 125) (.skip)
 (.exit 6)))
 (.seq (.block 7 (.ops 32 false [
 oo 128 (.load (.t 11)),
 oo 129 (.val (.t 20)),
 oo 130 (.indexS 2 (.t 128) (.t 129)),
 oo 131 (.fieldA 1 (.t 130)),
 oo 132 (.load (.t 131)),
 oo 133 (.call 16 [.t 132])] []))
 (.ops 31 false [
 oo 126 (.val (.t 20)),
 oo 127 (.bin .add (.t 126) (.c (.int .i64 1))),
 oo 20 (.val (.t 127))] [])))))))
 (.seq (.plain (.ops 33 false [
 oo 21 (.alloc 22 [(.slice none 0 0)])] []))
 (.seq (.seq (.plain (.ops 34 false [
 oo 134 (.load (.t 10))] []))
 (.block 8 (.range (.t 134) [135,136] (.plain (.seq (.ops 35 false [
 oo 22 (.val (.t 135))] [])
 (.ops 36 false [
 oo 23 (.val (.t 136))] [])))
 (.plain (.block 9 (.ops 37 false [
 oo 137 (.load (.t 21)),
 oo 138 (.val (.t 22)),
 oo 139 (.val (.t 23)),
 oo 140 (.build [(.string ⟨#[]⟩),(.slice none 0 0)] [(0,1,(.t 138)),(1,1,(.t 139))]),
 oo 141 (.buildS 34 1 [(.string ⟨#[]⟩),(.slice none 0 0)] [(0,2,(.t 140))]),
 oo 142 (.blt .append #[22,22] 22 [.t 137,.t 141]),
 ⟨none,.store 1 (.t 21) (.t 142),none⟩] []))))))
 (.seq (.plain (.ops 38 false [
 oo 143 (.load (.t 21)),
 oo 144 (.load (.t 8)),
 oo 145 (.call 15 [.t 143,.t 144]),
 oo 24 (.val (.t 145))] []))
 (.seq (.seq (.plain (.ops 39 false [
 oo 146 (.load (.t 10))] []))
 (.block 10 (.range (.t 146) [147,148] (.plain (.seq (.ops 40 false [
 oo 25 (.val (.t 147))] [])
 (.ops 41 false [
 oo 26 (.val (.t 148))] [])))
 (.plain (.block 11 (.seq (.seq (.ops 42 false [
 oo 149 (.load (.t 8)),
 oo 150 (.len (.t 149)),
 oo 151 (.bin .eql (.t 150) (.c (.int .i64 0))),
 oo 152 (.val (.t 151)),
 ⟨some 153,.val (.t 25),some (152,false)⟩,
 ⟨some 154,.load (.t 8),some (152,false)⟩,
 ⟨some 155,.indexS 2 (.t 154) (.c (.int .i64 0)),some (152,false)⟩,
 ⟨some 156,.fieldA 0 (.t 155),some (152,false)⟩,
 ⟨some 157,.load (.t 156),some (152,false)⟩,
 ⟨some 158,.eqp .str true (.t 153) (.t 157),some (152,false)⟩,
 oo 159 (.pick (.t 152) (.c (.bool true)) (.t 158)),
 oo 160 (.val (.t 159)),
 ⟨some 161,.val (.t 26),some (160,false)⟩,
 ⟨some 162,.load (.t 8),some (160,false)⟩,
 ⟨some 163,.indexS 2 (.t 162) (.c (.int .i64 0)),some (160,false)⟩,
 ⟨some 164,.fieldA 1 (.t 163),some (160,false)⟩,
 ⟨some 165,.load (.t 164),some (160,false)⟩,
 ⟨some 166,.call 17 [.t 161,.t 165],some (160,false)⟩,
 ⟨some 167,.not (.t 166),some (160,false)⟩,
 oo 168 (.pick (.t 160) (.c (.bool true)) (.t 167))] [])
 (.cond (.t 168) (.seq (.ops 43 false [
 ⟨none,.store 1 (.t 6) (.c (.bool false)),none⟩] [])
 (.ret))
 (.skip)))
 (.exit 10)))))))
 (.plain (.seq (.ops 44 false [
 oo 169 (.load (.t 8)),
 oo 27 (.val (.t 169))] [])
 (.seq (.seq (.ops 45 false [
 oo 170 (.load (.t 8)),
 oo 171 (.len (.t 170)),
 oo 172 (.bin .gtr (.t 171) (.c (.int .i64 0)))] [])
 (.cond (.t 172) (.seq (.ops 46 false [
 oo 28 (.val (.c (.int .i64 0)))] [])
 (.block 12 (.loop (.seq (.seq (.ops 47 false [
 oo 173 (.val (.t 28)),
 oo 174 (.load (.t 4)),
 oo 175 (.len (.t 174)),
 oo 176 (.bin .lss (.t 173) (.t 175)),
 oo 177 (.val (.t 176)),
 ⟨some 178,.val (.t 28),some (177,true)⟩,
 ⟨some 179,.bin .lss (.t 178) (.c (.int .i64 3)),some (177,true)⟩,
 oo 180 (.pick (.t 177) (.t 179) (.c (.bool false)))] [])
 (.cond (.t 180) (.skip)
 (.exit 12)))
 (.seq (.block 13 (.seq (.ops 49 true [
 oo 184 (.val (.t 27)),
 oo 185 (.load (.t 4)),
 oo 186 (.val (.t 28)),
 oo 187 (.indexS 2 (.t 185) (.t 186)),
 oo 188 (.fieldA 0 (.t 187)),
 oo 189 (.load (.t 188)),
 oo 190 (.load (.t 4)),
 oo 191 (.val (.t 28)),
 oo 192 (.indexS 2 (.t 190) (.t 191)),
 oo 193 (.fieldA 1 (.t 192)),
 oo 194 (.load (.t 193)),
 oo 195 (.call 18 [.t 184,.t 189,.t 194]),
 oo 183 (.val (.t 195)),
 oo 196 (.extract 0 (.t 183)),
 oo 197 (.extract 1 (.t 183)),
 oo 29 (.val (.t 196)),
 oo 30 (.val (.t 197))] [([],[]),([],[]),([],[]),([1,2],[1,2]),([3],[3]),([4],[4]),([],[]),([],[]),([6,7],[6,7]),([8],[8]),([9],[9]),([0,5,10],[0,5,10]),([11],[11]),([12],[12]),([12],[12]),([13,11,0,1,2,3,4,5,6,7,8,9,10,11,12,13],[13]),([14,15,0,1,2,3,4,5,6,7,8,9,10,11,12,13,14,15],[14])])
 (.ops 50 false [
 oo 198 (.val (.t 29)),
 oo 27 (.val (.t 198))] [])))
 (.ops 48 false [
 oo 181 (.val (.t 28)),
 oo 182 (.bin .add (.t 181) (.c (.int .i64 1))),
 oo 28 (.val (.t 182))] []))))))
 (.skip)))
 (.seq (.ops 51 false [
 oo 199 (.val (.t 19)),
 oo 200 (.val (.t 199)),
 ⟨some 201,.val (.t 24),some (200,true)⟩,
 oo 202 (.pick (.t 200) (.t 201) (.c (.bool false))),
 oo 203 (.val (.t 202)),
 ⟨some 204,.load (.t 9),some (203,true)⟩,
 ⟨some 205,.val (.t 27),some (203,true)⟩,
 ⟨some 206,.call 19 [.t 204,.t 205],some (203,true)⟩,
 oo 207 (.pick (.t 203) (.t 206) (.c (.bool false))),
 ⟨none,.store 1 (.t 6) (.t 207),none⟩] [])
 (.ret)))))))))))))))))))
def rs3 : List RR := [.cell 6 none]
theorem fun3 : FunRI Tryd.prog 3 rc3 rs3 208 := ⟨Tryd.f3, Tryd.func3, by kernel_rfl, by kernel_rfl, by kernel_rfl⟩
/-- causeway/causewaylaw07.awake -/
def rc8 : RC :=
 .seq (.ops 0 false [
 oo 0 (.val (.c (.bool false)))] [])
 (.seq (.ops 1 false [
 oo 8 (.call 20 []),
 oo 1 (.val (.t 8))] [])
 (.seq (.seq (.ops 2 false [
 oo 9 (.val (.t 1)),
 oo 10 (.eqp .ptr false (.t 9) (.c (.pointer none)))] [])
 (.cond (.t 10) (.seq (.ops 3 false [
 oo 0 (.val (.c (.bool false)))] [])
 (.ret))
 (.skip)))
 (.seq (.ops 4 false [
 oo 11 (.val (.t 1)),
 oo 12 (.buildS 5 2 [(.int .u8 0),(.int .u8 0)] [(0,1,(.c (.int .u8 1))),(1,1,(.c (.int .u8 2)))]),
 oo 13 (.call 12 [(.t 11),(.c (.string ⟨#[97]⟩)),(.t 12)]),
 oo 2 (.val (.t 13))] [])
 (.seq (.ops 5 false [
 oo 14 (.val (.t 1)),
 oo 15 (.call 23 [.t 14]),
 oo 3 (.val (.t 15))] [])
 (.seq (.ops 6 false [
 oo 17 (.val (.t 1)),
 oo 18 (.iface 25 (.t 17)),
 oo 19 (.call 24 [.t 18]),
 oo 16 (.val (.t 19)),
 oo 20 (.extract 0 (.t 16)),
 oo 21 (.extract 1 (.t 16)),
 oo 4 (.val (.t 20)),
 oo 5 (.val (.t 21))] [])
 (.seq (.seq (.ops 7 false [
 oo 22 (.val (.t 4)),
 oo 23 (.eqp .ptr false (.t 22) (.c (.pointer none)))] [])
 (.cond (.t 23) (.seq (.ops 8 false [
 oo 0 (.val (.c (.bool false)))] [])
 (.ret))
 (.skip)))
 (.seq (.ops 9 false [
 oo 25 (.val (.t 4)),
 oo 26 (.call 25 [(.t 25),(.c (.string ⟨#[97]⟩))]),
 oo 24 (.val (.t 26)),
 oo 27 (.extract 0 (.t 24)),
 oo 28 (.extract 1 (.t 24)),
 oo 6 (.val (.t 27)),
 oo 7 (.val (.t 28))] [])
 (.seq (.ops 10 false [
 oo 29 (.val (.t 2)),
 oo 30 (.bin .eql (.t 29) (.c (.int .i64 0))),
 oo 31 (.val (.t 30)),
 ⟨some 32,.val (.t 3),some (31,true)⟩,
 ⟨some 33,.bin .eql (.t 32) (.c (.int .i64 1)),some (31,true)⟩,
 oo 34 (.pick (.t 31) (.t 33) (.c (.bool false))),
 oo 35 (.val (.t 34)),
 ⟨some 36,.val (.t 5),some (35,true)⟩,
 ⟨some 37,.bin .eql (.t 36) (.c (.int .i64 0)),some (35,true)⟩,
 oo 38 (.pick (.t 35) (.t 37) (.c (.bool false))),
 oo 39 (.val (.t 38)),
 ⟨some 40,.val (.t 7),some (39,true)⟩,
 ⟨some 41,.bin .eql (.t 40) (.c (.int .i64 0)),some (39,true)⟩,
 oo 42 (.pick (.t 39) (.t 41) (.c (.bool false))),
 oo 43 (.val (.t 42)),
 ⟨some 44,.val (.t 6),some (43,true)⟩,
 ⟨some 45,.cvt 30 9 (.t 44),some (43,true)⟩,
 ⟨some 46,.eqp .str false (.t 45) (.c (.string ⟨#[1,2]⟩)),some (43,true)⟩,
 oo 47 (.pick (.t 43) (.t 46) (.c (.bool false))),
 oo 0 (.val (.t 47))] [])
 (.ret)))))))))
def rs8 : List RR := [.tmp 0]
theorem fun8 : FunR Tryd.prog 8 rc8 rs8 48 := ⟨Tryd.f8, Tryd.func8, by kernel_rfl, by kernel_rfl, by kernel_rfl⟩
/-- causeway/causewaylaw07.laid -/
def rc9 : RC :=
 .seq (.ops 0 false [
 oo 2 (.val (.c (.slice none 0 0)))] [])
 (.seq (.ops 1 false [
 oo 3 (.val (.c (.slice none 0 0)))] [])
 (.seq (.seq (.ops 2 false [
 oo 4 (.val (.c (.int .i64 0)))] [])
 (.block 0 (.loop (.seq (.seq (.ops 3 false [
 oo 7 (.val (.t 4)),
 oo 8 (.val (.t 0)),
 oo 9 (.len (.t 8)),
 oo 10 (.bin .lss (.t 7) (.t 9))] [])
 (.cond (.t 10) (.skip)
 (.exit 0)))
 (.seq (.block 1 (.seq (.ops 5 true [
 oo 14 (.val (.t 3)),
 oo 15 (.val (.t 0)),
 oo 16 (.val (.t 4)),
 oo 17 (.indexS 2 (.t 15) (.t 16)),
 oo 18 (.fieldA 0 (.t 17)),
 oo 19 (.load (.t 18)),
 oo 20 (.val (.t 0)),
 oo 21 (.val (.t 4)),
 oo 22 (.indexS 2 (.t 20) (.t 21)),
 oo 23 (.fieldA 1 (.t 22)),
 oo 24 (.load (.t 23)),
 oo 25 (.call 18 [.t 14,.t 19,.t 24]),
 oo 13 (.val (.t 25)),
 oo 26 (.extract 0 (.t 13)),
 oo 27 (.extract 1 (.t 13)),
 oo 5 (.val (.t 26)),
 oo 6 (.val (.t 27))] [([],[]),([],[]),([],[]),([1,2],[1,2]),([3],[3]),([4],[4]),([],[]),([],[]),([6,7],[6,7]),([8],[8]),([9],[9]),([0,5,10],[0,5,10]),([11],[11]),([12],[12]),([12],[12]),([13,11,0,1,2,3,4,5,6,7,8,9,10,11,12,13],[13]),([14,15,0,1,2,3,4,5,6,7,8,9,10,11,12,13,14,15],[14])])
 (.ops 6 false [
 oo 28 (.val (.t 5)),
 oo 3 (.val (.t 28))] [])))
 (.ops 4 false [
 oo 11 (.val (.t 4)),
 oo 12 (.bin .add (.t 11) (.c (.int .i64 1))),
 oo 4 (.val (.t 12))] []))))))
 (.seq (.ops 7 false [
 oo 29 (.val (.t 3)),
 oo 2 (.val (.t 29))] [])
 (.ret))))
def rs9 : List RR := [.tmp 2]
theorem fun9 : FunR Tryd.prog 9 rc9 rs9 30 := ⟨Tryd.f9, Tryd.func9, by kernel_rfl, by kernel_rfl, by kernel_rfl⟩
/-- causeway/causewaylaw07.table -/
def rc10 : RC :=
 .seq (.ops 0 false [
 oo 2 (.val (.c (.pointer none)))] [])
 (.seq (.ops 1 false [
 oo 7 (.call 20 []),
 oo 3 (.val (.t 7))] [])
 (.seq (.seq (.ops 2 false [
 oo 8 (.val (.t 3)),
 oo 9 (.eqp .ptr false (.t 8) (.c (.pointer none)))] [])
 (.cond (.t 9) (.seq (.ops 3 false [
 oo 2 (.val (.c (.pointer none)))] [])
 (.ret))
 (.skip)))
 (.seq (.seq (.ops 4 false [
 oo 4 (.val (.c (.int .i64 0)))] [])
 (.block 0 (.loop (.seq (.seq (.ops 5 false [
 oo 10 (.val (.t 4)),
 oo 11 (.val (.t 0)),
 oo 12 (.len (.t 11)),
 oo 13 (.bin .lss (.t 10) (.t 12))] [])
 (.cond (.t 13) (.skip)
 (.exit 0)))
 (.seq (.block 1 (.seq (.ops 7 true [
 oo 16 (.val (.t 3)),
 oo 17 (.val (.t 0)),
 oo 18 (.val (.t 4)),
 oo 19 (.indexS 2 (.t 17) (.t 18)),
 oo 20 (.fieldA 0 (.t 19)),
 oo 21 (.load (.t 20)),
 oo 22 (.val (.t 0)),
 oo 23 (.val (.t 4)),
 oo 24 (.indexS 2 (.t 22) (.t 23)),
 oo 25 (.fieldA 1 (.t 24)),
 oo 26 (.load (.t 25)),
 oo 27 (.call 12 [.t 16,.t 21,.t 26]),
 oo 5 (.val (.t 27))] [([],[]),([],[]),([],[]),([1,2],[1,2]),([3],[3]),([4],[4]),([],[]),([],[]),([6,7],[6,7]),([8],[8]),([9],[9]),([0,5,10],[0,5,10]),([11,11,0,1,2,3,4,5,6,7,8,9,10,11],[11])])
 (.seq (.ops 8 true [
 oo 28 (.val (.t 0)),
 oo 29 (.val (.t 4)),
 oo 30 (.indexS 2 (.t 28) (.t 29)),
 oo 31 (.fieldA 0 (.t 30)),
 oo 32 (.load (.t 31)),
 oo 33 (.val (.t 0)),
 oo 34 (.val (.t 4)),
 oo 35 (.indexS 2 (.t 33) (.t 34)),
 oo 36 (.fieldA 1 (.t 35)),
 oo 37 (.load (.t 36)),
 oo 38 (.call 13 [.t 32,.t 37]),
 oo 6 (.val (.t 38))] [([],[]),([],[]),([0,1],[0,1]),([2],[2]),([3],[3]),([],[]),([],[]),([5,6],[5,6]),([7],[7]),([8],[8]),([4,9],[4,9]),([10,10,0,1,2,3,4,5,6,7,8,9,10],[10])])
 (.seq (.ops 9 false [
 oo 39 (.val (.t 5)),
 oo 40 (.val (.t 6)),
 oo 41 (.bin .neq (.t 39) (.t 40))] [])
 (.cond (.t 41) (.seq (.ops 10 false [
 oo 2 (.val (.c (.pointer none)))] [])
 (.ret))
 (.skip))))))
 (.ops 6 false [
 oo 14 (.val (.t 4)),
 oo 15 (.bin .add (.t 14) (.c (.int .i64 1))),
 oo 4 (.val (.t 15))] []))))))
 (.seq (.ops 11 false [
 oo 42 (.val (.t 3)),
 oo 2 (.val (.t 42))] [])
 (.ret)))))
def rs10 : List RR := [.tmp 2]
theorem fun10 : FunR Tryd.prog 10 rc10 rs10 43 := ⟨Tryd.f10, Tryd.func10, by kernel_rfl, by kernel_rfl, by kernel_rfl⟩
/-- (*causeway/store.Table).All -/
def rc11 : RC :=
 .seq (.ops 0 false [
 oo 2 (.val (.c .nilFunc))] [])
 (.seq (.ops 1 false [
 oo 4 (.val (.t 0)),
 oo 5 (.call 45 [.t 4]),
 oo 3 (.alloc 22 [(.slice none 0 0)]),
 ⟨none,.store 1 (.t 3) (.t 5),none⟩] [])
 (.seq (.ops 2 false [
 oo 6 (.func 46 [.t 3]),
 oo 2 (.val (.t 6))] [])
 (.ret)))
def rs11 : List RR := [.tmp 2]
theorem fun11 : FunR Tryd.prog 11 rc11 rs11 7 := ⟨Tryd.f11, Tryd.func11, by kernel_rfl, by kernel_rfl, by kernel_rfl⟩
/-- (*causeway/store.Table).Put -/
def rc12 : RC :=
 .seq (.ops 0 false [
 oo 6 (.val (.c (.int .i64 0)))] [])
 (.seq (.seq (.ops 1 false [
 oo 8 (.val (.t 1)),
 oo 9 (.val (.t 2)),
 oo 10 (.call 48 [.t 8,.t 9]),
 oo 7 (.val (.t 10))] [])
 (.seq (.ops 2 false [
 oo 11 (.val (.t 7)),
 oo 12 (.bin .neq (.t 11) (.c (.int .i64 0)))] [])
 (.cond (.t 12) (.seq (.ops 3 false [
 oo 13 (.val (.t 7)),
 oo 6 (.val (.t 13))] [])
 (.ret))
 (.skip))))
 (.seq (.ops 4 false [
 oo 14 (.val (.t 0)),
 oo 15 (.val (.t 1)),
 oo 16 (.val (.t 2)),
 oo 17 (.call 49 [.t 14,.t 15,.t 16])] [])
 (.seq (.ops 5 false [
 oo 6 (.val (.c (.int .i64 0)))] [])
 (.ret))))
def rs12 : List RR := [.tmp 6]
theorem fun12 : FunR Tryd.prog 12 rc12 rs12 18 := ⟨Tryd.f12, Tryd.func12, by kernel_rfl, by kernel_rfl, by kernel_rfl⟩
/-- causeway/causewayref07.May -/
def rc13 : RC :=
 .seq (.ops 0 false [
 oo 4 (.val (.c (.int .i64 0)))] [])
 (.seq (.seq (.ops 1 false [
 oo 5 (.val (.t 0)),
 oo 6 (.lenT (.t 5)),
 oo 7 (.bin .lss (.t 6) (.c (.int .i64 1))),
 oo 8 (.val (.t 7)),
 ⟨some 9,.val (.t 0),some (8,false)⟩,
 ⟨some 10,.lenT (.t 9),some (8,false)⟩,
 ⟨some 11,.bin .gtr (.t 10) (.c (.int .i64 128)),some (8,false)⟩,
 oo 12 (.pick (.t 8) (.c (.bool true)) (.t 11))] [])
 (.cond (.t 12) (.seq (.ops 2 false [
 oo 4 (.val (.c (.int .i64 70)))] [])
 (.ret))
 (.skip)))
 (.seq (.seq (.ops 3 false [
 oo 13 (.val (.t 1)),
 oo 14 (.len (.t 13)),
 oo 15 (.bin .gtr (.t 14) (.c (.int .i64 4096)))] [])
 (.cond (.t 15) (.seq (.ops 4 false [
 oo 4 (.val (.c (.int .i64 71)))] [])
 (.ret))
 (.skip)))
 (.seq (.ops 5 false [
 oo 4 (.val (.c (.int .i64 0)))] [])
 (.ret))))
def rs13 : List RR := [.tmp 4]
theorem fun13 : FunR Tryd.prog 13 rc13 rs13 16 := ⟨Tryd.f13, Tryd.func13, by kernel_rfl, by kernel_rfl, by kernel_rfl⟩
/-- causeway/causewaylaw07.pick -/
def rc14 : RC :=
 .seq (.ops 0 false [
 oo 4 (.val (.c (.int .i64 0)))] [])
 (.seq (.seq (.ops 1 false [
 oo 5 (.val (.t 0)),
 oo 6 (.bin .lss (.t 5) (.c (.int .i64 0)))] [])
 (.cond (.t 6) (.ops 2 false [
 oo 7 (.val (.t 0)),
 oo 8 (.bin .add (.t 7) (.c (.int .i64 1))),
 oo 9 (.neg (.t 8)),
 oo 0 (.val (.t 9))] [])
 (.skip)))
 (.seq (.ops 3 false [
 oo 10 (.val (.t 0)),
 oo 11 (.val (.t 1)),
 oo 12 (.bin .rem (.t 10) (.t 11)),
 oo 4 (.val (.t 12))] [])
 (.ret)))
def rs14 : List RR := [.tmp 4]
theorem fun14 : FunR Tryd.prog 14 rc14 rs14 13 := ⟨Tryd.f14, Tryd.func14, by kernel_rfl, by kernel_rfl, by kernel_rfl⟩
/-- causeway/causewaylaw07.samePairs -/
def rc15 : RC :=
 .seq (.ops 0 false [
 oo 4 (.val (.c (.bool false)))] [])
 (.seq (.seq (.ops 1 false [
 oo 6 (.val (.t 0)),
 oo 7 (.len (.t 6)),
 oo 8 (.val (.t 1)),
 oo 9 (.len (.t 8)),
 oo 10 (.bin .neq (.t 7) (.t 9))] [])
 (.cond (.t 10) (.seq (.ops 2 false [
 oo 4 (.val (.c (.bool false)))] [])
 (.ret))
 (.skip)))
 (.seq (.seq (.ops 3 false [
 oo 5 (.val (.c (.int .i64 0)))] [])
 (.block 0 (.loop (.seq (.seq (.ops 4 false [
 oo 11 (.val (.t 5)),
 oo 12 (.val (.t 0)),
 oo 13 (.len (.t 12)),
 oo 14 (.bin .lss (.t 11) (.t 13))] [])
 (.cond (.t 14) (.skip)
 (.exit 0)))
 (.seq (.block 1 (.seq (.ops 6 true [
 oo 17 (.val (.t 0)),
 oo 18 (.val (.t 5)),
 oo 19 (.indexS 2 (.t 17) (.t 18)),
 oo 20 (.fieldA 0 (.t 19)),
 oo 21 (.load (.t 20)),
 oo 22 (.val (.t 1)),
 oo 23 (.val (.t 5)),
 oo 24 (.indexS 2 (.t 22) (.t 23)),
 oo 25 (.fieldA 0 (.t 24)),
 oo 26 (.load (.t 25)),
 oo 27 (.eqp .str true (.t 21) (.t 26)),
 oo 28 (.val (.t 27)),
 ⟨some 29,.val (.t 0),some (28,false)⟩,
 ⟨some 30,.val (.t 5),some (28,false)⟩,
 ⟨some 31,.indexS 2 (.t 29) (.t 30),some (28,false)⟩,
 ⟨some 32,.fieldA 1 (.t 31),some (28,false)⟩,
 ⟨some 33,.load (.t 32),some (28,false)⟩,
 ⟨some 34,.val (.t 1),some (28,false)⟩,
 ⟨some 35,.val (.t 5),some (28,false)⟩,
 ⟨some 36,.indexS 2 (.t 34) (.t 35),some (28,false)⟩,
 ⟨some 37,.fieldA 1 (.t 36),some (28,false)⟩,
 ⟨some 38,.load (.t 37),some (28,false)⟩,
 ⟨some 39,.call 17 [.t 33,.t 38],some (28,false)⟩,
 ⟨some 40,.not (.t 39),some (28,false)⟩,
 oo 41 (.pick (.t 28) (.c (.bool true)) (.t 40))] [([],[]),([],[]),([0,1],[0,1]),([2],[2]),([3],[3]),([],[]),([],[]),([5,6],[5,6]),([7],[7]),([8],[8]),([4,9],[4,9]),([10],[10]),([11],[11]),([11],[11]),([12,13,11],[11,12,13]),([14,11],[11,14]),([15,11],[11,15]),([11],[11]),([11],[11]),([17,18,11],[11,17,18]),([19,11],[11,19]),([20,11],[11,20]),([16,21,11,11],[11,16,21]),([22,11],[11,22]),([11,23],[11,23])])
 (.cond (.t 41) (.seq (.ops 7 false [
 oo 4 (.val (.c (.bool false)))] [])
 (.ret))
 (.skip))))
 (.ops 5 false [
 oo 15 (.val (.t 5)),
 oo 16 (.bin .add (.t 15) (.c (.int .i64 1))),
 oo 5 (.val (.t 16))] []))))))
 (.seq (.ops 8 false [
 oo 4 (.val (.c (.bool true)))] [])
 (.ret))))
def rs15 : List RR := [.tmp 4]
theorem fun15 : FunR Tryd.prog 15 rc15 rs15 42 := ⟨Tryd.f15, Tryd.func15, by kernel_rfl, by kernel_rfl, by kernel_rfl⟩
/-- causeway/causewaylaw07.spoil -/
def rc16 : RC :=
 .seq (.ops 0 false [
 oo 2 (.val (.c (.int .i64 0)))] [])
 (.block 0 (.loop (.seq (.seq (.ops 1 false [
 oo 3 (.val (.t 2)),
 oo 4 (.val (.t 0)),
 oo 5 (.len (.t 4)),
 oo 6 (.bin .lss (.t 3) (.t 5))] [])
 (.cond (.t 6) (.skip)
 (.exit 0)))
 (.seq (.block 1 (.ops 3 false [
 oo 9 (.val (.t 0)),
 oo 10 (.val (.t 2)),
 oo 11 (.val (.t 0)),
 oo 12 (.val (.t 2)),
 oo 13 (.indexS 1 (.t 11) (.t 12)),
 oo 14 (.load (.t 13)),
 oo 15 (.bin .xor (.t 14) (.c (.int .u8 165))),
 oo 16 (.indexS 1 (.t 9) (.t 10)),
 ⟨none,.store 1 (.t 16) (.t 15),none⟩] []))
 (.ops 2 false [
 oo 7 (.val (.t 2)),
 oo 8 (.bin .add (.t 7) (.c (.int .i64 1))),
 oo 2 (.val (.t 8))] [])))))
def rs16 : List RR := []
theorem fun16 : FunR Tryd.prog 16 rc16 rs16 17 := ⟨Tryd.f16, Tryd.func16, by kernel_rfl, by kernel_rfl, by kernel_rfl⟩
/-- causeway/causewaylaw07.same -/
def rc17 : RC :=
 .seq (.ops 0 false [
 oo 4 (.val (.c (.bool false)))] [])
 (.seq (.ops 1 false [
 oo 5 (.val (.t 0)),
 oo 6 (.cvt 30 9 (.t 5)),
 oo 7 (.val (.t 1)),
 oo 8 (.cvt 30 9 (.t 7)),
 oo 9 (.eqp .str false (.t 6) (.t 8)),
 oo 4 (.val (.t 9))] [])
 (.ret))
def rs17 : List RR := [.tmp 4]
theorem fun17 : FunR Tryd.prog 17 rc17 rs17 10 := ⟨Tryd.f17, Tryd.func17, by kernel_rfl, by kernel_rfl, by kernel_rfl⟩
/-- causeway/causewayref07.Put -/
def rc18 : RC :=
 .seq (.ops 0 false [
 oo 6 (.val (.c (.slice none 0 0))),
 oo 7 (.val (.c (.int .i64 0)))] [])
 (.seq (.ops 1 false [
 oo 12 (.val (.t 1)),
 oo 13 (.val (.t 2)),
 oo 14 (.call 13 [.t 12,.t 13]),
 oo 8 (.val (.t 14))] [])
 (.seq (.seq (.ops 2 false [
 oo 15 (.val (.t 8)),
 oo 16 (.bin .neq (.t 15) (.c (.int .i64 0)))] [])
 (.cond (.t 16) (.seq (.ops 3 false [
 oo 17 (.val (.t 0)),
 oo 18 (.val (.t 8)),
 oo 6 (.val (.t 17)),
 oo 7 (.val (.t 18))] [])
 (.ret))
 (.skip)))
 (.seq (.ops 4 false [
 oo 9 (.val (.c (.slice none 0 0)))] [])
 (.seq (.ops 5 false [
 oo 19 (.val (.t 0)),
 oo 20 (.val (.t 1)),
 oo 21 (.val (.t 2)),
 oo 22 (.call 50 [.t 19,.t 20,.t 21]),
 oo 10 (.val (.t 22))] [])
 (.seq (.seq (.ops 6 false [
 oo 11 (.val (.c (.int .i64 0)))] [])
 (.block 0 (.loop (.seq (.seq (.ops 7 false [
 oo 23 (.val (.t 11)),
 oo 24 (.val (.t 10)),
 oo 25 (.len (.t 24)),
 oo 26 (.bin .lss (.t 23) (.t 25))] [])
 (.cond (.t 26) (.skip)
 (.exit 0)))
 (.seq (.block 1 (.seq (.ops 9 false [
 oo 29 (.val (.t 10)),
 oo 30 (.val (.t 11)),
 oo 31 (.indexS 2 (.t 29) (.t 30)),
 oo 32 (.fieldA 1 (.t 31)),
 oo 33 (.load (.t 32)),
 oo 34 (.len (.t 33)),
 oo 35 (.bin .gtr (.t 34) (.c (.int .i64 0)))] [])
 (.cond (.t 35) (.ops 10 false [
 oo 36 (.val (.t 9)),
 oo 37 (.val (.t 10)),
 oo 38 (.val (.t 11)),
 oo 39 (.indexS 2 (.t 37) (.t 38)),
 oo 40 (.loadN 2 (.t 39)),
 oo 41 (.buildS 34 1 [(.string ⟨#[]⟩),(.slice none 0 0)] [(0,2,(.t 40))]),
 oo 42 (.blt .append #[22,22] 22 [.t 36,.t 41]),
 oo 9 (.val (.t 42))] [])
 (.skip))))
 (.ops 8 false [
 oo 27 (.val (.t 11)),
 oo 28 (.bin .add (.t 27) (.c (.int .i64 1))),
 oo 11 (.val (.t 28))] []))))))
 (.seq (.ops 11 false [
 oo 43 (.val (.t 9)),
 oo 6 (.val (.t 43)),
 oo 7 (.val (.c (.int .i64 0)))] [])
 (.ret)))))))
def rs18 : List RR := [.tmp 6, .tmp 7]
theorem fun18 : FunR Tryd.prog 18 rc18 rs18 44 := ⟨Tryd.f18, Tryd.func18, by kernel_rfl, by kernel_rfl, by kernel_rfl⟩
/-- causeway/causewaylaw07.is -/
def rc19 : RC :=
 .seq (.ops 0 false [
 oo 4 (.val (.c (.bool false)))] [])
 (.seq (.ops 1 false [
 oo 8 (.val (.t 0)),
 oo 9 (.call 23 [.t 8]),
 oo 5 (.val (.t 9))] [])
 (.seq (.ops 2 false [
 oo 10 (.val (.t 0)),
 oo 11 (.call 21 [.t 10]),
 oo 6 (.val (.t 11))] [])
 (.seq (.ops 3 false [
 oo 12 (.val (.t 6)),
 oo 13 (.val (.t 1)),
 oo 14 (.call 15 [.t 12,.t 13]),
 oo 7 (.val (.t 14))] [])
 (.seq (.ops 4 false [
 oo 15 (.val (.t 5)),
 oo 16 (.val (.t 1)),
 oo 17 (.len (.t 16)),
 oo 18 (.bin .eql (.t 15) (.t 17)),
 oo 19 (.val (.t 18)),
 ⟨some 20,.val (.t 7),some (19,true)⟩,
 oo 21 (.pick (.t 19) (.t 20) (.c (.bool false))),
 oo 4 (.val (.t 21))] [])
 (.ret)))))
def rs19 : List RR := [.tmp 4]
theorem fun19 : FunR Tryd.prog 19 rc19 rs19 22 := ⟨Tryd.f19, Tryd.func19, by kernel_rfl, by kernel_rfl, by kernel_rfl⟩
/-- causeway/store.NewTable -/
def rc20 : RC :=
 .seq (.ops 0 false [
 oo 0 (.val (.c (.pointer none)))] [])
 (.seq (.ops 1 false [
 oo 1 (.mkMap 84),
 oo 2 (.call 51 []),
 oo 3 (.mkMap 87),
 oo 4 (.build [(.map none),(.pointer none),(.map none)] [(0,1,(.t 1)),(1,1,(.t 2)),(2,1,(.t 3))]),
 oo 5 (.box 89 (.t 4)),
 oo 0 (.val (.t 5))] [])
 (.ret))
def rs20 : List RR := [.tmp 0]
theorem fun20 : FunR Tryd.prog 20 rc20 rs20 6 := ⟨Tryd.f20, Tryd.func20, by kernel_rfl, by kernel_rfl, by kernel_rfl⟩
/-- causeway/causewaylaw07.told -/
def rc21 : RCI :=
 .seq (.plain (.ops 0 false [
 oo 2 (.val (.c (.slice none 0 0)))] []))
 (.seq (.plain (.ops 1 false [
 oo 3 (.alloc 22 [(.slice none 0 0)])] []))
 (.seq (.seq (.plain (.ops 2 false [
 oo 6 (.val (.t 0)),
 oo 7 (.call 11 [.t 6])] []))
 (.block 0 (.range (.t 7) [8,9] (.plain (.seq (.ops 3 false [
 oo 4 (.val (.t 8))] [])
 (.ops 4 false [
 oo 5 (.val (.t 9))] [])))
 (.plain (.block 1 (.ops 5 false [
 oo 10 (.load (.t 3)),
 oo 11 (.val (.t 4)),
 oo 12 (.val (.t 5)),
 oo 13 (.build [(.string ⟨#[]⟩),(.slice none 0 0)] [(0,1,(.t 11)),(1,1,(.t 12))]),
 oo 14 (.buildS 34 1 [(.string ⟨#[]⟩),(.slice none 0 0)] [(0,2,(.t 13))]),
 oo 15 (.blt .append #[22,22] 22 [.t 10,.t 14]),
 ⟨none,.store 1 (.t 3) (.t 15),none⟩] []))))))
 (.plain (.seq (.ops 6 false [
 oo 16 (.load (.t 3)),
 oo 2 (.val (.t 16))] [])
 (.ret)))))
def rs21 : List RR := [.tmp 2]
theorem fun21 : FunRI Tryd.prog 21 rc21 rs21 17 := ⟨Tryd.f21, Tryd.func21, by kernel_rfl, by kernel_rfl, by kernel_rfl⟩
/-- (*causeway/store.Table).Len -/
def rc23 : RC :=
 .seq (.ops 0 false [
 oo 2 (.val (.c (.int .i64 0)))] [])
 (.seq (.ops 1 false [
 oo 3 (.val (.t 0)),
 oo 4 (.nilCheck (.t 3)),
 oo 5 (.fieldA 0 (.t 4)),
 oo 6 (.load (.t 5)),
 oo 7 (.blt .len #[84] 3 [.t 6]),
 oo 2 (.val (.t 7))] [])
 (.ret))
def rs23 : List RR := [.tmp 2]
theorem fun23 : FunR Tryd.prog 23 rc23 rs23 8 := ⟨Tryd.f23, Tryd.func23, by kernel_rfl, by kernel_rfl, by kernel_rfl⟩
/-- causeway/store.Over -/
def rc24 : RC :=
 .seq (.ops 0 false [
 oo 2 (.val (.c (.pointer none))),
 oo 3 (.val (.c (.int .i64 0)))] [])
 (.seq (.seq (.ops 1 false [
 oo 4 (.val (.t 0)),
 oo 5 (.eqp .ifc false (.t 4) (.c .nilIface))] [])
 (.cond (.t 5) (.seq (.ops 2 false [
 oo 2 (.val (.c (.pointer none))),
 oo 3 (.val (.c (.int .i64 1)))] [])
 (.ret))
 (.skip)))
 (.seq (.ops 3 false [
 oo 6 (.val (.t 0)),
 oo 7 (.mkMap 84),
 oo 8 (.mkMap 84),
 oo 9 (.build [.nilIface,(.map none),(.map none),(.slice none 0 0),(.slice none 0 0)] [(0,1,(.t 6)),(1,1,(.t 7)),(2,1,(.t 8))]),
 oo 10 (.box 95 (.t 9)),
 oo 2 (.val (.t 10)),
 oo 3 (.val (.c (.int .i64 0)))] [])
 (.ret)))
def rs24 : List RR := [.tmp 2, .tmp 3]
theorem fun24 : FunR Tryd.prog 24 rc24 rs24 11 := ⟨Tryd.f24, Tryd.func24, by kernel_rfl, by kernel_rfl, by kernel_rfl⟩
/-- (*causeway/store.State).Get -/
def rc25 : RC :=
 .seq (.ops 0 false [
 oo 4 (.val (.c (.slice none 0 0))),
 oo 5 (.val (.c (.int .i64 0)))] [])
 (.seq (.seq (.ops 1 false [
 oo 8 (.val (.t 1)),
 oo 9 (.call 48 [(.t 8),(.c (.slice none 0 0))]),
 oo 6 (.val (.t 9))] [])
 (.seq (.ops 2 false [
 oo 10 (.val (.t 6)),
 oo 11 (.bin .neq (.t 10) (.c (.int .i64 0)))] [])
 (.cond (.t 11) (.seq (.ops 3 false [
 oo 12 (.val (.t 6)),
 oo 4 (.val (.c (.slice none 0 0))),
 oo 5 (.val (.t 12))] [])
 (.ret))
 (.skip))))
 (.seq (.seq (.ops 4 false [
 oo 13 (.val (.t 0)),
 oo 14 (.val (.t 1)),
 oo 15 (.call 53 [.t 13,.t 14]),
 oo 7 (.val (.t 15))] [])
 (.seq (.ops 5 false [
 oo 16 (.val (.t 7)),
 oo 17 (.bin .neq (.t 16) (.c (.int .i64 0)))] [])
 (.cond (.t 17) (.seq (.ops 6 false [
 oo 18 (.val (.t 7)),
 oo 4 (.val (.c (.slice none 0 0))),
 oo 5 (.val (.t 18))] [])
 (.ret))
 (.skip))))
 (.seq (.ops 7 false [
 oo 19 (.val (.t 0)),
 oo 20 (.val (.t 1)),
 oo 21 (.call 54 [.t 19,.t 20]),
 oo 22 (.call 47 [.t 21]),
 oo 4 (.val (.t 22)),
 oo 5 (.val (.c (.int .i64 0)))] [])
 (.ret))))
def rs25 : List RR := [.tmp 4, .tmp 5]
theorem fun25 : FunR Tryd.prog 25 rc25 rs25 23 := ⟨Tryd.f25, Tryd.func25, by kernel_rfl, by kernel_rfl, by kernel_rfl⟩
/-- (*causeway/store.Table).Find -/
def rc41 : RC :=
 .seq (.ops 0 false [
 oo 4 (.val (.c (.slice none 0 0))),
 oo 5 (.val (.c (.int .i64 0)))] [])
 (.seq (.seq (.ops 1 false [
 oo 7 (.val (.t 1)),
 oo 8 (.call 48 [(.t 7),(.c (.slice none 0 0))]),
 oo 6 (.val (.t 8))] [])
 (.seq (.ops 2 false [
 oo 9 (.val (.t 6)),
 oo 10 (.bin .neq (.t 9) (.c (.int .i64 0)))] [])
 (.cond (.t 10) (.seq (.ops 3 false [
 oo 11 (.val (.t 6)),
 oo 4 (.val (.c (.slice none 0 0))),
 oo 5 (.val (.t 11))] [])
 (.ret))
 (.skip))))
 (.seq (.ops 4 false [
 oo 12 (.val (.t 0)),
 oo 13 (.nilCheck (.t 12)),
 oo 14 (.fieldA 0 (.t 13)),
 oo 15 (.load (.t 14)),
 oo 16 (.val (.t 1)),
 oo 17 (.look 84 (.t 15) (.t 16) false),
 oo 18 (.call 47 [.t 17]),
 oo 4 (.val (.t 18)),
 oo 5 (.val (.c (.int .i64 0)))] [])
 (.ret)))
def rs41 : List RR := [.tmp 4, .tmp 5]
theorem fun41 : FunR Tryd.prog 41 rc41 rs41 19 := ⟨Tryd.f41, Tryd.func41, by kernel_rfl, by kernel_rfl, by kernel_rfl⟩
/-- (*causeway/store.Table).pairs -/
def rc45 : RC :=
 .seq (.ops 0 false [
 oo 2 (.val (.c (.slice none 0 0)))] [])
 (.seq (.ops 1 false [
 oo 3 (.val (.c (.slice none 0 0)))] [])
 (.seq (.seq (.ops 2 false [
 oo 6 (.val (.t 0)),
 oo 7 (.nilCheck (.t 6)),
 oo 8 (.fieldA 0 (.t 7)),
 oo 9 (.load (.t 8)),
 oo 10 (.call 57 [.t 9]),
 oo 11 (.call 56 [.t 10]),
 oo 12 (.len (.t 11)),
 oo 13 (.val (.c (.int .i64 0)))] [])
 (.block 0 (.loop (.seq (.ops 3 false [
 oo 14 (.bin .lss (.t 13) (.t 12))] [])
 (.seq (.cond (.t 14) (.skip)
 (.exit 0))
 (.seq (.block 1 (.seq (.ops 4 false [
 oo 15 (.indexS 1 (.t 11) (.t 13)),
 oo 16 (.load (.t 15)),
 oo 5 (.val (.t 16))] [])
 (.ops 5 false [
 oo 17 (.val (.t 3)),
 oo 18 (.val (.t 5)),
 oo 19 (.val (.t 0)),
 oo 20 (.nilCheck (.t 19)),
 oo 21 (.fieldA 0 (.t 20)),
 oo 22 (.load (.t 21)),
 oo 23 (.val (.t 5)),
 oo 24 (.look 84 (.t 22) (.t 23) false),
 oo 25 (.build [(.string ⟨#[]⟩),(.slice none 0 0)] [(0,1,(.t 18)),(1,1,(.t 24))]),
 oo 26 (.buildS 34 1 [(.string ⟨#[]⟩),(.slice none 0 0)] [(0,2,(.t 25))]),
 oo 27 (.blt .append #[22,22] 22 [.t 17,.t 26]),
 oo 3 (.val (.t 27))] [])))
 (.ops 6 false [
 oo 28 (.bin .add (.t 13) (.c (.int .i64 1))),
 oo 13 (.val (.t 28))] [])))))))
 (.seq (.ops 7 false [
 oo 29 (.val (.t 3)),
 oo 2 (.val (.t 29))] [])
 (.ret))))
def rs45 : List RR := [.tmp 2]
theorem fun45 : FunR Tryd.prog 45 rc45 rs45 30 := ⟨Tryd.f45, Tryd.func45, by kernel_rfl, by kernel_rfl, by kernel_rfl⟩
/-- (*causeway/store.Table).All$1 -/
def rc46 : RC :=
 .seq (.ops 0 false [
 oo 5 (.load (.t 1)),
 oo 6 (.len (.t 5)),
 oo 7 (.val (.c (.int .i64 0)))] [])
 (.block 0 (.loop (.seq (.ops 1 false [
 oo 8 (.bin .lss (.t 7) (.t 6))] [])
 (.seq (.cond (.t 8) (.skip)
 (.exit 0))
 (.seq (.block 1 (.seq (.ops 2 false [
 oo 9 (.indexS 2 (.t 5) (.t 7)),
 oo 10 (.loadN 2 (.t 9)),
 oo 4 (.alloc 34 [(.string ⟨#[]⟩),(.slice none 0 0)]),
 ⟨none,.store 2 (.t 4) (.t 10),none⟩] [])
 (.seq (.ops 3 true [
 oo 11 (.val (.t 0)),
 oo 12 (.fieldA 0 (.t 4)),
 oo 13 (.load (.t 12)),
 oo 14 (.fieldA 1 (.t 4)),
 oo 15 (.load (.t 14)),
 oo 16 (.call 47 [.t 15]),
 oo 17 (.callv (.t 11) [.t 13,.t 16]),
 oo 18 (.not (.t 17))] [([],[]),([],[]),([1],[1]),([],[]),([3],[3]),([4],[4]),([0,2,5,5],[0,2,5]),([6],[6])])
 (.cond (.t 18) (.ret)
 (.skip)))))
 (.ops 4 false [
 oo 19 (.bin .add (.t 7) (.c (.int .i64 1))),
 oo 7 (.val (.t 19))] []))))))
def rs46 : List RR := []
theorem fun46 : FunR Tryd.prog 46 rc46 rs46 20 := ⟨Tryd.f46, Tryd.func46, by kernel_rfl, by kernel_rfl, by kernel_rfl⟩
/-- slices.Clone[[]byte,byte] -/
def rc47 : RC :=
 .seq (.ops 0 false [
 oo 2 (.val (.c (.slice none 0 0)))] [])
 (.seq (.seq (.ops 1 false [
 oo 3 (.val (.t 0)),
 oo 4 (.eqp .slc false (.t 3) (.c (.slice none 0 0)))] [])
 (.cond (.t 4) (.seq (.ops 2 false [
 oo 2 (.val (.c (.slice none 0 0)))] [])
 (.ret))
 (.skip)))
 (.seq (.ops 3 false [
 oo 5 (.buildS 5 0 [] []),
 oo 6 (.val (.t 0)),
 oo 7 (.blt .append #[30,30] 30 [.t 5,.t 6]),
 oo 2 (.val (.t 7))] [])
 (.ret)))
def rs47 : List RR := [.tmp 2]
theorem fun47 : FunR Tryd.prog 47 rc47 rs47 8 := ⟨Tryd.f47, Tryd.func47, by kernel_rfl, by kernel_rfl, by kernel_rfl⟩
/-- causeway/store.may -/
def rc48 : RC :=
 .seq (.ops 0 false [
 oo 4 (.val (.c (.int .i64 0)))] [])
 (.seq (.block 0 (.seq (.ops 1 false [
 oo 6 (.val (.t 0)),
 oo 7 (.eqp .str false (.t 6) (.c (.string ⟨#[]⟩))),
 oo 8 (.val (.t 7)),
 ⟨some 9,.val (.t 0),some (8,false)⟩,
 ⟨some 10,.lenT (.t 9),some (8,false)⟩,
 ⟨some 11,.bin .gtr (.t 10) (.c (.int .i64 128)),some (8,false)⟩,
 oo 12 (.pick (.t 8) (.c (.bool true)) (.t 11)),
 oo 5 (.val (.t 12))] [])
 (.cond (.t 5) (.seq (.ops 2 false [
 oo 4 (.val (.c (.int .i64 70)))] [])
 (.ret))
 (.seq (.ops 3 false [
 oo 14 (.val (.t 1)),
 oo 15 (.len (.t 14)),
 oo 16 (.bin .gtr (.t 15) (.c (.int .i64 4096))),
 oo 13 (.val (.t 16))] [])
 (.cond (.t 13) (.seq (.ops 4 false [
 oo 4 (.val (.c (.int .i64 71)))] [])
 (.ret))
 (.skip))))))
 (.seq (.ops 5 false [
 oo 4 (.val (.c (.int .i64 0)))] [])
 (.ret)))
def rs48 : List RR := [.tmp 4]
theorem fun48 : FunR Tryd.prog 48 rc48 rs48 17 := ⟨Tryd.f48, Tryd.func48, by kernel_rfl, by kernel_rfl, by kernel_rfl⟩
/-- (*causeway/store.Table).lay -/
def rc49 : RC :=
 .seq (.ops 0 false [
 oo 10 (.val (.t 1)),
 oo 11 (.cvt 9 30 (.t 10)),
 oo 12 (.call 63 [.t 11]),
 oo 6 (.alloc 46 (List.replicate 32 (.int .u8 0))),
 ⟨none,.store 32 (.t 6) (.t 12),none⟩] [])
 (.seq (.ops 1 true [
 oo 13 (.val (.t 0)),
 oo 14 (.nilCheck (.t 13)),
 oo 15 (.fieldA 2 (.t 14)),
 oo 16 (.load (.t 15)),
 oo 17 (.loadN 32 (.t 6)),
 oo 18 (.look 87 (.t 16) (.t 17) false),
 oo 7 (.val (.t 18))] [([],[]),([0],[0]),([1],[1]),([2],[2]),([],[]),([3,4],[3,4]),([5,0,1,2,3,4,5],[5])])
 (.seq (.ops 2 false [
 oo 20 (.val (.t 7)),
 oo 21 (.val (.t 1)),
 oo 22 (.call 70 [.t 20,.t 21]),
 oo 19 (.val (.t 22)),
 oo 23 (.extract 0 (.t 19)),
 oo 24 (.extract 1 (.t 19)),
 oo 8 (.val (.t 23)),
 oo 9 (.val (.t 24))] [])
 (.seq (.seq (.ops 3 false [
 oo 25 (.val (.t 2)),
 oo 26 (.len (.t 25)),
 oo 27 (.bin .gtr (.t 26) (.c (.int .i64 0)))] [])
 (.cond (.t 27) (.seq (.ops 4 true [
 oo 28 (.val (.t 0)),
 oo 29 (.nilCheck (.t 28)),
 oo 30 (.fieldA 0 (.t 29)),
 oo 31 (.load (.t 30)),
 oo 32 (.val (.t 1)),
 oo 33 (.val (.t 2)),
 oo 34 (.call 47 [.t 33]),
 ⟨none,.upd 84 (.t 31) (.t 32) (.t 34),none⟩] [([],[]),([0],[0]),([1],[1]),([2],[2]),([],[]),([],[]),([5],[5]),([3,4,6,6,0,1,2,3,4,5,6],[3,4,6])])
 (.seq (.ops 5 false [
 oo 35 (.val (.t 9)),
 oo 36 (.not (.t 35))] [])
 (.cond (.t 36) (.ops 6 false [
 oo 37 (.val (.t 7)),
 oo 38 (.call 72 [.t 37]),
 oo 39 (.val (.t 8)),
 oo 40 (.val (.t 1)),
 oo 41 (.buildS 9 1 [(.string ⟨#[]⟩)] [(0,1,(.t 40))]),
 oo 42 (.call 71 [.t 38,.t 39,.t 41]),
 oo 7 (.val (.t 42))] [])
 (.skip))))
 (.seq (.ops 7 false [
 oo 43 (.val (.t 9))] [])
 (.cond (.t 43) (.seq (.ops 8 false [
 oo 44 (.val (.t 0)),
 oo 45 (.nilCheck (.t 44)),
 oo 46 (.fieldA 0 (.t 45)),
 oo 47 (.load (.t 46)),
 oo 48 (.val (.t 1)),
 ⟨none,.blt .delete #[84,9] 0 [.t 47,.t 48],none⟩] [])
 (.ops 9 false [
 oo 49 (.val (.t 7)),
 oo 50 (.call 72 [.t 49]),
 oo 51 (.val (.t 8)),
 oo 52 (.val (.t 8)),
 oo 53 (.bin .add (.t 52) (.c (.int .i64 1))),
 oo 54 (.call 73 [.t 50,.t 51,.t 53]),
 oo 7 (.val (.t 54))] []))
 (.skip)))))
 (.seq (.seq (.ops 10 false [
 oo 55 (.val (.t 7)),
 oo 56 (.len (.t 55)),
 oo 57 (.bin .eql (.t 56) (.c (.int .i64 0)))] [])
 (.cond (.t 57) (.seq (.ops 11 true [
 oo 58 (.val (.t 0)),
 oo 59 (.nilCheck (.t 58)),
 oo 60 (.fieldA 2 (.t 59)),
 oo 61 (.load (.t 60)),
 oo 62 (.loadN 32 (.t 6)),
 ⟨none,.blt .delete #[87,46] 0 [.t 61,.t 62],none⟩] [([],[]),([0],[0]),([1],[1]),([2],[2]),([],[]),([3,4],[3,4])])
 (.seq (.ops 12 true [
 oo 63 (.val (.t 0)),
 oo 64 (.nilCheck (.t 63)),
 oo 65 (.fieldA 1 (.t 64)),
 oo 66 (.load (.t 65)),
 oo 67 (.loadN 32 (.t 6)),
 oo 68 (.build (List.replicate 32 (.int .u8 0)) []),
 oo 69 (.call 74 [.t 66,.t 67,.t 68])] [([],[]),([0],[0]),([1],[1]),([2],[2]),([],[]),([],[]),([3,4,5],[3,4,5])])
 (.ret)))
 (.skip)))
 (.seq (.ops 13 true [
 oo 70 (.val (.t 0)),
 oo 71 (.nilCheck (.t 70)),
 oo 72 (.fieldA 2 (.t 71)),
 oo 73 (.load (.t 72)),
 oo 74 (.loadN 32 (.t 6)),
 oo 75 (.val (.t 7)),
 ⟨none,.upd 87 (.t 73) (.t 74) (.t 75),none⟩] [([],[]),([0],[0]),([1],[1]),([2],[2]),([],[]),([],[]),([3,4,5,0,1,2,3,4,5],[3,4,5])])
 (.ops 14 true [
 oo 76 (.val (.t 0)),
 oo 77 (.nilCheck (.t 76)),
 oo 78 (.fieldA 1 (.t 77)),
 oo 79 (.load (.t 78)),
 oo 80 (.loadN 32 (.t 6)),
 oo 81 (.val (.t 0)),
 oo 82 (.nilCheck (.t 81)),
 oo 83 (.fieldA 0 (.t 82)),
 oo 84 (.load (.t 83)),
 oo 85 (.val (.t 7)),
 oo 86 (.val (.t 7)),
 oo 87 (.len (.t 86)),
 oo 88 (.bin .sub (.t 87) (.c (.int .i64 1))),
 oo 89 (.indexS 1 (.t 85) (.t 88)),
 oo 90 (.load (.t 89)),
 oo 91 (.look 84 (.t 84) (.t 90) false),
 oo 92 (.call 63 [.t 91]),
 oo 93 (.call 74 [.t 79,.t 80,.t 92])] [([],[]),([0],[0]),([1],[1]),([2],[2]),([],[]),([],[]),([5],[5]),([6],[6]),([7],[7]),([],[]),([],[]),([10],[10]),([11],[11]),([9,12],[9,12]),([13],[13]),([8,14],[8,14]),([15],[15]),([3,4,16,16],[3,4,16])]))))))
def rs49 : List RR := []
theorem fun49 : FunR Tryd.prog 49 rc49 rs49 94 := ⟨Tryd.f49, Tryd.func49, by kernel_rfl, by kernel_rfl, by kernel_rfl⟩
/-- causeway/causewayref07.with -/
def rc50 : RC :=
 .seq (.ops 0 false [
 oo 6 (.val (.c (.slice none 0 0)))] [])
 (.seq (.ops 1 false [
 oo 7 (.val (.c (.slice none 0 0)))] [])
 (.seq (.ops 2 false [
 oo 8 (.val (.c (.bool false)))] [])
 (.seq (.seq (.ops 3 false [
 oo 9 (.val (.c (.int .i64 0)))] [])
 (.block 0 (.loop (.seq (.seq (.ops 4 false [
 oo 10 (.val (.t 9)),
 oo 11 (.val (.t 0)),
 oo 12 (.len (.t 11)),
 oo 13 (.bin .lss (.t 10) (.t 12))] [])
 (.cond (.t 13) (.skip)
 (.exit 0)))
 (.seq (.block 1 (.seq (.seq (.ops 6 false [
 oo 16 (.val (.t 8)),
 oo 17 (.not (.t 16)),
 oo 18 (.val (.t 17)),
 ⟨some 19,.val (.t 0),some (18,true)⟩,
 ⟨some 20,.val (.t 9),some (18,true)⟩,
 ⟨some 21,.indexS 2 (.t 19) (.t 20),some (18,true)⟩,
 ⟨some 22,.fieldA 0 (.t 21),some (18,true)⟩,
 ⟨some 23,.load (.t 22),some (18,true)⟩,
 ⟨some 24,.val (.t 1),some (18,true)⟩,
 ⟨some 25,.sbin .geq (.t 23) (.t 24),some (18,true)⟩,
 oo 26 (.pick (.t 18) (.t 25) (.c (.bool false)))] [])
 (.cond (.t 26) (.seq (.ops 7 false [
 oo 8 (.val (.c (.bool true)))] [])
 (.ops 8 false [
 oo 27 (.val (.t 7)),
 oo 28 (.val (.t 1)),
 oo 29 (.val (.t 2)),
 oo 30 (.call 75 [.t 29]),
 oo 31 (.build [(.string ⟨#[]⟩),(.slice none 0 0)] [(0,1,(.t 28)),(1,1,(.t 30))]),
 oo 32 (.buildS 34 1 [(.string ⟨#[]⟩),(.slice none 0 0)] [(0,2,(.t 31))]),
 oo 33 (.blt .append #[22,22] 22 [.t 27,.t 32]),
 oo 7 (.val (.t 33))] []))
 (.skip)))
 (.seq (.ops 9 false [
 oo 34 (.val (.t 0)),
 oo 35 (.val (.t 9)),
 oo 36 (.indexS 2 (.t 34) (.t 35)),
 oo 37 (.fieldA 0 (.t 36)),
 oo 38 (.load (.t 37)),
 oo 39 (.val (.t 1)),
 oo 40 (.eqp .str true (.t 38) (.t 39))] [])
 (.cond (.t 40) (.ops 10 false [
 oo 41 (.val (.t 7)),
 oo 42 (.val (.t 0)),
 oo 43 (.val (.t 9)),
 oo 44 (.indexS 2 (.t 42) (.t 43)),
 oo 45 (.loadN 2 (.t 44)),
 oo 46 (.buildS 34 1 [(.string ⟨#[]⟩),(.slice none 0 0)] [(0,2,(.t 45))]),
 oo 47 (.blt .append #[22,22] 22 [.t 41,.t 46]),
 oo 7 (.val (.t 47))] [])
 (.skip)))))
 (.ops 5 false [
 oo 14 (.val (.t 9)),
 oo 15 (.bin .add (.t 14) (.c (.int .i64 1))),
 oo 9 (.val (.t 15))] []))))))
 (.seq (.seq (.ops 11 false [
 oo 48 (.val (.t 8)),
 oo 49 (.not (.t 48))] [])
 (.cond (.t 49) (.ops 12 false [
 oo 50 (.val (.t 7)),
 oo 51 (.val (.t 1)),
 oo 52 (.val (.t 2)),
 oo 53 (.call 75 [.t 52]),
 oo 54 (.build [(.string ⟨#[]⟩),(.slice none 0 0)] [(0,1,(.t 51)),(1,1,(.t 53))]),
 oo 55 (.buildS 34 1 [(.string ⟨#[]⟩),(.slice none 0 0)] [(0,2,(.t 54))]),
 oo 56 (.blt .append #[22,22] 22 [.t 50,.t 55]),
 oo 7 (.val (.t 56))] [])
 (.skip)))
 (.seq (.ops 13 false [
 oo 57 (.val (.t 7)),
 oo 6 (.val (.t 57))] [])
 (.ret))))))
def rs50 : List RR := [.tmp 6]
theorem fun50 : FunR Tryd.prog 50 rc50 rs50 58 := ⟨Tryd.f50, Tryd.func50, by kernel_rfl, by kernel_rfl, by kernel_rfl⟩
/-- causeway/sparse.New -/
def rc51 : RC :=
 .seq (.ops 0 false [
 oo 0 (.val (.c (.pointer none)))] [])
 (.seq (.ops 1 false [
 oo 1 (.build [(.pointer none),(.int .i64 0)] []),
 oo 2 (.box 124 (.t 1)),
 oo 0 (.val (.t 2))] [])
 (.ret))
def rs51 : List RR := [.tmp 0]
theorem fun51 : FunR Tryd.prog 51 rc51 rs51 3 := ⟨Tryd.f51, Tryd.func51, by kernel_rfl, by kernel_rfl, by kernel_rfl⟩
/-- (*causeway/store.State).ask -/
def rc53 : RC :=
 .seq (.ops 0 false [
 oo 4 (.val (.c (.int .i64 0)))] [])
 (.seq (.seq (.ops 1 false [
 oo 10 (.val (.t 0)),
 oo 11 (.nilCheck (.t 10)),
 oo 12 (.fieldA 1 (.t 11)),
 oo 13 (.load (.t 12)),
 oo 14 (.val (.t 1)),
 oo 15 (.look 84 (.t 13) (.t 14) true),
 oo 9 (.val (.t 15)),
 oo 16 (.extract 0 (.t 9)),
 oo 17 (.extract 1 (.t 9)),
 oo 5 (.val (.t 16)),
 oo 6 (.val (.t 17))] [])
 (.seq (.ops 2 false [
 oo 18 (.val (.t 6))] [])
 (.cond (.t 18) (.seq (.ops 3 false [
 oo 4 (.val (.c (.int .i64 0)))] [])
 (.ret))
 (.skip))))
 (.seq (.ops 4 false [
 oo 20 (.val (.t 0)),
 oo 21 (.nilCheck (.t 20)),
 oo 22 (.fieldA 0 (.t 21)),
 oo 23 (.load (.t 22)),
 oo 24 (.val (.t 1)),
 oo 25 (.inv (.t 23) "Find" [.t 24]),
 oo 19 (.val (.t 25)),
 oo 26 (.extract 0 (.t 19)),
 oo 27 (.extract 1 (.t 19)),
 oo 7 (.val (.t 26)),
 oo 8 (.val (.t 27))] [])
 (.seq (.seq (.ops 5 false [
 oo 28 (.val (.t 8)),
 oo 29 (.bin .neq (.t 28) (.c (.int .i64 0)))] [])
 (.cond (.t 29) (.seq (.ops 6 false [
 oo 30 (.val (.t 8)),
 oo 4 (.val (.t 30))] [])
 (.ret))
 (.skip)))
 (.seq (.seq (.ops 7 false [
 oo 31 (.val (.t 7)),
 oo 32 (.len (.t 31)),
 oo 33 (.bin .gtr (.t 32) (.c (.int .i64 4096)))] [])
 (.cond (.t 33) (.seq (.ops 8 false [
 oo 4 (.val (.c (.int .i64 71)))] [])
 (.ret))
 (.skip)))
 (.seq (.ops 9 true [
 oo 34 (.val (.t 0)),
 oo 35 (.nilCheck (.t 34)),
 oo 36 (.fieldA 1 (.t 35)),
 oo 37 (.load (.t 36)),
 oo 38 (.val (.t 1)),
 oo 39 (.val (.t 7)),
 oo 40 (.call 47 [.t 39]),
 ⟨none,.upd 84 (.t 37) (.t 38) (.t 40),none⟩] [([],[]),([0],[0]),([1],[1]),([2],[2]),([],[]),([],[]),([5],[5]),([3,4,6,6,0,1,2,3,4,5,6],[3,4,6])])
 (.seq (.ops 10 false [
 oo 4 (.val (.c (.int .i64 0)))] [])
 (.ret)))))))
def rs53 : List RR := [.tmp 4]
theorem fun53 : FunR Tryd.prog 53 rc53 rs53 41 := ⟨Tryd.f53, Tryd.func53, by kernel_rfl, by kernel_rfl, by kernel_rfl⟩
/-- (*causeway/store.State).value -/
def rc54 : RC :=
 .seq (.ops 0 false [
 oo 4 (.val (.c (.slice none 0 0)))] [])
 (.seq (.seq (.ops 1 false [
 oo 8 (.val (.t 0)),
 oo 9 (.nilCheck (.t 8)),
 oo 10 (.fieldA 2 (.t 9)),
 oo 11 (.load (.t 10)),
 oo 12 (.val (.t 1)),
 oo 13 (.look 84 (.t 11) (.t 12) true),
 oo 7 (.val (.t 13)),
 oo 14 (.extract 0 (.t 7)),
 oo 15 (.extract 1 (.t 7)),
 oo 5 (.val (.t 14)),
 oo 6 (.val (.t 15))] [])
 (.seq (.ops 2 false [
 oo 16 (.val (.t 6))] [])
 (.cond (.t 16) (.seq (.ops 3 false [
 oo 17 (.val (.t 5)),
 oo 4 (.val (.t 17))] [])
 (.ret))
 (.skip))))
 (.seq (.ops 4 false [
 oo 18 (.val (.t 0)),
 oo 19 (.nilCheck (.t 18)),
 oo 20 (.fieldA 1 (.t 19)),
 oo 21 (.load (.t 20)),
 oo 22 (.val (.t 1)),
 oo 23 (.look 84 (.t 21) (.t 22) false),
 oo 4 (.val (.t 23))] [])
 (.ret)))
def rs54 : List RR := [.tmp 4]
theorem fun54 : FunR Tryd.prog 54 rc54 rs54 24 := ⟨Tryd.f54, Tryd.func54, by kernel_rfl, by kernel_rfl, by kernel_rfl⟩
/-- causeway/digest.Sum -/
def rc63 : RC :=
 .seq (.ops 0 false [
 oo 2 (.alloc 46 (List.replicate 32 (.int .u8 0)))] [])
 (.seq (.ops 1 false [
 oo 3 (.val (.t 0)),
 oo 4 (.buildS 30 1 [(.slice none 0 0)] [(0,1,(.t 3))]),
 oo 5 (.call 81 [.t 4]),
 ⟨none,.store 32 (.t 2) (.t 5),none⟩] [])
 (.ret))
def rs63 : List RR := [.cell 2 (some 32)]
theorem fun63 : FunR Tryd.prog 63 rc63 rs63 6 := ⟨Tryd.f63, Tryd.func63, by kernel_rfl, by kernel_rfl, by kernel_rfl⟩
/-- slices.BinarySearch[[]string,string] -/
def rc70 : RC :=
 .seq (.ops 0 false [
 oo 4 (.val (.c (.int .i64 0))),
 oo 5 (.val (.c (.bool false)))] [])
 (.seq (.ops 1 false [
 oo 10 (.val (.t 0)),
 oo 11 (.len (.t 10)),
 oo 6 (.val (.t 11))] [])
 (.seq (.ops 2 false [
 oo 12 (.val (.t 6)),
 oo 7 (.val (.c (.int .i64 0))),
 oo 8 (.val (.t 12))] [])
 (.seq (.block 0 (.loop (.seq (.seq (.ops 3 false [
 oo 13 (.val (.t 7)),
 oo 14 (.val (.t 8)),
 oo 15 (.bin .lss (.t 13) (.t 14))] [])
 (.cond (.t 15) (.skip)
 (.exit 0)))
 (.block 1 (.seq (.ops 4 false [
 oo 16 (.val (.t 7)),
 oo 17 (.val (.t 8)),
 oo 18 (.bin .add (.t 16) (.t 17)),
 oo 19 (.conv .u64 (.t 18)),
 oo 20 (.bin .shr (.t 19) (.c (.int .u64 1))),
 oo 21 (.conv .i64 (.t 20)),
 oo 9 (.val (.t 21))] [])
 (.seq (.ops 5 false [
 oo 22 (.val (.t 0)),
 oo 23 (.val (.t 9)),
 oo 24 (.indexS 1 (.t 22) (.t 23)),
 oo 25 (.load (.t 24)),
 oo 26 (.val (.t 1)),
 oo 27 (.call 87 [.t 25,.t 26])] [])
 (.cond (.t 27) (.ops 6 false [
 oo 28 (.val (.t 9)),
 oo 29 (.bin .add (.t 28) (.c (.int .i64 1))),
 oo 7 (.val (.t 29))] [])
 (.ops 7 false [
 oo 30 (.val (.t 9)),
 oo 8 (.val (.t 30))] []))))))))
 (.seq (.ops 8 false [
 oo 31 (.val (.t 7)),
 oo 32 (.val (.t 7)),
 oo 33 (.val (.t 6)),
 oo 34 (.bin .lss (.t 32) (.t 33)),
 oo 35 (.val (.t 34)),
 ⟨some 36,.val (.t 0),some (35,true)⟩,
 ⟨some 37,.val (.t 7),some (35,true)⟩,
 ⟨some 38,.indexS 1 (.t 36) (.t 37),some (35,true)⟩,
 ⟨some 39,.load (.t 38),some (35,true)⟩,
 ⟨some 40,.val (.t 1),some (35,true)⟩,
 ⟨some 41,.eqp .str false (.t 39) (.t 40),some (35,true)⟩,
 ⟨some 42,.val (.t 41),some (35,true)⟩,
 ⟨some 43,.val (.t 0),some (42,false)⟩,
 ⟨some 44,.val (.t 7),some (42,false)⟩,
 ⟨some 45,.indexS 1 (.t 43) (.t 44),some (42,false)⟩,
 ⟨some 46,.load (.t 45),some (42,false)⟩,
 ⟨some 47,.call 88 [.t 46],some (42,false)⟩,
 ⟨some 48,.val (.t 47),some (42,false)⟩,
 ⟨some 49,.val (.t 1),some (48,true)⟩,
 ⟨some 50,.call 88 [.t 49],some (48,true)⟩,
 ⟨some 51,.pick (.t 48) (.t 50) (.c (.bool false)),some (42,false)⟩,
 ⟨some 52,.pick (.t 42) (.c (.bool true)) (.t 51),some (35,true)⟩,
 oo 53 (.pick (.t 35) (.t 52) (.c (.bool false))),
 oo 4 (.val (.t 31)),
 oo 5 (.val (.t 53))] [])
 (.ret)))))
def rs70 : List RR := [.tmp 4, .tmp 5]
theorem fun70 : FunR Tryd.prog 70 rc70 rs70 54 := ⟨Tryd.f70, Tryd.func70, by kernel_rfl, by kernel_rfl, by kernel_rfl⟩
/-- slices.Insert[[]string,string] -/
def rc71 : RC :=
 .seq (.ops 0 false [
 oo 6 (.val (.c (.slice none 0 0)))] [])
 (.seq (.ops 1 false [
 oo 10 (.val (.t 0)),
 oo 11 (.val (.t 1)),
 oo 12 (.slice 1 (.t 10) (some (.t 11)) none none)] [])
 (.seq (.ops 2 false [
 oo 13 (.val (.t 2)),
 oo 14 (.len (.t 13)),
 oo 7 (.val (.t 14))] [])
 (.seq (.seq (.ops 3 false [
 oo 15 (.val (.t 7)),
 oo 16 (.bin .eql (.t 15) (.c (.int .i64 0)))] [])
 (.cond (.t 16) (.seq (.ops 4 false [
 oo 17 (.val (.t 0)),
 oo 6 (.val (.t 17))] [])
 (.ret))
 (.skip)))
 (.seq (.ops 5 false [
 oo 18 (.val (.t 0)),
 oo 19 (.len (.t 18)),
 oo 8 (.val (.t 19))] [])
 (.seq (.seq (.ops 6 false [
 oo 20 (.val (.t 1)),
 oo 21 (.val (.t 8)),
 oo 22 (.bin .eql (.t 20) (.t 21))] [])
 (.cond (.t 22) (.seq (.ops 7 false [
 oo 23 (.val (.t 0)),
 oo 24 (.val (.t 2)),
 oo 25 (.blt .append #[67,67] 67 [.t 23,.t 24]),
 oo 6 (.val (.t 25))] [])
 (.ret))
 (.skip)))
 (.seq (.seq (.ops 8 false [
 oo 26 (.val (.t 8)),
 oo 27 (.val (.t 7)),
 oo 28 (.bin .add (.t 26) (.t 27)),
 oo 29 (.val (.t 0)),
 oo 30 (.blt .cap #[67] 3 [.t 29]),
 oo 31 (.bin .gtr (.t 28) (.t 30))] [])
 (.cond (.t 31) (.seq (.ops 9 false [
 oo 32 (.val (.t 0)),
 oo 33 (.val (.t 1)),
 oo 34 (.slice 1 (.t 32) none (some (.t 33)) none),
 oo 35 (.val (.t 8)),
 oo 36 (.val (.t 7)),
 oo 37 (.bin .add (.t 35) (.t 36)),
 oo 38 (.val (.t 1)),
 oo 39 (.bin .sub (.t 37) (.t 38)),
 oo 40 (.blt .append #[67,3] 67 [.t 34,.t 39]),
 oo 9 (.val (.t 40))] [])
 (.seq (.ops 10 false [
 oo 41 (.val (.t 9)),
 oo 42 (.val (.t 1)),
 oo 43 (.slice 1 (.t 41) (some (.t 42)) none none),
 oo 44 (.val (.t 2)),
 oo 45 (.blt .copy #[67,67] 3 [.t 43,.t 44])] [])
 (.seq (.ops 11 true [
 oo 46 (.val (.t 9)),
 oo 47 (.val (.t 1)),
 oo 48 (.val (.t 7)),
 oo 49 (.bin .add (.t 47) (.t 48)),
 oo 50 (.slice 1 (.t 46) (some (.t 49)) none none),
 oo 51 (.val (.t 0)),
 oo 52 (.val (.t 1)),
 oo 53 (.slice 1 (.t 51) (some (.t 52)) none none),
 oo 54 (.blt .copy #[67,67] 3 [.t 50,.t 53])] [([],[]),([],[]),([],[]),([1,2],[1,2]),([0,3],[0,3]),([],[]),([],[]),([5,6],[5,6]),([4,7],[4,7])])
 (.seq (.ops 12 false [
 oo 55 (.val (.t 9)),
 oo 6 (.val (.t 55))] [])
 (.ret)))))
 (.skip)))
 (.seq (.ops 13 false [
 oo 56 (.val (.t 0)),
 oo 57 (.val (.t 8)),
 oo 58 (.val (.t 7)),
 oo 59 (.bin .add (.t 57) (.t 58)),
 oo 60 (.slice 1 (.t 56) none (some (.t 59)) none),
 oo 0 (.val (.t 60))] [])
 (.seq (.seq (.ops 14 false [
 oo 61 (.val (.t 2)),
 oo 62 (.val (.t 0)),
 oo 63 (.val (.t 1)),
 oo 64 (.val (.t 7)),
 oo 65 (.bin .add (.t 63) (.t 64)),
 oo 66 (.slice 1 (.t 62) (some (.t 65)) none none),
 oo 67 (.ext 89 [.t 61,.t 66]),
 oo 68 (.not (.t 67))] [])
 (.cond (.t 68) (.seq (.ops 15 true [
 oo 69 (.val (.t 0)),
 oo 70 (.val (.t 1)),
 oo 71 (.val (.t 7)),
 oo 72 (.bin .add (.t 70) (.t 71)),
 oo 73 (.slice 1 (.t 69) (some (.t 72)) none none),
 oo 74 (.val (.t 0)),
 oo 75 (.val (.t 1)),
 oo 76 (.slice 1 (.t 74) (some (.t 75)) none none),
 oo 77 (.blt .copy #[67,67] 3 [.t 73,.t 76])] [([],[]),([],[]),([],[]),([1,2],[1,2]),([0,3],[0,3]),([],[]),([],[]),([5,6],[5,6]),([4,7],[4,7])])
 (.seq (.ops 16 false [
 oo 78 (.val (.t 0)),
 oo 79 (.val (.t 1)),
 oo 80 (.slice 1 (.t 78) (some (.t 79)) none none),
 oo 81 (.val (.t 2)),
 oo 82 (.blt .copy #[67,67] 3 [.t 80,.t 81])] [])
 (.seq (.ops 17 false [
 oo 83 (.val (.t 0)),
 oo 6 (.val (.t 83))] [])
 (.ret))))
 (.skip)))
 (.seq (.ops 18 false [
 oo 84 (.val (.t 0)),
 oo 85 (.val (.t 8)),
 oo 86 (.slice 1 (.t 84) (some (.t 85)) none none),
 oo 87 (.val (.t 2)),
 oo 88 (.blt .copy #[67,67] 3 [.t 86,.t 87])] [])
 (.seq (.ops 19 false [
 oo 89 (.val (.t 0)),
 oo 90 (.val (.t 1)),
 oo 91 (.slice 1 (.t 89) (some (.t 90)) none none),
 oo 92 (.val (.t 7)),
 oo 93 (.call 90 [.t 91,.t 92])] [])
 (.seq (.ops 20 false [
 oo 94 (.val (.t 0)),
 oo 6 (.val (.t 94))] [])
 (.ret))))))))))))
def rs71 : List RR := [.tmp 6]
theorem fun71 : FunR Tryd.prog 71 rc71 rs71 95 := ⟨Tryd.f71, Tryd.func71, by kernel_rfl, by kernel_rfl, by kernel_rfl⟩
/-- slices.Clone[[]string,string] -/
def rc72 : RC :=
 .seq (.ops 0 false [
 oo 2 (.val (.c (.slice none 0 0)))] [])
 (.seq (.seq (.ops 1 false [
 oo 3 (.val (.t 0)),
 oo 4 (.eqp .slc false (.t 3) (.c (.slice none 0 0)))] [])
 (.cond (.t 4) (.seq (.ops 2 false [
 oo 2 (.val (.c (.slice none 0 0)))] [])
 (.ret))
 (.skip)))
 (.seq (.ops 3 false [
 oo 5 (.buildS 9 0 [] []),
 oo 6 (.val (.t 0)),
 oo 7 (.blt .append #[67,67] 67 [.t 5,.t 6]),
 oo 2 (.val (.t 7))] [])
 (.ret)))
def rs72 : List RR := [.tmp 2]
theorem fun72 : FunR Tryd.prog 72 rc72 rs72 8 := ⟨Tryd.f72, Tryd.func72, by kernel_rfl, by kernel_rfl, by kernel_rfl⟩
/-- slices.Delete[[]string,string] -/
def rc73 : RC :=
 .seq (.ops 0 false [
 oo 6 (.val (.c (.slice none 0 0)))] [])
 (.seq (.ops 1 false [
 oo 8 (.val (.t 0)),
 oo 9 (.val (.t 1)),
 oo 10 (.val (.t 2)),
 oo 11 (.val (.t 0)),
 oo 12 (.len (.t 11)),
 oo 13 (.slice 1 (.t 8) (some (.t 9)) (some (.t 10)) (some (.t 12)))] [])
 (.seq (.seq (.ops 2 false [
 oo 14 (.val (.t 1)),
 oo 15 (.val (.t 2)),
 oo 16 (.bin .eql (.t 14) (.t 15))] [])
 (.cond (.t 16) (.seq (.ops 3 false [
 oo 17 (.val (.t 0)),
 oo 6 (.val (.t 17))] [])
 (.ret))
 (.skip)))
 (.seq (.ops 4 false [
 oo 18 (.val (.t 0)),
 oo 19 (.len (.t 18)),
 oo 7 (.val (.t 19))] [])
 (.seq (.ops 5 true [
 oo 20 (.val (.t 0)),
 oo 21 (.val (.t 1)),
 oo 22 (.slice 1 (.t 20) none (some (.t 21)) none),
 oo 23 (.val (.t 0)),
 oo 24 (.val (.t 2)),
 oo 25 (.slice 1 (.t 23) (some (.t 24)) none none),
 oo 26 (.blt .append #[67,67] 67 [.t 22,.t 25]),
 oo 0 (.val (.t 26))] [([],[]),([],[]),([0,1],[0,1]),([],[]),([],[]),([3,4],[3,4]),([2,5],[2,5]),([6,6,0,1,2,3,4,5,6],[0,3,6])])
 (.seq (.ops 6 false [
 oo 27 (.val (.t 0)),
 oo 28 (.val (.t 0)),
 oo 29 (.len (.t 28)),
 oo 30 (.val (.t 7)),
 oo 31 (.slice 1 (.t 27) (some (.t 29)) (some (.t 30)) none),
 ⟨none,.blt .clear #[67] 0 [.t 31],none⟩] [])
 (.seq (.ops 7 false [
 oo 32 (.val (.t 0)),
 oo 6 (.val (.t 32))] [])
 (.ret)))))))
def rs73 : List RR := [.tmp 6]
theorem fun73 : FunR Tryd.prog 73 rc73 rs73 33 := ⟨Tryd.f73, Tryd.func73, by kernel_rfl, by kernel_rfl, by kernel_rfl⟩
/-- (*causeway/sparse.Map).Put -/
def rc74 : RC :=
 .seq (.ops 0 false [
 oo 4 (.box 46 (.t 1)),
 oo 5 (.box 46 (.t 2))] [])
 (.seq (.ops 1 false [
 oo 8 (.build (List.replicate 32 (.int .u8 0)) []),
 oo 6 (.alloc 46 (List.replicate 32 (.int .u8 0))),
 ⟨none,.store 32 (.t 6) (.t 8),none⟩] [])
 (.seq (.ops 2 true [
 oo 9 (.val (.t 0)),
 oo 10 (.nilCheck (.t 9)),
 oo 11 (.fieldA 0 (.t 10)),
 oo 12 (.load (.t 11)),
 oo 13 (.loadN 32 (.t 4)),
 oo 14 (.call 91 [.t 12,.t 13]),
 oo 7 (.alloc 46 (List.replicate 32 (.int .u8 0))),
 ⟨none,.store 32 (.t 7) (.t 14),none⟩] [([],[]),([0],[0]),([1],[1]),([2],[2]),([],[]),([3,4],[3,4]),([],[]),([6,5,5,0,1,2,3,4,5,6],[5,6])])
 (.seq (.seq (.ops 3 false [
 oo 15 (.loadN 32 (.t 7)),
 oo 16 (.loadN 32 (.t 6)),
 oo 17 (.eqn true 46 (.t 15) (.t 16))] [])
 (.cond (.t 17) (.ops 4 false [
 oo 18 (.val (.t 0)),
 oo 19 (.nilCheck (.t 18)),
 oo 20 (.fieldA 1 (.t 19)),
 oo 21 (.load (.t 20)),
 oo 22 (.bin .sub (.t 21) (.c (.int .i64 1))),
 oo 23 (.nilCheck (.t 18)),
 oo 24 (.fieldA 1 (.t 23)),
 ⟨none,.store 1 (.t 24) (.t 22),none⟩] [])
 (.skip)))
 (.seq (.seq (.ops 5 false [
 oo 25 (.loadN 32 (.t 5)),
 oo 26 (.loadN 32 (.t 6)),
 oo 27 (.eqn true 46 (.t 25) (.t 26))] [])
 (.cond (.t 27) (.ops 6 false [
 oo 28 (.val (.t 0)),
 oo 29 (.nilCheck (.t 28)),
 oo 30 (.fieldA 1 (.t 29)),
 oo 31 (.load (.t 30)),
 oo 32 (.bin .add (.t 31) (.c (.int .i64 1))),
 oo 33 (.nilCheck (.t 28)),
 oo 34 (.fieldA 1 (.t 33)),
 ⟨none,.store 1 (.t 34) (.t 32),none⟩] [])
 (.skip)))
 (.ops 7 true [
 oo 35 (.val (.t 0)),
 oo 36 (.val (.t 0)),
 oo 37 (.nilCheck (.t 36)),
 oo 38 (.fieldA 0 (.t 37)),
 oo 39 (.load (.t 38)),
 oo 40 (.loadN 32 (.t 4)),
 oo 41 (.loadN 32 (.t 5)),
 oo 42 (.call 92 [(.t 39),(.t 40),(.t 41),(.c (.int .i64 0))]),
 oo 43 (.nilCheck (.t 35)),
 oo 44 (.fieldA 0 (.t 43)),
 ⟨none,.store 1 (.t 44) (.t 42),none⟩] [([],[]),([],[]),([1],[1]),([2],[2]),([3],[3]),([],[]),([],[]),([4,5,6],[4,5,6]),([0,0,1,2,3,4,5,6,7],[0]),([8,0,1,2,3,4,5,6,7],[8]),([9,7,7,0,1,2,3,4,5,6,7],[7,9])])))))
def rs74 : List RR := []
theorem fun74 : FunR Tryd.prog 74 rc74 rs74 45 := ⟨Tryd.f74, Tryd.func74, by kernel_rfl, by kernel_rfl, by kernel_rfl⟩
/-- causeway/causewayref07.twin -/
def rc75 : RC :=
 .seq (.ops 0 false [
 oo 2 (.val (.c (.slice none 0 0)))] [])
 (.seq (.ops 1 false [
 oo 4 (.val (.t 0)),
 oo 5 (.len (.t 4)),
 oo 6 (.mkS 30 (.t 5) (.t 5)),
 oo 3 (.val (.t 6))] [])
 (.seq (.ops 2 false [
 oo 7 (.val (.t 3)),
 oo 8 (.val (.t 0)),
 oo 9 (.blt .copy #[30,30] 3 [.t 7,.t 8])] [])
 (.seq (.ops 3 false [
 oo 10 (.val (.t 3)),
 oo 2 (.val (.t 10))] [])
 (.ret))))
def rs75 : List RR := [.tmp 2]
theorem fun75 : FunR Tryd.prog 75 rc75 rs75 11 := ⟨Tryd.f75, Tryd.func75, by kernel_rfl, by kernel_rfl, by kernel_rfl⟩
/-- causeway/sparse.over -/
def rc76 : RC :=
 .seq (.ops 0 false [
 oo 2 (.alloc 46 (List.replicate 32 (.int .u8 0)))] [])
 (.seq (.seq (.ops 1 false [
 oo 3 (.val (.t 0)),
 oo 4 (.eqp .ptr false (.t 3) (.c (.pointer none)))] [])
 (.cond (.t 4) (.seq (.ops 2 false [
 oo 5 (.build (List.replicate 32 (.int .u8 0)) []),
 ⟨none,.store 32 (.t 2) (.t 5),none⟩] [])
 (.ret))
 (.skip)))
 (.seq (.ops 3 false [
 oo 6 (.val (.t 0)),
 oo 7 (.nilCheck (.t 6)),
 oo 8 (.fieldA 0 (.t 7)),
 oo 9 (.loadN 32 (.t 8)),
 ⟨none,.store 32 (.t 2) (.t 9),none⟩] [])
 (.ret)))
def rs76 : List RR := [.cell 2 (some 32)]
theorem fun76 : FunR Tryd.prog 76 rc76 rs76 10 := ⟨Tryd.f76, Tryd.func76, by kernel_rfl, by kernel_rfl, by kernel_rfl⟩
/-- causeway/digest.Parts -/
def rc81 : RC :=
 .seq (.ops 0 false [
 oo 2 (.alloc 46 (List.replicate 32 (.int .u8 0)))] [])
 (.seq (.ops 1 false [
 oo 6 (.call 95 []),
 oo 3 (.val (.t 6))] [])
 (.seq (.seq (.ops 2 false [
 oo 7 (.val (.t 0)),
 oo 8 (.len (.t 7)),
 oo 9 (.val (.c (.int .i64 0)))] [])
 (.block 0 (.loop (.seq (.ops 3 false [
 oo 10 (.bin .lss (.t 9) (.t 8))] [])
 (.seq (.cond (.t 10) (.skip)
 (.exit 0))
 (.seq (.block 1 (.seq (.ops 4 false [
 oo 11 (.indexS 1 (.t 7) (.t 9)),
 oo 12 (.load (.t 11)),
 oo 5 (.val (.t 12))] [])
 (.ops 5 false [
 oo 13 (.val (.t 3)),
 oo 14 (.val (.t 5)),
 oo 15 (.call 96 [.t 13,.t 14])] [])))
 (.ops 6 false [
 oo 16 (.bin .add (.t 9) (.c (.int .i64 1))),
 oo 9 (.val (.t 16))] [])))))))
 (.seq (.ops 7 false [
 oo 17 (.val (.t 3)),
 oo 18 (.call 97 [.t 17]),
 ⟨none,.store 32 (.t 2) (.t 18),none⟩] [])
 (.ret))))
def rs81 : List RR := [.cell 2 (some 32)]
theorem fun81 : FunR Tryd.prog 81 rc81 rs81 19 := ⟨Tryd.f81, Tryd.func81, by kernel_rfl, by kernel_rfl, by kernel_rfl⟩
/-- cmp.Less[string] -/
def rc87 : RC :=
 .seq (.ops 0 false [
 oo 4 (.val (.c (.bool false)))] [])
 (.seq (.ops 1 false [
 oo 5 (.val (.t 0)),
 oo 6 (.call 115 [.t 5]),
 oo 7 (.val (.t 6)),
 ⟨some 8,.val (.t 1),some (7,true)⟩,
 ⟨some 9,.call 115 [.t 8],some (7,true)⟩,
 ⟨some 10,.not (.t 9),some (7,true)⟩,
 oo 11 (.pick (.t 7) (.t 10) (.c (.bool false))),
 oo 12 (.val (.t 11)),
 ⟨some 13,.val (.t 0),some (12,false)⟩,
 ⟨some 14,.val (.t 1),some (12,false)⟩,
 ⟨some 15,.sbin .lss (.t 13) (.t 14),some (12,false)⟩,
 oo 16 (.pick (.t 12) (.c (.bool true)) (.t 15)),
 oo 4 (.val (.t 16))] [])
 (.ret))
def rs87 : List RR := [.tmp 4]
theorem fun87 : FunR Tryd.prog 87 rc87 rs87 17 := ⟨Tryd.f87, Tryd.func87, by kernel_rfl, by kernel_rfl, by kernel_rfl⟩
/-- slices.isNaN[string] -/
def rc88 : RC :=
 .seq (.ops 0 false [
 oo 2 (.val (.c (.bool false)))] [])
 (.seq (.ops 1 false [
 oo 3 (.val (.t 0)),
 oo 4 (.val (.t 0)),
 oo 5 (.eqp .str true (.t 3) (.t 4)),
 oo 2 (.val (.t 5))] [])
 (.ret))
def rs88 : List RR := [.tmp 2]
theorem fun88 : FunR Tryd.prog 88 rc88 rs88 6 := ⟨Tryd.f88, Tryd.func88, by kernel_rfl, by kernel_rfl, by kernel_rfl⟩
/-- causeway/sparse.find -/
def rc91 : RC :=
 .seq (.ops 0 false [
 oo 3 (.box 46 (.t 1)),
 oo 4 (.alloc 46 (List.replicate 32 (.int .u8 0)))] [])
 (.seq (.seq (.ops 1 false [
 oo 5 (.val (.c (.int .i64 0)))] [])
 (.block 0 (.loop (.seq (.seq (.ops 2 false [
 oo 6 (.val (.t 0)),
 oo 7 (.eqp .ptr true (.t 6) (.c (.pointer none)))] [])
 (.cond (.t 7) (.skip)
 (.exit 0)))
 (.seq (.block 1 (.seq (.seq (.ops 4 false [
 oo 10 (.val (.t 0)),
 oo 11 (.call 111 [.t 10])] [])
 (.cond (.t 11) (.seq (.seq (.ops 5 true [
 oo 12 (.val (.t 0)),
 oo 13 (.nilCheck (.t 12)),
 oo 14 (.fieldA 32 (.t 13)),
 oo 15 (.loadN 32 (.t 14)),
 oo 16 (.loadN 32 (.t 3)),
 oo 17 (.eqn false 46 (.t 15) (.t 16))] [([],[]),([0],[0]),([1],[1]),([2],[2]),([],[]),([3,4],[3,4])])
 (.cond (.t 17) (.seq (.ops 6 false [
 oo 18 (.val (.t 0)),
 oo 19 (.nilCheck (.t 18)),
 oo 20 (.fieldA 64 (.t 19)),
 oo 21 (.loadN 32 (.t 20)),
 ⟨none,.store 32 (.t 4) (.t 21),none⟩] [])
 (.ret))
 (.skip)))
 (.exit 0))
 (.skip)))
 (.seq (.ops 7 false [
 oo 22 (.loadN 32 (.t 3)),
 oo 23 (.val (.t 5)),
 oo 24 (.call 117 [.t 22,.t 23])] [])
 (.cond (.t 24) (.ops 8 false [
 oo 25 (.val (.t 0)),
 oo 26 (.nilCheck (.t 25)),
 oo 27 (.fieldA 97 (.t 26)),
 oo 28 (.load (.t 27)),
 oo 0 (.val (.t 28))] [])
 (.ops 9 false [
 oo 29 (.val (.t 0)),
 oo 30 (.nilCheck (.t 29)),
 oo 31 (.fieldA 96 (.t 30)),
 oo 32 (.load (.t 31)),
 oo 0 (.val (.t 32))] [])))))
 (.ops 3 false [
 oo 8 (.val (.t 5)),
 oo 9 (.bin .add (.t 8) (.c (.int .i64 1))),
 oo 5 (.val (.t 9))] []))))))
 (.seq (.ops 10 false [
 oo 33 (.build (List.replicate 32 (.int .u8 0)) []),
 ⟨none,.store 32 (.t 4) (.t 33),none⟩] [])
 (.ret)))
def rs91 : List RR := [.cell 4 (some 32)]
theorem fun91 : FunR Tryd.prog 91 rc91 rs91 34 := ⟨Tryd.f91, Tryd.func91, by kernel_rfl, by kernel_rfl, by kernel_rfl⟩
/-- causeway/sparse.put -/
def rc92 : RC :=
 .seq (.ops 0 false [
 oo 5 (.box 46 (.t 1)),
 oo 6 (.box 46 (.t 2)),
 oo 8 (.val (.c (.pointer none)))] [])
 (.seq (.ops 1 false [
 oo 12 (.loadN 32 (.t 6)),
 oo 13 (.build (List.replicate 32 (.int .u8 0)) []),
 oo 14 (.eqn false 46 (.t 12) (.t 13)),
 oo 9 (.val (.t 14))] [])
 (.seq (.block 0 (.seq (.ops 2 false [
 oo 16 (.val (.t 0)),
 oo 17 (.eqp .ptr false (.t 16) (.c (.pointer none))),
 oo 18 (.val (.t 17)),
 ⟨some 19,.val (.t 9),some (18,true)⟩,
 oo 20 (.pick (.t 18) (.t 19) (.c (.bool false))),
 oo 15 (.val (.t 20))] [])
 (.cond (.t 15) (.seq (.ops 3 false [
 oo 8 (.val (.c (.pointer none)))] [])
 (.ret))
 (.seq (.ops 4 false [
 oo 22 (.val (.t 0)),
 oo 23 (.eqp .ptr false (.t 22) (.c (.pointer none))),
 oo 21 (.val (.t 23))] [])
 (.cond (.t 21) (.seq (.ops 5 false [
 oo 24 (.loadN 32 (.t 5)),
 oo 25 (.loadN 32 (.t 6)),
 oo 26 (.call 118 [.t 24,.t 25]),
 oo 8 (.val (.t 26))] [])
 (.ret))
 (.seq (.ops 6 true [
 oo 28 (.val (.t 0)),
 oo 29 (.call 111 [.t 28]),
 oo 30 (.val (.t 29)),
 ⟨some 31,.val (.t 0),some (30,true)⟩,
 ⟨some 32,.nilCheck (.t 31),some (30,true)⟩,
 ⟨some 33,.fieldA 32 (.t 32),some (30,true)⟩,
 ⟨some 34,.loadN 32 (.t 33),some (30,true)⟩,
 ⟨some 35,.loadN 32 (.t 5),some (30,true)⟩,
 ⟨some 36,.eqn false 46 (.t 34) (.t 35),some (30,true)⟩,
 oo 37 (.pick (.t 30) (.t 36) (.c (.bool false))),
 oo 38 (.val (.t 37)),
 ⟨some 39,.val (.t 9),some (38,true)⟩,
 oo 40 (.pick (.t 38) (.t 39) (.c (.bool false))),
 oo 27 (.val (.t 40))] [([],[]),([0],[0]),([1,1],[1]),([2],[2]),([3,2],[2,3]),([4,2],[2,4]),([5,2],[2,5]),([2],[2]),([6,7,2],[2,6,7]),([2,8],[2,8]),([9,2],[9]),([10],[10]),([10,11],[10,11]),([12,10],[12])])
 (.cond (.t 27) (.seq (.ops 7 false [
 oo 8 (.val (.c (.pointer none)))] [])
 (.ret))
 (.seq (.ops 8 true [
 oo 42 (.val (.t 0)),
 oo 43 (.call 111 [.t 42]),
 oo 44 (.val (.t 43)),
 ⟨some 45,.val (.t 0),some (44,true)⟩,
 ⟨some 46,.nilCheck (.t 45),some (44,true)⟩,
 ⟨some 47,.fieldA 32 (.t 46),some (44,true)⟩,
 ⟨some 48,.loadN 32 (.t 47),some (44,true)⟩,
 ⟨some 49,.loadN 32 (.t 5),some (44,true)⟩,
 ⟨some 50,.eqn false 46 (.t 48) (.t 49),some (44,true)⟩,
 oo 51 (.pick (.t 44) (.t 50) (.c (.bool false))),
 oo 41 (.val (.t 51))] [([],[]),([0],[0]),([1,1],[1]),([2],[2]),([3,2],[2,3]),([4,2],[2,4]),([5,2],[2,5]),([2],[2]),([6,7,2],[2,6,7]),([2,8],[2,8]),([9,2],[9])])
 (.cond (.t 41) (.seq (.ops 9 false [
 oo 52 (.loadN 32 (.t 5)),
 oo 53 (.loadN 32 (.t 6)),
 oo 54 (.call 118 [.t 52,.t 53]),
 oo 8 (.val (.t 54))] [])
 (.ret))
 (.seq (.ops 10 false [
 oo 56 (.val (.t 0)),
 oo 57 (.call 111 [.t 56]),
 oo 58 (.val (.t 57)),
 ⟨some 59,.val (.t 9),some (58,true)⟩,
 oo 60 (.pick (.t 58) (.t 59) (.c (.bool false))),
 oo 55 (.val (.t 60))] [])
 (.cond (.t 55) (.seq (.ops 11 false [
 oo 61 (.val (.t 0)),
 oo 8 (.val (.t 61))] [])
 (.ret))
 (.skip))))))))))))
 (.seq (.ops 12 true [
 oo 62 (.val (.t 0)),
 oo 63 (.nilCheck (.t 62)),
 oo 64 (.fieldA 96 (.t 63)),
 oo 65 (.load (.t 64)),
 oo 66 (.val (.t 0)),
 oo 67 (.nilCheck (.t 66)),
 oo 68 (.fieldA 97 (.t 67)),
 oo 69 (.load (.t 68)),
 oo 10 (.val (.t 65)),
 oo 11 (.val (.t 69))] [([],[]),([0],[0]),([1],[1]),([2],[2]),([],[]),([4],[4]),([5],[5]),([6],[6]),([3,0,1,2,3],[3]),([7,8,0,1,2,3,4,5,6,7,8],[7])])
 (.seq (.seq (.ops 13 false [
 oo 70 (.val (.t 0)),
 oo 71 (.call 111 [.t 70])] [])
 (.cond (.t 71) (.seq (.ops 14 false [
 oo 72 (.val (.t 0)),
 oo 73 (.nilCheck (.t 72)),
 oo 74 (.fieldA 32 (.t 73)),
 oo 75 (.loadN 32 (.t 74)),
 oo 76 (.val (.t 3)),
 oo 77 (.call 117 [.t 75,.t 76])] [])
 (.cond (.t 77) (.ops 15 false [
 oo 78 (.val (.t 0)),
 oo 11 (.val (.t 78))] [])
 (.ops 16 false [
 oo 79 (.val (.t 0)),
 oo 10 (.val (.t 79))] [])))
 (.skip)))
 (.seq (.seq (.ops 17 false [
 oo 80 (.loadN 32 (.t 5)),
 oo 81 (.val (.t 3)),
 oo 82 (.call 117 [.t 80,.t 81])] [])
 (.cond (.t 82) (.ops 18 false [
 oo 83 (.val (.t 11)),
 oo 84 (.loadN 32 (.t 5)),
 oo 85 (.loadN 32 (.t 6)),
 oo 86 (.val (.t 3)),
 oo 87 (.bin .add (.t 86) (.c (.int .i64 1))),
 oo 88 (.call 92 [.t 83,.t 84,.t 85,.t 87]),
 oo 11 (.val (.t 88))] [])
 (.ops 19 false [
 oo 89 (.val (.t 10)),
 oo 90 (.loadN 32 (.t 5)),
 oo 91 (.loadN 32 (.t 6)),
 oo 92 (.val (.t 3)),
 oo 93 (.bin .add (.t 92) (.c (.int .i64 1))),
 oo 94 (.call 92 [.t 89,.t 90,.t 91,.t 93]),
 oo 10 (.val (.t 94))] [])))
 (.seq (.ops 20 false [
 oo 95 (.val (.t 10)),
 oo 96 (.val (.t 11)),
 oo 97 (.call 119 [.t 95,.t 96]),
 oo 8 (.val (.t 97))] [])
 (.ret)))))))
def rs92 : List RR := [.tmp 8]
theorem fun92 : FunR Tryd.prog 92 rc92 rs92 98 := ⟨Tryd.f92, Tryd.func92, by kernel_rfl, by kernel_rfl, by kernel_rfl⟩
/-- causeway/digest.New -/
def rc95 : RC :=
 .seq (.ops 0 false [
 oo 0 (.val (.c (.pointer none)))] [])
 (.seq (.ops 1 false [
 oo 1 (.call 128 []),
 oo 2 (.build [(.int .u32 0),(.int .u32 0),(.int .u32 0),(.int .u32 0),(.int .u32 0),(.int .u32 0),(.int .u32 0),(.int .u32 0),(.int .u8 0),(.int .u8 0),(.int .u8 0),(.int .u8 0),(.int .u8 0),(.int .u8 0),(.int .u8 0),(.int .u8 0),(.int .u8 0),(.int .u8 0),(.int .u8 0),(.int .u8 0),(.int .u8 0),(.int .u8 0),(.int .u8 0),(.int .u8 0),(.int .u8 0),(.int .u8 0),(.int .u8 0),(.int .u8 0),(.int .u8 0),(.int .u8 0),(.int .u8 0),(.int .u8 0),(.int .u8 0),(.int .u8 0),(.int .u8 0),(.int .u8 0),(.int .u8 0),(.int .u8 0),(.int .u8 0),(.int .u8 0),(.int .u8 0),(.int .u8 0),(.int .u8 0),(.int .u8 0),(.int .u8 0),(.int .u8 0),(.int .u8 0),(.int .u8 0),(.int .u8 0),(.int .u8 0),(.int .u8 0),(.int .u8 0),(.int .u8 0),(.int .u8 0),(.int .u8 0),(.int .u8 0),(.int .u8 0),(.int .u8 0),(.int .u8 0),(.int .u8 0),(.int .u8 0),(.int .u8 0),(.int .u8 0),(.int .u8 0),(.int .u8 0),(.int .u8 0),(.int .u8 0),(.int .u8 0),(.int .u8 0),(.int .u8 0),(.int .u8 0),(.int .u8 0),(.int .i64 0)] [(0,8,(.t 1))]),
 oo 3 (.box 178 (.t 2)),
 oo 0 (.val (.t 3))] [])
 (.ret))
def rs95 : List RR := [.tmp 0]
theorem fun95 : FunR Tryd.prog 95 rc95 rs95 4 := ⟨Tryd.f95, Tryd.func95, by kernel_rfl, by kernel_rfl, by kernel_rfl⟩
/-- (*causeway/digest.Hasher).Write -/
def rc96 : RC :=
 .block 0 (.loop (.seq (.seq (.ops 0 false [
 oo 6 (.val (.t 1)),
 oo 7 (.len (.t 6)),
 oo 8 (.bin .gtr (.t 7) (.c (.int .i64 0)))] [])
 (.cond (.t 8) (.skip)
 (.exit 0)))
 (.block 1 (.seq (.ops 1 false [
 oo 9 (.val (.t 0)),
 oo 10 (.nilCheck (.t 9)),
 oo 11 (.fieldA 72 (.t 10)),
 oo 12 (.load (.t 11)),
 oo 13 (.bin .rem (.t 12) (.c (.int .i64 64))),
 oo 4 (.val (.t 13))] [])
 (.seq (.ops 2 false [
 oo 14 (.val (.t 0)),
 oo 15 (.nilCheck (.t 14)),
 oo 16 (.fieldA 8 (.t 15)),
 oo 17 (.val (.t 4)),
 oo 18 (.sliceA 64 1 (.t 16) (some (.t 17)) none),
 oo 19 (.val (.t 1)),
 oo 20 (.blt .copy #[30,30] 3 [.t 18,.t 19]),
 oo 5 (.val (.t 20))] [])
 (.seq (.ops 3 false [
 oo 21 (.val (.t 1)),
 oo 22 (.val (.t 5)),
 oo 23 (.slice 1 (.t 21) (some (.t 22)) none none),
 oo 1 (.val (.t 23))] [])
 (.seq (.ops 4 false [
 oo 24 (.val (.t 0)),
 oo 25 (.nilCheck (.t 24)),
 oo 26 (.fieldA 72 (.t 25)),
 oo 27 (.load (.t 26)),
 oo 28 (.val (.t 5)),
 oo 29 (.bin .add (.t 27) (.t 28)),
 oo 30 (.nilCheck (.t 24)),
 oo 31 (.fieldA 72 (.t 30)),
 ⟨none,.store 1 (.t 31) (.t 29),none⟩] [])
 (.seq (.ops 5 false [
 oo 32 (.val (.t 4)),
 oo 33 (.val (.t 5)),
 oo 34 (.bin .add (.t 32) (.t 33)),
 oo 35 (.bin .eql (.t 34) (.c (.int .i64 64)))] [])
 (.cond (.t 35) (.ops 6 true [
 oo 36 (.val (.t 0)),
 oo 37 (.val (.t 0)),
 oo 38 (.nilCheck (.t 37)),
 oo 39 (.fieldA 0 (.t 38)),
 oo 40 (.loadN 8 (.t 39)),
 oo 41 (.val (.t 0)),
 oo 42 (.nilCheck (.t 41)),
 oo 43 (.fieldA 8 (.t 42)),
 oo 44 (.loadN 64 (.t 43)),
 oo 45 (.call 129 [.t 40,.t 44]),
 oo 46 (.nilCheck (.t 36)),
 oo 47 (.fieldA 0 (.t 46)),
 ⟨none,.store 8 (.t 47) (.t 45),none⟩] [([],[]),([],[]),([1],[1]),([2],[2]),([3],[3]),([],[]),([5],[5]),([6],[6]),([7],[7]),([4,8],[4,8]),([0,0,1,2,3,4,5,6,7,8,9],[0]),([10,0,1,2,3,4,5,6,7,8,9],[10]),([11,9,9,0,1,2,3,4,5,6,7,8,9],[9,11])])
 (.skip))))))))))
def rs96 : List RR := []
theorem fun96 : FunR Tryd.prog 96 rc96 rs96 48 := ⟨Tryd.f96, Tryd.func96, by kernel_rfl, by kernel_rfl, by kernel_rfl⟩
/-- (*causeway/digest.Hasher).Sum -/
def rc97 : RC :=
 .seq (.ops 0 false [
 oo 2 (.alloc 46 (List.replicate 32 (.int .u8 0)))] [])
 (.seq (.ops 1 false [
 oo 3 (.val (.t 0)),
 oo 4 (.call 130 [(.t 3),(.c (.int .u8 0)),(.c (.int .i64 0))]),
 ⟨none,.store 32 (.t 2) (.t 4),none⟩] [])
 (.ret))
def rs97 : List RR := [.cell 2 (some 32)]
theorem fun97 : FunR Tryd.prog 97 rc97 rs97 5 := ⟨Tryd.f97, Tryd.func97, by kernel_rfl, by kernel_rfl, by kernel_rfl⟩
/-- (*causeway/sparse.node).single -/
def rc111 : RC :=
 .seq (.ops 0 false [
 oo 2 (.val (.c (.bool false)))] [])
 (.seq (.ops 1 false [
 oo 3 (.val (.t 0)),
 oo 4 (.eqp .ptr true (.t 3) (.c (.pointer none))),
 oo 5 (.val (.t 4)),
 ⟨some 6,.val (.t 0),some (5,true)⟩,
 ⟨some 7,.nilCheck (.t 6),some (5,true)⟩,
 ⟨some 8,.fieldA 96 (.t 7),some (5,true)⟩,
 ⟨some 9,.load (.t 8),some (5,true)⟩,
 ⟨some 10,.eqp .ptr false (.t 9) (.c (.pointer none)),some (5,true)⟩,
 oo 11 (.pick (.t 5) (.t 10) (.c (.bool false))),
 oo 12 (.val (.t 11)),
 ⟨some 13,.val (.t 0),some (12,true)⟩,
 ⟨some 14,.nilCheck (.t 13),some (12,true)⟩,
 ⟨some 15,.fieldA 97 (.t 14),some (12,true)⟩,
 ⟨some 16,.load (.t 15),some (12,true)⟩,
 ⟨some 17,.eqp .ptr false (.t 16) (.c (.pointer none)),some (12,true)⟩,
 oo 18 (.pick (.t 12) (.t 17) (.c (.bool false))),
 oo 19 (.val (.t 18)),
 ⟨some 20,.val (.t 0),some (19,true)⟩,
 ⟨some 21,.nilCheck (.t 20),some (19,true)⟩,
 ⟨some 22,.fieldA 98 (.t 21),some (19,true)⟩,
 ⟨some 23,.load (.t 22),some (19,true)⟩,
 ⟨some 24,.not (.t 23),some (19,true)⟩,
 oo 25 (.pick (.t 19) (.t 24) (.c (.bool false))),
 oo 2 (.val (.t 25))] [])
 (.ret))
def rs111 : List RR := [.tmp 2]
theorem fun111 : FunR Tryd.prog 111 rc111 rs111 26 := ⟨Tryd.f111, Tryd.func111, by kernel_rfl, by kernel_rfl, by kernel_rfl⟩
/-- cmp.isNaN[string] -/
def rc115 : RC :=
 .seq (.ops 0 false [
 oo 2 (.val (.c (.bool false)))] [])
 (.seq (.ops 1 false [
 oo 3 (.val (.t 0)),
 oo 4 (.val (.t 0)),
 oo 5 (.eqp .str true (.t 3) (.t 4)),
 oo 2 (.val (.t 5))] [])
 (.ret))
def rs115 : List RR := [.tmp 2]
theorem fun115 : FunR Tryd.prog 115 rc115 rs115 6 := ⟨Tryd.f115, Tryd.func115, by kernel_rfl, by kernel_rfl, by kernel_rfl⟩
/-- causeway/sparse.bit -/
def rc117 : RC :=
 .seq (.ops 0 false [
 oo 2 (.box 46 (.t 0)),
 oo 4 (.val (.c (.bool false)))] [])
 (.seq (.ops 1 false [
 oo 5 (.val (.t 1)),
 oo 6 (.bin .quo (.t 5) (.c (.int .i64 8))),
 oo 7 (.indexA 32 1 (.t 2) (.t 6)),
 oo 8 (.load (.t 7)),
 oo 9 (.val (.t 1)),
 oo 10 (.bin .rem (.t 9) (.c (.int .i64 8))),
 oo 11 (.bin .sub (.c (.int .i64 7)) (.t 10)),
 oo 12 (.bin .shr (.t 8) (.t 11)),
 oo 13 (.bin .and (.t 12) (.c (.int .u8 1))),
 oo 14 (.bin .eql (.t 13) (.c (.int .u8 1))),
 oo 4 (.val (.t 14))] [])
 (.ret))
def rs117 : List RR := [.tmp 4]
theorem fun117 : FunR Tryd.prog 117 rc117 rs117 15 := ⟨Tryd.f117, Tryd.func117, by kernel_rfl, by kernel_rfl, by kernel_rfl⟩
/-- causeway/sparse.leaf -/
def rc118 : RC :=
 .seq (.ops 0 false [
 oo 2 (.box 46 (.t 0)),
 oo 3 (.box 46 (.t 1)),
 oo 4 (.val (.c (.pointer none)))] [])
 (.seq (.ops 1 true [
 oo 5 (.buildS 5 1 [(.int .u8 0)] [(0,1,(.c (.int .u8 2)))]),
 oo 6 (.sliceA 32 1 (.t 2) none none),
 oo 7 (.sliceA 32 1 (.t 3) none none),
 oo 8 (.buildS 30 3 [(.slice none 0 0),(.slice none 0 0),(.slice none 0 0)] [(0,1,(.t 5)),(1,1,(.t 6)),(2,1,(.t 7))]),
 oo 9 (.call 81 [.t 8]),
 oo 10 (.loadN 32 (.t 2)),
 oo 11 (.loadN 32 (.t 3)),
 oo 12 (.build [(.int .u8 0),(.int .u8 0),(.int .u8 0),(.int .u8 0),(.int .u8 0),(.int .u8 0),(.int .u8 0),(.int .u8 0),(.int .u8 0),(.int .u8 0),(.int .u8 0),(.int .u8 0),(.int .u8 0),(.int .u8 0),(.int .u8 0),(.int .u8 0),(.int .u8 0),(.int .u8 0),(.int .u8 0),(.int .u8 0),(.int .u8 0),(.int .u8 0),(.int .u8 0),(.int .u8 0),(.int .u8 0),(.int .u8 0),(.int .u8 0),(.int .u8 0),(.int .u8 0),(.int .u8 0),(.int .u8 0),(.int .u8 0),(.int .u8 0),(.int .u8 0),(.int .u8 0),(.int .u8 0),(.int .u8 0),(.int .u8 0),(.int .u8 0),(.int .u8 0),(.int .u8 0),(.int .u8 0),(.int .u8 0),(.int .u8 0),(.int .u8 0),(.int .u8 0),(.int .u8 0),(.int .u8 0),(.int .u8 0),(.int .u8 0),(.int .u8 0),(.int .u8 0),(.int .u8 0),(.int .u8 0),(.int .u8 0),(.int .u8 0),(.int .u8 0),(.int .u8 0),(.int .u8 0),(.int .u8 0),(.int .u8 0),(.int .u8 0),(.int .u8 0),(.int .u8 0),(.int .u8 0),(.int .u8 0),(.int .u8 0),(.int .u8 0),(.int .u8 0),(.int .u8 0),(.int .u8 0),(.int .u8 0),(.int .u8 0),(.int .u8 0),(.int .u8 0),(.int .u8 0),(.int .u8 0),(.int .u8 0),(.int .u8 0),(.int .u8 0),(.int .u8 0),(.int .u8 0),(.int .u8 0),(.int .u8 0),(.int .u8 0),(.int .u8 0),(.int .u8 0),(.int .u8 0),(.int .u8 0),(.int .u8 0),(.int .u8 0),(.int .u8 0),(.int .u8 0),(.int .u8 0),(.int .u8 0),(.int .u8 0),(.pointer none),(.pointer none),(.bool false)] [(0,32,(.t 9)),(32,32,(.t 10)),(64,32,(.t 11))]),
 oo 13 (.box 144 (.t 12)),
 oo 4 (.val (.t 13))] [([],[]),([],[]),([],[]),([0,1,2],[0,1,2]),([3],[3]),([],[]),([],[]),([4,5,6],[4,5,6]),([7],[7]),([8,4,0,1,2,3,4,5,6,7,8],[8])])
 (.ret))
def rs118 : List RR := [.tmp 4]
theorem fun118 : FunR Tryd.prog 118 rc118 rs118 14 := ⟨Tryd.f118, Tryd.func118, by kernel_rfl, by kernel_rfl, by kernel_rfl⟩
/-- causeway/sparse.joined -/
def rc119 : RC :=
 .seq (.ops 0 false [
 oo 4 (.val (.c (.pointer none)))] [])
 (.seq (.block 0 (.seq (.ops 1 false [
 oo 8 (.val (.t 0)),
 oo 9 (.eqp .ptr false (.t 8) (.c (.pointer none))),
 oo 10 (.val (.t 9)),
 ⟨some 11,.val (.t 1),some (10,true)⟩,
 ⟨some 12,.eqp .ptr false (.t 11) (.c (.pointer none)),some (10,true)⟩,
 ⟨some 13,.val (.t 12),some (10,true)⟩,
 ⟨some 14,.val (.t 1),some (13,false)⟩,
 ⟨some 15,.call 111 [.t 14],some (13,false)⟩,
 ⟨some 16,.pick (.t 13) (.c (.bool true)) (.t 15),some (10,true)⟩,
 oo 17 (.pick (.t 10) (.t 16) (.c (.bool false))),
 oo 7 (.val (.t 17))] [])
 (.cond (.t 7) (.seq (.ops 2 false [
 oo 18 (.val (.t 1)),
 oo 4 (.val (.t 18))] [])
 (.ret))
 (.seq (.ops 3 false [
 oo 20 (.val (.t 1)),
 oo 21 (.eqp .ptr false (.t 20) (.c (.pointer none))),
 oo 22 (.val (.t 21)),
 ⟨some 23,.val (.t 0),some (22,true)⟩,
 ⟨some 24,.call 111 [.t 23],some (22,true)⟩,
 oo 25 (.pick (.t 22) (.t 24) (.c (.bool false))),
 oo 19 (.val (.t 25))] [])
 (.cond (.t 19) (.seq (.ops 4 false [
 oo 26 (.val (.t 0)),
 oo 4 (.val (.t 26))] [])
 (.ret))
 (.skip))))))
 (.seq (.ops 5 false [
 oo 27 (.val (.t 0)),
 oo 28 (.call 76 [.t 27]),
 oo 29 (.val (.t 1)),
 oo 30 (.call 76 [.t 29]),
 oo 5 (.alloc 46 (List.replicate 32 (.int .u8 0))),
 oo 6 (.alloc 46 (List.replicate 32 (.int .u8 0))),
 ⟨none,.store 32 (.t 5) (.t 28),none⟩,
 ⟨none,.store 32 (.t 6) (.t 30),none⟩] [])
 (.seq (.ops 6 true [
 oo 31 (.buildS 5 1 [(.int .u8 0)] [(0,1,(.c (.int .u8 3)))]),
 oo 32 (.sliceA 32 1 (.t 5) none none),
 oo 33 (.sliceA 32 1 (.t 6) none none),
 oo 34 (.buildS 30 3 [(.slice none 0 0),(.slice none 0 0),(.slice none 0 0)] [(0,1,(.t 31)),(1,1,(.t 32)),(2,1,(.t 33))]),
 oo 35 (.call 81 [.t 34]),
 oo 36 (.val (.t 0)),
 oo 37 (.val (.t 1)),
 oo 38 (.build [(.int .u8 0),(.int .u8 0),(.int .u8 0),(.int .u8 0),(.int .u8 0),(.int .u8 0),(.int .u8 0),(.int .u8 0),(.int .u8 0),(.int .u8 0),(.int .u8 0),(.int .u8 0),(.int .u8 0),(.int .u8 0),(.int .u8 0),(.int .u8 0),(.int .u8 0),(.int .u8 0),(.int .u8 0),(.int .u8 0),(.int .u8 0),(.int .u8 0),(.int .u8 0),(.int .u8 0),(.int .u8 0),(.int .u8 0),(.int .u8 0),(.int .u8 0),(.int .u8 0),(.int .u8 0),(.int .u8 0),(.int .u8 0),(.int .u8 0),(.int .u8 0),(.int .u8 0),(.int .u8 0),(.int .u8 0),(.int .u8 0),(.int .u8 0),(.int .u8 0),(.int .u8 0),(.int .u8 0),(.int .u8 0),(.int .u8 0),(.int .u8 0),(.int .u8 0),(.int .u8 0),(.int .u8 0),(.int .u8 0),(.int .u8 0),(.int .u8 0),(.int .u8 0),(.int .u8 0),(.int .u8 0),(.int .u8 0),(.int .u8 0),(.int .u8 0),(.int .u8 0),(.int .u8 0),(.int .u8 0),(.int .u8 0),(.int .u8 0),(.int .u8 0),(.int .u8 0),(.int .u8 0),(.int .u8 0),(.int .u8 0),(.int .u8 0),(.int .u8 0),(.int .u8 0),(.int .u8 0),(.int .u8 0),(.int .u8 0),(.int .u8 0),(.int .u8 0),(.int .u8 0),(.int .u8 0),(.int .u8 0),(.int .u8 0),(.int .u8 0),(.int .u8 0),(.int .u8 0),(.int .u8 0),(.int .u8 0),(.int .u8 0),(.int .u8 0),(.int .u8 0),(.int .u8 0),(.int .u8 0),(.int .u8 0),(.int .u8 0),(.int .u8 0),(.int .u8 0),(.int .u8 0),(.int .u8 0),(.int .u8 0),(.pointer none),(.pointer none),(.bool false)] [(0,32,(.t 35)),(96,1,(.t 36)),(97,1,(.t 37))]),
 oo 39 (.box 144 (.t 38)),
 oo 4 (.val (.t 39))] [([],[]),([],[]),([],[]),([0,1,2],[0,1,2]),([3],[3]),([],[]),([],[]),([4,5,6],[4,5,6]),([7],[7]),([8,4,0,1,2,3,4,5,6,7,8],[8])])
 (.ret))))
def rs119 : List RR := [.tmp 4]
theorem fun119 : FunR Tryd.prog 119 rc119 rs119 40 := ⟨Tryd.f119, Tryd.func119, by kernel_rfl, by kernel_rfl, by kernel_rfl⟩
/-- causeway/digest.begin -/
def rc128 : RC :=
 .seq (.ops 0 false [
 oo 0 (.alloc 174 (List.replicate 8 (.int .u32 0)))] [])
 (.seq (.ops 1 false [
 oo 1 (.build (List.replicate 8 (.int .u32 0)) [(0,1,(.c (.int .u32 1779033703))),(1,1,(.c (.int .u32 3144134277))),(2,1,(.c (.int .u32 1013904242))),(3,1,(.c (.int .u32 2773480762))),(4,1,(.c (.int .u32 1359893119))),(5,1,(.c (.int .u32 2600822924))),(6,1,(.c (.int .u32 528734635))),(7,1,(.c (.int .u32 1541459225)))]),
 ⟨none,.store 8 (.t 0) (.t 1),none⟩] [])
 (.ret))
def rs128 : List RR := [.cell 0 (some 8)]
theorem fun128 : FunR Tryd.prog 128 rc128 rs128 2 := ⟨Tryd.f128, Tryd.func128, by kernel_rfl, by kernel_rfl, by kernel_rfl⟩
/-- (causeway/digest.state).take -/
def rc129 : RC :=
 .seq (.ops 0 false [
 oo 2 (.box 174 (.t 0)),
 oo 3 (.box 176 (.t 1)),
 oo 4 (.alloc 174 (List.replicate 8 (.int .u32 0)))] [])
 (.seq (.ops 1 false [
 oo 20 (.loadN 64 (.t 3)),
 oo 21 (.call 144 [.t 20]),
 oo 5 (.alloc 191 (List.replicate 64 (.int .u32 0))),
 ⟨none,.store 64 (.t 5) (.t 21),none⟩] [])
 (.seq (.ops 2 true [
 oo 22 (.indexA 8 1 (.t 2) (.c (.int .i64 0))),
 oo 23 (.load (.t 22)),
 oo 24 (.indexA 8 1 (.t 2) (.c (.int .i64 1))),
 oo 25 (.load (.t 24)),
 oo 26 (.indexA 8 1 (.t 2) (.c (.int .i64 2))),
 oo 27 (.load (.t 26)),
 oo 28 (.indexA 8 1 (.t 2) (.c (.int .i64 3))),
 oo 29 (.load (.t 28)),
 oo 30 (.indexA 8 1 (.t 2) (.c (.int .i64 4))),
 oo 31 (.load (.t 30)),
 oo 32 (.indexA 8 1 (.t 2) (.c (.int .i64 5))),
 oo 33 (.load (.t 32)),
 oo 34 (.indexA 8 1 (.t 2) (.c (.int .i64 6))),
 oo 35 (.load (.t 34)),
 oo 36 (.indexA 8 1 (.t 2) (.c (.int .i64 7))),
 oo 37 (.load (.t 36)),
 oo 6 (.val (.t 23)),
 oo 7 (.val (.t 25)),
 oo 8 (.val (.t 27)),
 oo 9 (.val (.t 29)),
 oo 10 (.val (.t 31)),
 oo 11 (.val (.t 33)),
 oo 12 (.val (.t 35)),
 oo 13 (.val (.t 37))] [([],[]),([0],[0]),([],[]),([2],[2]),([],[]),([4],[4]),([],[]),([6],[6]),([],[]),([8],[8]),([],[]),([10],[10]),([],[]),([12],[12]),([],[]),([14],[14]),([1,0,1],[1]),([3,16,0,1,2,3,16],[3]),([5,17,0,1,2,3,4,5,16,17],[5]),([7,18,0,1,2,3,4,5,6,7,16,17,18],[7]),([9,19,0,1,2,3,4,5,6,7,8,9,16,17,18,19],[9]),([11,20,0,1,2,3,4,5,6,7,8,9,10,11,16,17,18,19,20],[11]),([13,21,0,1,2,3,4,5,6,7,8,9,10,11,12,13,16,17,18,19,20,21],[13]),([15,22,0,1,2,3,4,5,6,7,8,9,10,11,12,13,14,15,16,17,18,19,20,21,22],[15])])
 (.seq (.seq (.ops 3 false [
 oo 38 (.loadN 64 (.c (.pointer (some ⟨0,0,none⟩)))),
 oo 39 (.val (.c (.int .i64 0)))] [])
 (.block 0 (.loop (.seq (.ops 4 false [
 oo 40 (.bin .lss (.t 39) (.c (.int .i64 64)))] [])
 (.seq (.cond (.t 40) (.skip)
 (.exit 0))
 (.seq (.block 1 (.seq (.ops 5 false [
 oo 41 (.val (.t 39)),
 oo 42 (.idx 191 (.t 38) (.t 39)),
 oo 14 (.val (.t 41)),
 oo 15 (.val (.t 42))] [])
 (.seq (.ops 6 false [
 oo 43 (.val (.t 10)),
 oo 44 (.call 145 [(.t 43),(.c (.int .i64 (-6)))]),
 oo 45 (.val (.t 10)),
 oo 46 (.call 145 [(.t 45),(.c (.int .i64 (-11)))]),
 oo 47 (.bin .xor (.t 44) (.t 46)),
 oo 48 (.val (.t 10)),
 oo 49 (.call 145 [(.t 48),(.c (.int .i64 (-25)))]),
 oo 50 (.bin .xor (.t 47) (.t 49)),
 oo 16 (.val (.t 50))] [])
 (.seq (.ops 7 false [
 oo 51 (.val (.t 16)),
 oo 52 (.val (.t 13)),
 oo 53 (.val (.t 10)),
 oo 54 (.val (.t 11)),
 oo 55 (.bin .and (.t 53) (.t 54)),
 oo 56 (.val (.t 10)),
 oo 57 (.bnot (.t 56)),
 oo 58 (.val (.t 12)),
 oo 59 (.bin .and (.t 57) (.t 58)),
 oo 60 (.bin .xor (.t 55) (.t 59)),
 oo 61 (.bin .add (.t 52) (.t 60)),
 oo 62 (.val (.t 15)),
 oo 63 (.bin .add (.t 61) (.t 62)),
 oo 64 (.val (.t 14)),
 oo 65 (.indexA 64 1 (.t 5) (.t 64)),
 oo 66 (.load (.t 65)),
 oo 67 (.bin .add (.t 63) (.t 66)),
 oo 68 (.bin .add (.t 51) (.t 67)),
 oo 16 (.val (.t 68))] [])
 (.seq (.ops 8 false [
 oo 69 (.val (.t 6)),
 oo 70 (.call 145 [(.t 69),(.c (.int .i64 (-2)))]),
 oo 71 (.val (.t 6)),
 oo 72 (.call 145 [(.t 71),(.c (.int .i64 (-13)))]),
 oo 73 (.bin .xor (.t 70) (.t 72)),
 oo 74 (.val (.t 6)),
 oo 75 (.call 145 [(.t 74),(.c (.int .i64 (-22)))]),
 oo 76 (.bin .xor (.t 73) (.t 75)),
 oo 17 (.val (.t 76))] [])
 (.seq (.ops 9 false [
 oo 77 (.val (.t 17)),
 oo 78 (.val (.t 6)),
 oo 79 (.val (.t 7)),
 oo 80 (.bin .and (.t 78) (.t 79)),
 oo 81 (.val (.t 6)),
 oo 82 (.val (.t 8)),
 oo 83 (.bin .and (.t 81) (.t 82)),
 oo 84 (.bin .xor (.t 80) (.t 83)),
 oo 85 (.val (.t 7)),
 oo 86 (.val (.t 8)),
 oo 87 (.bin .and (.t 85) (.t 86)),
 oo 88 (.bin .xor (.t 84) (.t 87)),
 oo 89 (.bin .add (.t 77) (.t 88)),
 oo 17 (.val (.t 89))] [])
 (.ops 10 false [
 oo 90 (.val (.t 16)),
 oo 91 (.val (.t 17)),
 oo 92 (.bin .add (.t 90) (.t 91)),
 oo 93 (.val (.t 6)),
 oo 94 (.val (.t 7)),
 oo 95 (.val (.t 8)),
 oo 96 (.val (.t 9)),
 oo 97 (.val (.t 16)),
 oo 98 (.bin .add (.t 96) (.t 97)),
 oo 99 (.val (.t 10)),
 oo 100 (.val (.t 11)),
 oo 101 (.val (.t 12)),
 oo 6 (.val (.t 92)),
 oo 7 (.val (.t 93)),
 oo 8 (.val (.t 94)),
 oo 9 (.val (.t 95)),
 oo 10 (.val (.t 98)),
 oo 11 (.val (.t 99)),
 oo 12 (.val (.t 100)),
 oo 13 (.val (.t 101))] [])))))))
 (.ops 11 false [
 oo 102 (.bin .add (.t 39) (.c (.int .i64 1))),
 oo 39 (.val (.t 102))] [])))))))
 (.seq (.seq (.ops 12 false [
 oo 103 (.val (.t 6)),
 oo 104 (.val (.t 7)),
 oo 105 (.val (.t 8)),
 oo 106 (.val (.t 9)),
 oo 107 (.val (.t 10)),
 oo 108 (.val (.t 11)),
 oo 109 (.val (.t 12)),
 oo 110 (.val (.t 13)),
 oo 111 (.build (List.replicate 8 (.int .u32 0)) [(0,1,(.t 103)),(1,1,(.t 104)),(2,1,(.t 105)),(3,1,(.t 106)),(4,1,(.t 107)),(5,1,(.t 108)),(6,1,(.t 109)),(7,1,(.t 110))]),
 oo 112 (.val (.c (.int .i64 0)))] [])
 (.block 2 (.loop (.seq (.ops 13 false [
 oo 113 (.bin .lss (.t 112) (.c (.int .i64 8)))] [])
 (.seq (.cond (.t 113) (.skip)
 (.exit 2))
 (.seq (.block 3 (.seq (.ops 14 false [
 oo 114 (.val (.t 112)),
 oo 115 (.idx 173 (.t 111) (.t 112)),
 oo 18 (.val (.t 114)),
 oo 19 (.val (.t 115))] [])
 (.ops 15 false [
 oo 116 (.val (.t 18)),
 oo 117 (.indexA 8 1 (.t 2) (.t 116)),
 oo 118 (.load (.t 117)),
 oo 119 (.val (.t 19)),
 oo 120 (.bin .add (.t 118) (.t 119)),
 oo 121 (.indexA 8 1 (.t 2) (.t 116)),
 ⟨none,.store 1 (.t 121) (.t 120),none⟩] [])))
 (.ops 16 false [
 oo 122 (.bin .add (.t 112) (.c (.int .i64 1))),
 oo 112 (.val (.t 122))] [])))))))
 (.seq (.ops 17 false [
 oo 123 (.loadN 8 (.t 2)),
 ⟨none,.store 8 (.t 4) (.t 123),none⟩] [])
 (.ret))))))
def rs129 : List RR := [.cell 4 (some 8)]
theorem fun129 : FunR Tryd.prog 129 rc129 rs129 124 := ⟨Tryd.f129, Tryd.func129, by kernel_rfl, by kernel_rfl, by kernel_rfl⟩
/-- (*causeway/digest.Hasher).end -/
def rc130 : RC :=
 .seq (.ops 0 false [
 oo 6 (.alloc 46 (List.replicate 32 (.int .u8 0)))] [])
 (.seq (.ops 1 true [
 oo 14 (.val (.t 0)),
 oo 15 (.nilCheck (.t 14)),
 oo 16 (.fieldA 0 (.t 15)),
 oo 17 (.loadN 8 (.t 16)),
 oo 18 (.val (.t 0)),
 oo 19 (.nilCheck (.t 18)),
 oo 20 (.fieldA 8 (.t 19)),
 oo 21 (.loadN 64 (.t 20)),
 oo 7 (.alloc 174 (List.replicate 8 (.int .u32 0))),
 oo 8 (.alloc 176 (List.replicate 64 (.int .u8 0))),
 ⟨none,.store 8 (.t 7) (.t 17),none⟩,
 ⟨none,.store 64 (.t 8) (.t 21),none⟩] [([],[]),([0],[0]),([1],[1]),([2],[2]),([],[]),([4],[4]),([5],[5]),([6],[6]),([],[]),([],[]),([8,3,0,1,2,3,8,9],[3,8]),([9,7,10,0,1,2,3,4,5,6,7,8,9,10],[7,9])])
 (.seq (.ops 2 false [
 oo 22 (.val (.t 0)),
 oo 23 (.nilCheck (.t 22)),
 oo 24 (.fieldA 72 (.t 23)),
 oo 25 (.load (.t 24)),
 oo 26 (.bin .rem (.t 25) (.c (.int .i64 64))),
 oo 9 (.val (.t 26))] [])
 (.seq (.ops 3 false [
 oo 27 (.val (.t 9)),
 oo 28 (.sliceA 64 1 (.t 8) (some (.t 27)) none),
 ⟨none,.blt .clear #[30] 0 [.t 28],none⟩] [])
 (.seq (.ops 4 true [
 oo 29 (.val (.t 9)),
 oo 30 (.val (.t 1)),
 oo 31 (.val (.t 2)),
 oo 32 (.bin .shr (.c (.int .u8 255)) (.t 31)),
 oo 33 (.bin .andNot (.t 30) (.t 32)),
 oo 34 (.val (.t 2)),
 oo 35 (.bin .shr (.c (.int .u8 128)) (.t 34)),
 oo 36 (.bin .or (.t 33) (.t 35)),
 oo 37 (.indexA 64 1 (.t 8) (.t 29)),
 ⟨none,.store 1 (.t 37) (.t 36),none⟩] [([],[]),([],[]),([],[]),([2],[2]),([1,3],[1,3]),([],[]),([5],[5]),([4,6],[4,6]),([0,0,1,2,3,4,5,6,7],[0]),([8,7,0,1,2,3,4,5,6,7],[7,8])])
 (.seq (.seq (.ops 5 false [
 oo 38 (.val (.t 9)),
 oo 39 (.bin .geq (.t 38) (.c (.int .i64 56)))] [])
 (.cond (.t 39) (.ops 6 false [
 oo 40 (.loadN 8 (.t 7)),
 oo 41 (.loadN 64 (.t 8)),
 oo 42 (.call 129 [.t 40,.t 41]),
 oo 43 (.build (List.replicate 64 (.int .u8 0)) []),
 ⟨none,.store 8 (.t 7) (.t 42),none⟩,
 ⟨none,.store 64 (.t 8) (.t 43),none⟩] [])
 (.skip)))
 (.seq (.ops 7 false [
 oo 44 (.val (.t 0)),
 oo 45 (.nilCheck (.t 44)),
 oo 46 (.fieldA 72 (.t 45)),
 oo 47 (.load (.t 46)),
 oo 48 (.conv .u64 (.t 47)),
 oo 49 (.bin .mul (.t 48) (.c (.int .u64 8))),
 oo 50 (.val (.t 2)),
 oo 51 (.conv .u64 (.t 50)),
 oo 52 (.bin .add (.t 49) (.t 51)),
 oo 10 (.val (.t 52))] [])
 (.seq (.seq (.ops 8 false [
 oo 53 (.val (.c (.int .i64 0)))] [])
 (.block 0 (.loop (.seq (.ops 9 false [
 oo 54 (.bin .lss (.t 53) (.c (.int .i64 8)))] [])
 (.seq (.cond (.t 54) (.skip)
 (.exit 0))
 (.seq (.block 1 (.seq (.ops 10 false [
 oo 55 (.val (.t 53)),
 oo 11 (.val (.t 55))] [])
 (.ops 11 false [
 oo 56 (.val (.t 11)),
 oo 57 (.bin .sub (.c (.int .i64 63)) (.t 56)),
 oo 58 (.val (.t 10)),
 oo 59 (.val (.t 11)),
 oo 60 (.bin .mul (.c (.int .i64 8)) (.t 59)),
 oo 61 (.bin .shr (.t 58) (.t 60)),
 oo 62 (.conv .u8 (.t 61)),
 oo 63 (.indexA 64 1 (.t 8) (.t 57)),
 ⟨none,.store 1 (.t 63) (.t 62),none⟩] [])))
 (.ops 12 false [
 oo 64 (.bin .add (.t 53) (.c (.int .i64 1))),
 oo 53 (.val (.t 64))] [])))))))
 (.seq (.ops 13 false [
 oo 65 (.loadN 8 (.t 7)),
 oo 66 (.loadN 64 (.t 8)),
 oo 67 (.call 129 [.t 65,.t 66]),
 ⟨none,.store 8 (.t 7) (.t 67),none⟩] [])
 (.seq (.ops 14 false [
 oo 12 (.alloc 46 (List.replicate 32 (.int .u8 0)))] [])
 (.seq (.seq (.ops 15 false [
 oo 68 (.val (.c (.int .i64 0)))] [])
 (.block 2 (.loop (.seq (.ops 16 false [
 oo 69 (.bin .lss (.t 68) (.c (.int .i64 32)))] [])
 (.seq (.cond (.t 69) (.skip)
 (.exit 2))
 (.seq (.block 3 (.seq (.ops 17 false [
 oo 70 (.val (.t 68)),
 oo 13 (.val (.t 70))] [])
 (.ops 18 false [
 oo 71 (.val (.t 13)),
 oo 72 (.val (.t 13)),
 oo 73 (.bin .quo (.t 72) (.c (.int .i64 4))),
 oo 74 (.indexA 8 1 (.t 7) (.t 73)),
 oo 75 (.load (.t 74)),
 oo 76 (.val (.t 13)),
 oo 77 (.bin .rem (.t 76) (.c (.int .i64 4))),
 oo 78 (.bin .mul (.c (.int .i64 8)) (.t 77)),
 oo 79 (.bin .sub (.c (.int .i64 24)) (.t 78)),
 oo 80 (.bin .shr (.t 75) (.t 79)),
 oo 81 (.conv .u8 (.t 80)),
 oo 82 (.indexA 32 1 (.t 12) (.t 71)),
 ⟨none,.store 1 (.t 82) (.t 81),none⟩] [])))
 (.ops 19 false [
 oo 83 (.bin .add (.t 68) (.c (.int .i64 1))),
 oo 68 (.val (.t 83))] [])))))))
 (.seq (.ops 20 false [
 oo 84 (.loadN 32 (.t 12)),
 ⟨none,.store 32 (.t 6) (.t 84),none⟩] [])
 (.ret))))))))))))
def rs130 : List RR := [.cell 6 (some 32)]
theorem fun130 : FunR Tryd.prog 130 rc130 rs130 85 := ⟨Tryd.f130, Tryd.func130, by kernel_rfl, by kernel_rfl, by kernel_rfl⟩
/-- causeway/digest.words -/
def rc144 : RC :=
 .seq (.ops 0 false [
 oo 1 (.box 176 (.t 0)),
 oo 2 (.alloc 191 (List.replicate 64 (.int .u32 0)))] [])
 (.seq (.ops 1 false [
 oo 3 (.alloc 191 (List.replicate 64 (.int .u32 0)))] [])
 (.seq (.seq (.ops 2 false [
 oo 8 (.val (.c (.int .i64 0)))] [])
 (.block 0 (.loop (.seq (.ops 3 false [
 oo 9 (.bin .lss (.t 8) (.c (.int .i64 16)))] [])
 (.seq (.cond (.t 9) (.skip)
 (.exit 0))
 (.seq (.block 1 (.seq (.ops 4 false [
 oo 10 (.val (.t 8)),
 oo 4 (.val (.t 10))] [])
 (.ops 5 true [
 oo 11 (.val (.t 4)),
 oo 12 (.val (.t 4)),
 oo 13 (.bin .mul (.c (.int .i64 4)) (.t 12)),
 oo 14 (.indexA 64 1 (.t 1) (.t 13)),
 oo 15 (.load (.t 14)),
 oo 16 (.conv .u32 (.t 15)),
 oo 17 (.bin .shl (.t 16) (.c (.int .u64 24))),
 oo 18 (.val (.t 4)),
 oo 19 (.bin .mul (.c (.int .i64 4)) (.t 18)),
 oo 20 (.bin .add (.t 19) (.c (.int .i64 1))),
 oo 21 (.indexA 64 1 (.t 1) (.t 20)),
 oo 22 (.load (.t 21)),
 oo 23 (.conv .u32 (.t 22)),
 oo 24 (.bin .shl (.t 23) (.c (.int .u64 16))),
 oo 25 (.bin .or (.t 17) (.t 24)),
 oo 26 (.val (.t 4)),
 oo 27 (.bin .mul (.c (.int .i64 4)) (.t 26)),
 oo 28 (.bin .add (.t 27) (.c (.int .i64 2))),
 oo 29 (.indexA 64 1 (.t 1) (.t 28)),
 oo 30 (.load (.t 29)),
 oo 31 (.conv .u32 (.t 30)),
 oo 32 (.bin .shl (.t 31) (.c (.int .u64 8))),
 oo 33 (.bin .or (.t 25) (.t 32)),
 oo 34 (.val (.t 4)),
 oo 35 (.bin .mul (.c (.int .i64 4)) (.t 34)),
 oo 36 (.bin .add (.t 35) (.c (.int .i64 3))),
 oo 37 (.indexA 64 1 (.t 1) (.t 36)),
 oo 38 (.load (.t 37)),
 oo 39 (.conv .u32 (.t 38)),
 oo 40 (.bin .or (.t 33) (.t 39)),
 oo 41 (.indexA 64 1 (.t 3) (.t 11)),
 ⟨none,.store 1 (.t 41) (.t 40),none⟩] [([],[]),([],[]),([1],[1]),([2],[2]),([3],[3]),([4],[4]),([5],[5]),([],[]),([7],[7]),([8],[8]),([9],[9]),([10],[10]),([11],[11]),([12],[12]),([6,13],[6,13]),([],[]),([15],[15]),([16],[16]),([17],[17]),([18],[18]),([19],[19]),([20],[20]),([14,21],[14,21]),([],[]),([23],[23]),([24],[24]),([25],[25]),([26],[26]),([27],[27]),([22,28],[22,28]),([0,0,1,2,3,4,5,6,7,8,9,10,11,12,13,14,15,16,17,18,19,20,21,22,23,24,25,26,27,28,29],[0]),([30,29,0,1,2,3,4,5,6,7,8,9,10,11,12,13,14,15,16,17,18,19,20,21,22,23,24,25,26,27,28,29],[29,30])])))
 (.ops 6 false [
 oo 42 (.bin .add (.t 8) (.c (.int .i64 1))),
 oo 8 (.val (.t 42))] [])))))))
 (.seq (.seq (.ops 7 false [
 oo 5 (.val (.c (.int .i64 16)))] [])
 (.block 2 (.loop (.seq (.seq (.ops 8 false [
 oo 43 (.val (.t 5)),
 oo 44 (.bin .lss (.t 43) (.c (.int .i64 64)))] [])
 (.cond (.t 44) (.skip)
 (.exit 2)))
 (.seq (.block 3 (.seq (.ops 10 true [
 oo 47 (.val (.t 5)),
 oo 48 (.bin .sub (.t 47) (.c (.int .i64 2))),
 oo 49 (.indexA 64 1 (.t 3) (.t 48)),
 oo 50 (.load (.t 49)),
 oo 51 (.val (.t 5)),
 oo 52 (.bin .sub (.t 51) (.c (.int .i64 15))),
 oo 53 (.indexA 64 1 (.t 3) (.t 52)),
 oo 54 (.load (.t 53)),
 oo 6 (.val (.t 50)),
 oo 7 (.val (.t 54))] [([],[]),([0],[0]),([1],[1]),([2],[2]),([],[]),([4],[4]),([5],[5]),([6],[6]),([3,0,1,2,3],[3]),([7,8,0,1,2,3,4,5,6,7,8],[7])])
 (.seq (.ops 11 false [
 oo 55 (.val (.t 6)),
 oo 56 (.call 145 [(.t 55),(.c (.int .i64 (-17)))]),
 oo 57 (.val (.t 6)),
 oo 58 (.call 145 [(.t 57),(.c (.int .i64 (-19)))]),
 oo 59 (.bin .xor (.t 56) (.t 58)),
 oo 60 (.val (.t 6)),
 oo 61 (.bin .shr (.t 60) (.c (.int .u64 10))),
 oo 62 (.bin .xor (.t 59) (.t 61)),
 oo 6 (.val (.t 62))] [])
 (.seq (.ops 12 false [
 oo 63 (.val (.t 7)),
 oo 64 (.call 145 [(.t 63),(.c (.int .i64 (-7)))]),
 oo 65 (.val (.t 7)),
 oo 66 (.call 145 [(.t 65),(.c (.int .i64 (-18)))]),
 oo 67 (.bin .xor (.t 64) (.t 66)),
 oo 68 (.val (.t 7)),
 oo 69 (.bin .shr (.t 68) (.c (.int .u64 3))),
 oo 70 (.bin .xor (.t 67) (.t 69)),
 oo 7 (.val (.t 70))] [])
 (.ops 13 true [
 oo 71 (.val (.t 5)),
 oo 72 (.val (.t 6)),
 oo 73 (.val (.t 5)),
 oo 74 (.bin .sub (.t 73) (.c (.int .i64 7))),
 oo 75 (.indexA 64 1 (.t 3) (.t 74)),
 oo 76 (.load (.t 75)),
 oo 77 (.bin .add (.t 72) (.t 76)),
 oo 78 (.val (.t 7)),
 oo 79 (.bin .add (.t 77) (.t 78)),
 oo 80 (.val (.t 5)),
 oo 81 (.bin .sub (.t 80) (.c (.int .i64 16))),
 oo 82 (.indexA 64 1 (.t 3) (.t 81)),
 oo 83 (.load (.t 82)),
 oo 84 (.bin .add (.t 79) (.t 83)),
 oo 85 (.indexA 64 1 (.t 3) (.t 71)),
 ⟨none,.store 1 (.t 85) (.t 84),none⟩] [([],[]),([],[]),([],[]),([2],[2]),([3],[3]),([4],[4]),([1,5],[1,5]),([],[]),([6,7],[6,7]),([],[]),([9],[9]),([10],[10]),([11],[11]),([8,12],[8,12]),([0,0,1,2,3,4,5,6,7,8,9,10,11,12,13],[0]),([14,13,0,1,2,3,4,5,6,7,8,9,10,11,12,13],[13,14])])))))
 (.ops 9 false [
 oo 45 (.val (.t 5)),
 oo 46 (.bin .add (.t 45) (.c (.int .i64 1))),
 oo 5 (.val (.t 46))] []))))))
 (.seq (.ops 14 false [
 oo 86 (.loadN 64 (.t 3)),
 ⟨none,.store 64 (.t 2) (.t 86),none⟩] [])
 (.ret)))))
def rs144 : List RR := [.cell 2 (some 64)]
theorem fun144 : FunR Tryd.prog 144 rc144 rs144 87 := ⟨Tryd.f144, Tryd.func144, by kernel_rfl, by kernel_rfl, by kernel_rfl⟩
/-- math/bits.RotateLeft32 -/
def rc145 : RC :=
 .seq (.ops 0 false [
 oo 4 (.val (.c (.int .u32 0)))] [])
 (.seq (.ops 1 false [
 oo 6 (.val (.t 1)),
 oo 7 (.conv .u64 (.t 6)),
 oo 8 (.bin .and (.t 7) (.c (.int .u64 31))),
 oo 5 (.val (.t 8))] [])
 (.seq (.ops 2 false [
 oo 9 (.val (.t 0)),
 oo 10 (.val (.t 5)),
 oo 11 (.bin .shl (.t 9) (.t 10)),
 oo 12 (.val (.t 0)),
 oo 13 (.val (.t 5)),
 oo 14 (.bin .sub (.c (.int .u64 32)) (.t 13)),
 oo 15 (.bin .shr (.t 12) (.t 14)),
 oo 16 (.bin .or (.t 11) (.t 15)),
 oo 4 (.val (.t 16))] [])
 (.ret)))
def rs145 : List RR := [.tmp 4]
theorem fun145 : FunR Tryd.prog 145 rc145 rs145 17 := ⟨Tryd.f145, Tryd.func145, by kernel_rfl, by kernel_rfl, by kernel_rfl⟩
end Go.Proofs.YtjkldhalmglkpaaDoor
