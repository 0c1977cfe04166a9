/-
  PARTS OF A PROOF, joined by a program (6 of 8): a proved reckoner of the model, and what the functions come to.
-/
import Derived.Test.YtgpabbbibmnnlaaQWayBack5
import Derived.Test.YtgpabbbibmnnlaaProg
import Derived.KernelRfl
set_option linter.unusedVariables false
set_option linter.unusedSimpArgs false
namespace Go.Proofs.Ytgpabbbibmnnlaa
open Go.Den
@[reducible] def Mv (d n : Nat) : RO := ⟨some d, none, .ins (.mv (.tmp n))⟩
@[reducible] def Op (d : Nat) (i : RI) : RO := ⟨some d, none, i⟩
@[reducible] def Oi (d : Nat) (i : Ins) : RO := ⟨some d, none, .ins i⟩
@[reducible] def On (i : Ins) : RO := ⟨none, none, .ins i⟩
@[reducible] def Ot (d g : Nat) (i : RI) : RO := ⟨some d, some (some g, true), i⟩
@[reducible] def Of (d g : Nat) (i : RI) : RO := ⟨some d, some (some g, false), i⟩
@[reducible] def Tm (n : Nat) : Operand := .tmp n
@[reducible] def Kn (n : Int) : Operand := .const (.int .i64 n)
@[reducible] def Kb (b : Bool) : Operand := .const (.bool b)
noncomputable def wrm : RF := ⟨24, (.seq (.ops [Oi 6 (.mv (Kn 0))]) (.seq (.ops [Mv 7 0, Mv 8 2, Mv 9 1, Op 10 (.int2 .sub .i64 (Tm 8) (Tm 9)), Op 11 (.int2 .add .i64 (Tm 10) (Kn 1)), Op 12 (.int2 .rem .i64 (Tm 7) (Tm 11)), Mv 0 12]) (.seq (.seq (.ops [Mv 13 0, Op 14 (.int2 .lss .i64 (Tm 13) (Kn 0))]) (.cond (Tm 14) (.ops [Mv 15 0, Mv 16 2, Op 17 (.int2 .add .i64 (Tm 15) (Tm 16)), Mv 18 1, Op 19 (.int2 .sub .i64 (Tm 17) (Tm 18)), Op 20 (.int2 .add .i64 (Tm 19) (Kn 1)), Mv 0 20]) .skip)) (.seq (.ops [Mv 21 1, Mv 22 0, Op 23 (.int2 .add .i64 (Tm 21) (Tm 22)), Mv 6 23]) .ret)))), [(.tmp 6)]⟩
theorem wop : trF Try.prog 15 = some wrm := by kernel_rfl
noncomputable def wro (i : Nat) : Code := lp Try.prog 38 i
noncomputable def wso : RC := (.seq (.ops [Op 4 (.int2 .lss .i64 (Tm 3) (Kn 4))]) (.seq (.cond (Tm 4) .skip (.exit 0)) (.seq (.block 1 (.seq (.ops [Mv 5 3, Mv 2 5]) (.ops [Mv 6 2, Oi 7 (.build [(.int .i64 0), (.int .i64 0)] [(0, (1, (Kn (-1)))), (1, (1, (Kn (-1))))]), Oi 8 (.iaddrA 4 2 (Tm 1) (Tm 6)), On (.store 2 (Tm 8) (Tm 7))]))) (.ops [Op 9 (.int2 .add .i64 (Tm 3) (Kn 1)), Mv 3 9]))))
theorem wbp : trC Try.prog (wro 0) = wso := by kernel_rfl
noncomputable def wsy : RF := ⟨11, (.seq (.ops [Oi 0 (.new [(.int .i64 0), (.int .i64 0), (.int .i64 0), (.int .i64 0), (.int .i64 0), (.int .i64 0), (.int .i64 0), (.int .i64 0)] 53)]) (.seq (.ops [Oi 1 (.new [(.int .i64 0), (.int .i64 0), (.int .i64 0), (.int .i64 0), (.int .i64 0), (.int .i64 0), (.int .i64 0), (.int .i64 0)] 53)]) (.seq (.seq (.ops [Oi 3 (.mv (Kn 0))]) (.block 0 (.loop (wro 0)))) (.seq (.ops [Oi 10 (.loadN 8 (Tm 1)), On (.store 8 (Tm 0) (Tm 10))]) .ret)))), [(.cellN 0 8)]⟩
theorem wyz : trF Try.prog 38 = some wsy := by kernel_rfl
noncomputable def wvb (i : Nat) : Code := lp Try.prog 75 i
noncomputable def wvg : RC := (.seq (.ops [Op 83 (.int2 .lss .i64 (Tm 82) (Tm 81))]) (.seq (.cond (Tm 83) .skip (.exit 1)) (.seq (.block 2 (.seq (.ops [Oi 84 (.iaddrS 9 (Tm 80) (Tm 82)), Oi 85 (.loadN 9 (Tm 84)), Oi 10 (.new [(.int .i64 0), (.int .i64 0), (.int .i64 0), (.int .i64 0), (.int .i64 0), (.int .i64 0), (.int .i64 0), (.int .i64 0), (.int .i64 0)] 87), On (.store 9 (Tm 10) (Tm 85))]) (.seq (.ops [Oi 86 (.faddr 3 (Tm 4)), Oi 87 (.load1 (Tm 86)), Oi 88 (.faddr 0 (Tm 5)), Oi 89 (.load1 (Tm 88)), Oi 90 (.faddr 0 (Tm 10)), Oi 91 (.load1 (Tm 90)), Oi 92 (.build [(.int .i64 0), (.int .i64 0)] [(0, (1, (Tm 89))), (1, (1, (Tm 91)))]), Oi 93 (.faddr 1 (Tm 10)), Oi 94 (.iaddrA 4 2 (Tm 93) (Tm 87)), On (.store 2 (Tm 94) (Tm 92))]) (.ops [Mv 95 8, Oi 96 (.loadN 9 (Tm 10)), Oi 97 (.bslice 87 1 [(.int .i64 0), (.int .i64 0), (.int .i64 0), (.int .i64 0), (.int .i64 0), (.int .i64 0), (.int .i64 0), (.int .i64 0), (.int .i64 0)] [(0, (9, (Tm 96)))]), Oi 98 (.call 103 [(Tm 95), (Tm 97)])])))) (.ops [Op 99 (.int2 .add .i64 (Tm 82) (Kn 1)), Mv 82 99]))))
theorem wwg : trC Try.prog (wvb 0) = wvg := by kernel_rfl
noncomputable def wxf : RC := (.seq (.ops [Op 111 (.int2 .lss .i64 (Tm 110) (Tm 109))]) (.seq (.cond (Tm 111) .skip (.exit 3)) (.seq (.block 4 (.seq (.ops [Oi 112 (.iaddrS 9 (Tm 108) (Tm 110)), Oi 113 (.loadN 9 (Tm 112)), Oi 13 (.new [(.int .i64 0), (.int .i64 0), (.int .i64 0), (.int .i64 0), (.int .u64 0), (.int .u64 0), (.int .u64 0), (.int .u64 0), (.slice none 0 0)] 47), On (.store 9 (Tm 13) (Tm 113))]) (.ops [Mv 114 11, Oi 115 (.loadN 2 (Tm 3)), Oi 116 (.loadN 9 (Tm 13)), Oi 117 (.loadN 9 (Tm 5)), Oi 118 (.call 75 [(Tm 115), (Tm 116), (Tm 117)]), Oi 119 (.call 103 [(Tm 114), (Tm 118)])]))) (.ops [Op 120 (.int2 .add .i64 (Tm 110) (Kn 1)), Mv 110 120]))))
theorem wif : trC Try.prog (wvb 1) = wxf := by kernel_rfl
noncomputable def wxg : RC := (.seq (.ops [Op 131 (.int2 .lss .i64 (Tm 130) (Tm 129))]) (.seq (.cond (Tm 131) .skip (.exit 5)) (.seq (.block 6 (.seq (.ops [Oi 132 (.iaddrS 9 (Tm 128) (Tm 130)), Oi 133 (.loadN 9 (Tm 132)), Oi 15 (.new [(.int .i64 0), (.int .i64 0), (.int .i64 0), (.int .i64 0), (.int .u64 0), (.int .u64 0), (.int .u64 0), (.int .u64 0), (.slice none 0 0)] 47), On (.store 9 (Tm 15) (Tm 133))]) (.ops [Oi 134 (.loadN 2 (Tm 3)), Oi 135 (.loadN 9 (Tm 15)), Mv 136 7, Oi 137 (.call 104 [(Tm 134), (Tm 135), (Tm 136)]), Mv 7 137]))) (.ops [Op 138 (.int2 .add .i64 (Tm 130) (Kn 1)), Mv 130 138]))))
theorem wyg : trC Try.prog (wvb 2) = wxg := by kernel_rfl
noncomputable def wcp : RF := ⟨158, (.seq (.ops [Oi 3 (.box 138 (Tm 0)), Oi 4 (.box 47 (Tm 1)), Oi 5 (.box 87 (Tm 2)), Oi 6 (.mv (.const (.slice none 0 0)))]) (.seq (.ops [Oi 17 (.loadN 9 (Tm 5)), Oi 18 (.bslice 87 1 [(.int .i64 0), (.int .i64 0), (.int .i64 0), (.int .i64 0), (.int .i64 0), (.int .i64 0), (.int .i64 0), (.int .i64 0), (.int .i64 0)] [(0, (9, (Tm 17)))]), Mv 7 18]) (.seq (.seq (.ops [Oi 19 (.faddr 0 (Tm 4)), Oi 20 (.load1 (Tm 19))]) (.block 0 (.seq (.ops [Op 22 (.int2 .eql .i64 (Tm 20) (Kn 1)), Mv 21 22]) (.cond (Tm 21) (.seq (.draw #[0, 1, 0, 4, 12, 31, 63, 127, 255, 127, 639, 127, 2175, 7807, 16383, 32767] [Oi 23 (.faddr 0 (Tm 5)), Oi 24 (.load1 (Tm 23)), Oi 25 (.faddr 0 (Tm 3)), Oi 26 (.load1 (Tm 25)), Op 27 (.slen (Tm 26)), Op 28 (.int2 .lss .i64 (Tm 24) (Tm 27)), Mv 29 28, Ot 30 29 (.ins (.faddr 4 (Tm 4))), Ot 31 29 (.ins (.loadN 4 (Tm 30))), Ot 32 29 (.ins (.faddr 0 (Tm 3))), Ot 33 29 (.ins (.load1 (Tm 32))), Ot 34 29 (.ins (.faddr 0 (Tm 5))), Ot 35 29 (.ins (.load1 (Tm 34))), Ot 36 29 (.sidx (Tm 33) (Tm 35)), Ot 37 29 (.ins (.call 52 [(Tm 31), (Tm 36)])), Oi 38 (.pick (Tm 29) (Tm 37) (Kb false))]) (.cond (Tm 38) (.seq (.ops [Oi 39 (.faddr 0 (Tm 5)), Oi 40 (.load1 (Tm 39)), Op 41 (.int2 .add .i64 (Tm 40) (Kn 1)), Oi 42 (.faddr 0 (Tm 5)), On (.store 1 (Tm 42) (Tm 41))]) (.seq (.ops [Oi 43 (.loadN 9 (Tm 5)), Oi 44 (.bslice 87 1 [(.int .i64 0), (.int .i64 0), (.int .i64 0), (.int .i64 0), (.int .i64 0), (.int .i64 0), (.int .i64 0), (.int .i64 0), (.int .i64 0)] [(0, (9, (Tm 43)))]), Mv 6 44]) .ret)) .skip)) (.seq (.ops [Op 46 (.int2 .eql .i64 (Tm 20) (Kn 7)), Mv 45 46]) (.cond (Tm 45) (.seq (.ops [Oi 47 (.faddr 0 (Tm 5)), Oi 48 (.load1 (Tm 47)), Op 49 (.int2 .eql .i64 (Tm 48) (Kn 0)), Mv 50 49, Ot 51 50 (.ins (.faddr 1 (Tm 3))), Ot 52 50 (.ins (.load1 (Tm 51))), Oi 53 (.pick (Tm 50) (Tm 52) (Kb false))]) (.cond (Tm 53) (.seq (.ops [Mv 54 7, Mv 6 54]) .ret) .skip)) (.seq (.ops [Op 56 (.int2 .eql .i64 (Tm 20) (Kn 8)), Mv 55 56]) (.cond (Tm 55) (.seq (.ops [Oi 57 (.faddr 0 (Tm 5)), Oi 58 (.load1 (Tm 57)), Oi 59 (.faddr 0 (Tm 3)), Oi 60 (.load1 (Tm 59)), Op 61 (.slen (Tm 60)), Op 62 (.int2 .eql .i64 (Tm 58) (Tm 61))]) (.cond (Tm 62) (.seq (.ops [Mv 63 7, Mv 6 63]) .ret) .skip)) (.seq (.ops [Op 65 (.int2 .eql .i64 (Tm 20) (Kn 6)), Mv 64 65]) (.cond (Tm 64) (.seq (.ops [Oi 66 (.loadN 2 (Tm 3)), Oi 67 (.faddr 3 (Tm 4)), Oi 68 (.load1 (Tm 67)), Oi 69 (.loadN 9 (Tm 5)), Oi 70 (.call 101 [(Tm 66), (Tm 68), (Tm 69)]), Mv 6 70]) .ret) (.seq (.ops [Op 72 (.int2 .eql .i64 (Tm 20) (Kn 5)), Mv 71 72]) (.cond (Tm 71) (.seq (.ops [Oi 73 (.call 102 []), Mv 8 73]) (.seq (.seq (.draw #[0, 0, 2, 6, 14, 0, 63, 127, 0] [Oi 74 (.loadN 2 (Tm 3)), Oi 75 (.faddr 8 (Tm 4)), Oi 76 (.load1 (Tm 75)), Oi 77 (.iaddrS 9 (Tm 76) (Kn 0)), Oi 78 (.loadN 9 (Tm 77)), Oi 79 (.loadN 9 (Tm 5)), Oi 80 (.call 75 [(Tm 74), (Tm 78), (Tm 79)]), Op 81 (.lenS (Tm 80)), Oi 82 (.mv (Kn 0))]) (.block 1 (.loop (wvb 0)))) (.seq (.ops [Mv 100 8, Oi 101 (.nilc (Tm 100)), Oi 102 (.faddr 0 (Tm 101)), Oi 103 (.load1 (Tm 102)), Mv 6 103]) .ret))) (.seq (.ops [Op 105 (.int2 .eql .i64 (Tm 20) (Kn 3)), Mv 104 105]) (.cond (Tm 104) (.seq (.ops [Oi 106 (.call 102 []), Mv 11 106]) (.seq (.seq (.ops [Oi 107 (.faddr 8 (Tm 4)), Oi 108 (.load1 (Tm 107)), Op 109 (.lenS (Tm 108)), Oi 110 (.mv (Kn 0))]) (.block 3 (.loop (wvb 1)))) (.seq (.ops [Mv 121 11, Oi 122 (.nilc (Tm 121)), Oi 123 (.faddr 0 (Tm 122)), Oi 124 (.load1 (Tm 123)), Mv 6 124]) .ret))) (.seq (.ops [Op 126 (.int2 .eql .i64 (Tm 20) (Kn 2)), Mv 125 126]) (.cond (Tm 125) (.seq (.seq (.ops [Oi 127 (.faddr 8 (Tm 4)), Oi 128 (.load1 (Tm 127)), Op 129 (.lenS (Tm 128)), Oi 130 (.mv (Kn 0))]) (.block 5 (.loop (wvb 2)))) (.seq (.ops [Mv 139 7, Mv 6 139]) .ret)) (.seq (.ops [Op 141 (.int2 .eql .i64 (Tm 20) (Kn 4)), Mv 140 141]) (.cond (Tm 140) (.seq (.draw #[0, 0, 0, 0, 15, 31, 63] [Oi 142 (.loadN 2 (Tm 3)), Oi 143 (.loadN 9 (Tm 4)), Oi 144 (.call 102 []), Oi 145 .mkmap, Oi 146 (.build [(str []), (.bool false), (.int .i64 0), (.int .i64 0), (.int .i64 0), (.int .i64 0), (.int .u64 0), (.int .u64 0), (.int .u64 0), (.int .u64 0), (.slice none 0 0), (.pointer none), (.map none)] [(0, (2, (Tm 142))), (2, (9, (Tm 143))), (11, (1, (Tm 144))), (12, (1, (Tm 145)))]), Oi 147 (.box 183 (Tm 146)), Mv 16 147]) (.seq (.ops [Mv 148 16, Oi 149 (.loadN 9 (Tm 5)), Oi 150 (.call 105 [(Tm 148), (Kn 0), (Tm 149)])]) (.seq (.ops [Mv 151 16, Oi 152 (.nilc (Tm 151)), Oi 153 (.faddr 11 (Tm 152)), Oi 154 (.load1 (Tm 153)), Oi 155 (.nilc (Tm 154)), Oi 156 (.faddr 0 (Tm 155)), Oi 157 (.load1 (Tm 156)), Mv 6 157]) .ret))) .skip)))))))))))))))))) (.seq (.ops [Oi 6 (.mv (.const (.slice none 0 0)))]) .ret)))), [(.tmp 6)]⟩
theorem wrs : trF Try.prog 75 = some wcp := by kernel_rfl
noncomputable def wdp : RF := ⟨55, (.seq (.ops [Oi 3 (.box 138 (Tm 0)), Oi 5 (.box 87 (Tm 2)), Oi 6 (.mv (.const (.slice none 0 0)))]) (.seq (.ops [Mv 9 1, Oi 10 (.faddr 1 (Tm 5)), Oi 11 (.iaddrA 4 2 (Tm 10) (Tm 9)), Oi 12 (.loadN 2 (Tm 11)), Oi 7 (.new [(.int .i64 0), (.int .i64 0)] 51), On (.store 2 (Tm 7) (Tm 12))]) (.seq (.seq (.ops [Oi 13 (.faddr 0 (Tm 7)), Oi 14 (.load1 (Tm 13)), Op 15 (.int2 .lss .i64 (Tm 14) (Kn 0))]) (.cond (Tm 15) (.seq (.ops [Oi 6 (.mv (.const (.slice none 0 0)))]) .ret) .skip)) (.seq (.ops [Oi 16 (.faddr 1 (Tm 7)), Oi 17 (.load1 (Tm 16)), Oi 18 (.faddr 0 (Tm 7)), Oi 19 (.load1 (Tm 18)), Op 20 (.int2 .sub .i64 (Tm 17) (Tm 19)), Mv 8 20]) (.seq (.seq (.draw #[0, 0, 2, 6, 0, 16, 62, 127, 255, 511, 1023, 511, 2559, 511, 8703, 32767, 511, 66047, 511, 262655, 511, 1049087, 511, 7340543, 16712191, 33554431, 67108863] [Mv 21 8, Oi 22 (.faddr 0 (Tm 3)), Oi 23 (.load1 (Tm 22)), Op 24 (.slen (Tm 23)), Oi 25 (.faddr 0 (Tm 5)), Oi 26 (.load1 (Tm 25)), Op 27 (.int2 .sub .i64 (Tm 24) (Tm 26)), Op 28 (.int2 .gtr .i64 (Tm 21) (Tm 27)), Mv 29 28, Of 30 29 (.ins (.faddr 0 (Tm 3))), Of 31 29 (.ins (.load1 (Tm 30))), Of 32 29 (.ins (.faddr 0 (Tm 7))), Of 33 29 (.ins (.load1 (Tm 32))), Of 34 29 (.ins (.faddr 1 (Tm 7))), Of 35 29 (.ins (.load1 (Tm 34))), Of 36 29 (.ssl (Tm 31) (some (Tm 33)) (some (Tm 35))), Of 37 29 (.ins (.faddr 0 (Tm 3))), Of 38 29 (.ins (.load1 (Tm 37))), Of 39 29 (.ins (.faddr 0 (Tm 5))), Of 40 29 (.ins (.load1 (Tm 39))), Of 41 29 (.ins (.faddr 0 (Tm 5))), Of 42 29 (.ins (.load1 (Tm 41))), Of 43 29 (.ins (.mv (Tm 8))), Of 44 29 (.int2 .add .i64 (Tm 42) (Tm 43)), Of 45 29 (.ssl (Tm 38) (some (Tm 40)) (some (Tm 44))), Of 46 29 (.str2 .neq (Tm 36) (Tm 45)), Oi 47 (.pick (Tm 29) (Kb true) (Tm 46))]) (.cond (Tm 47) (.seq (.ops [Oi 6 (.mv (.const (.slice none 0 0)))]) .ret) .skip)) (.seq (.ops [Oi 48 (.faddr 0 (Tm 5)), Oi 49 (.load1 (Tm 48)), Mv 50 8, Op 51 (.int2 .add .i64 (Tm 49) (Tm 50)), Oi 52 (.faddr 0 (Tm 5)), On (.store 1 (Tm 52) (Tm 51))]) (.seq (.ops [Oi 53 (.loadN 9 (Tm 5)), Oi 54 (.bslice 87 1 [(.int .i64 0), (.int .i64 0), (.int .i64 0), (.int .i64 0), (.int .i64 0), (.int .i64 0), (.int .i64 0), (.int .i64 0), (.int .i64 0)] [(0, (9, (Tm 53)))]), Mv 6 54]) .ret))))))), [(.tmp 6)]⟩
theorem wss : trF Try.prog 101 = some wdp := by kernel_rfl
noncomputable def wfu : RF := ⟨4, (.seq (.ops [Oi 0 (.mv (.const (.pointer none)))]) (.seq (.ops [Oi 1 .mkmap, Oi 2 (.build [(.slice none 0 0), (.map none)] [(1, (1, (Tm 1)))]), Oi 3 (.box 178 (Tm 2)), Mv 0 3]) .ret)), [(.tmp 0)]⟩
theorem wfw : trF Try.prog 102 = some wfu := by kernel_rfl
noncomputable def wfh (i : Nat) : Code := lp Try.prog 103 i
noncomputable def wbg : RC := (.seq (.ops [Op 9 (.int2 .lss .i64 (Tm 8) (Tm 7))]) (.seq (.cond (Tm 9) .skip (.exit 0)) (.seq (.block 1 (.seq (.ops [Oi 10 (.iaddrS 9 (Tm 6) (Tm 8)), Oi 11 (.loadN 9 (Tm 10)), Oi 5 (.new [(.int .i64 0), (.int .i64 0), (.int .i64 0), (.int .i64 0), (.int .i64 0), (.int .i64 0), (.int .i64 0), (.int .i64 0), (.int .i64 0)] 87), On (.store 9 (Tm 5) (Tm 11))]) (.seq (.draw #[0, 1, 3, 7, 0, 31, 63] [Mv 12 0, Oi 13 (.nilc (Tm 12)), Oi 14 (.faddr 1 (Tm 13)), Oi 15 (.load1 (Tm 14)), Oi 16 (.loadN 9 (Tm 5)), Op 17 (.look 87 (.bool false) false (Tm 15) (Tm 16)), Op 18 (.un .not (Tm 17))]) (.cond (Tm 18) (.seq (.draw #[0, 1, 3, 7, 0, 31] [Mv 19 0, Oi 20 (.nilc (Tm 19)), Oi 21 (.faddr 1 (Tm 20)), Oi 22 (.load1 (Tm 21)), Oi 23 (.loadN 9 (Tm 5)), On (.upd 87 (Tm 22) (Tm 23) (Kb true))]) (.draw #[0, 0, 2, 6, 14, 0, 32, 126, 255, 511, 1023] [Mv 24 0, Mv 25 0, Oi 26 (.nilc (Tm 25)), Oi 27 (.faddr 0 (Tm 26)), Oi 28 (.load1 (Tm 27)), Oi 29 (.loadN 9 (Tm 5)), Oi 30 (.bslice 87 1 [(.int .i64 0), (.int .i64 0), (.int .i64 0), (.int .i64 0), (.int .i64 0), (.int .i64 0), (.int .i64 0), (.int .i64 0), (.int .i64 0)] [(0, (9, (Tm 29)))]), Oi 31 (.app 87 9 72 (Tm 28) (Tm 30)), Oi 32 (.nilc (Tm 24)), Oi 33 (.faddr 0 (Tm 32)), On (.store 1 (Tm 33) (Tm 31))])) .skip)))) (.ops [Op 34 (.int2 .add .i64 (Tm 8) (Kn 1)), Mv 8 34]))))
theorem wff : trC Try.prog (wfh 0) = wbg := by kernel_rfl
noncomputable def wdl : RF := ⟨35, (.seq (.ops [Mv 6 1, Op 7 (.lenS (Tm 6)), Oi 8 (.mv (Kn 0))]) (.block 0 (.loop (wfh 0)))), []⟩
theorem wvk : trF Try.prog 103 = some wdl := by kernel_rfl
noncomputable def whi (i : Nat) : Code := lp Try.prog 104 i
noncomputable def wzg : RC := (.seq (.ops [Op 14 (.int2 .lss .i64 (Tm 13) (Tm 12))]) (.seq (.cond (Tm 14) .skip (.exit 0)) (.seq (.block 1 (.seq (.ops [Oi 15 (.iaddrS 9 (Tm 11) (Tm 13)), Oi 16 (.loadN 9 (Tm 15)), Oi 9 (.new [(.int .i64 0), (.int .i64 0), (.int .i64 0), (.int .i64 0), (.int .i64 0), (.int .i64 0), (.int .i64 0), (.int .i64 0), (.int .i64 0)] 87), On (.store 9 (Tm 9) (Tm 16))]) (.ops [Mv 17 7, Oi 18 (.loadN 2 (Tm 3)), Oi 19 (.loadN 9 (Tm 4)), Oi 20 (.loadN 9 (Tm 9)), Oi 21 (.call 75 [(Tm 18), (Tm 19), (Tm 20)]), Oi 22 (.call 103 [(Tm 17), (Tm 21)])]))) (.ops [Op 23 (.int2 .add .i64 (Tm 13) (Kn 1)), Mv 13 23]))))
theorem wah : trC Try.prog (whi 0) = wzg := by kernel_rfl
noncomputable def wep : RF := ⟨28, (.seq (.ops [Oi 3 (.box 138 (Tm 0)), Oi 4 (.box 47 (Tm 1)), Oi 6 (.mv (.const (.slice none 0 0)))]) (.seq (.ops [Oi 10 (.call 102 []), Mv 7 10]) (.seq (.seq (.ops [Mv 11 2, Op 12 (.lenS (Tm 11)), Oi 13 (.mv (Kn 0))]) (.block 0 (.loop (whi 0)))) (.seq (.ops [Mv 24 7, Oi 25 (.nilc (Tm 24)), Oi 26 (.faddr 0 (Tm 25)), Oi 27 (.load1 (Tm 26)), Mv 6 27]) .ret)))), [(.tmp 6)]⟩
theorem wts : trF Try.prog 104 = some wep := by kernel_rfl
noncomputable def wyf (i : Nat) : Code := lp Try.prog 105 i
noncomputable def wde : RC := (.seq (.ops [Op 55 (.int2 .lss .i64 (Tm 54) (Tm 53))]) (.seq (.cond (Tm 55) .skip (.exit 0)) (.seq (.block 1 (.seq (.ops [Oi 56 (.iaddrS 9 (Tm 52) (Tm 54)), Oi 57 (.loadN 9 (Tm 56)), Oi 7 (.new [(.int .i64 0), (.int .i64 0), (.int .i64 0), (.int .i64 0), (.int .i64 0), (.int .i64 0), (.int .i64 0), (.int .i64 0), (.int .i64 0)] 87), On (.store 9 (Tm 7) (Tm 57))]) (.seq (.ops [Oi 58 (.faddr 0 (Tm 7)), Oi 59 (.load1 (Tm 58)), Oi 60 (.faddr 0 (Tm 5)), Oi 61 (.load1 (Tm 60)), Op 62 (.int2 .neq .i64 (Tm 59) (Tm 61)), Mv 63 62, Of 64 63 (.ins (.mv (Tm 1))), Of 65 63 (.ins (.mv (Tm 0))), Of 66 63 (.ins (.nilc (Tm 65))), Of 67 63 (.ins (.faddr 2 (Tm 66))), Of 68 63 (.ins (.faddr 1 (Tm 67))), Of 69 63 (.ins (.load1 (Tm 68))), Of 70 63 (.int2 .lss .i64 (Tm 64) (Tm 69)), Oi 71 (.pick (Tm 63) (Kb true) (Tm 70))]) (.cond (Tm 71) (.ops [Mv 72 0, Mv 73 1, Op 74 (.int2 .add .i64 (Tm 73) (Kn 1)), Oi 75 (.loadN 9 (Tm 7)), Oi 76 (.call 105 [(Tm 72), (Tm 74), (Tm 75)])]) .skip)))) (.ops [Op 77 (.int2 .add .i64 (Tm 54) (Kn 1)), Mv 54 77]))))
theorem wzd : trC Try.prog (wyf 0) = wde := by kernel_rfl
noncomputable def wik : RF := ⟨92, (.seq (.ops [Oi 5 (.box 87 (Tm 2))]) (.seq (.seq (.draw #[0, 1, 3, 7, 0, 0, 0, 112, 255] [Mv 8 0, Oi 9 (.nilc (Tm 8)), Oi 10 (.faddr 12 (Tm 9)), Oi 11 (.load1 (Tm 10)), Mv 12 0, Mv 13 1, Oi 14 (.loadN 9 (Tm 5)), Oi 15 (.call 125 [(Tm 12), (Tm 13), (Tm 14)]), Op 16 (.look 202 (.bool false) false (Tm 11) (Tm 15))]) (.cond (Tm 16) .ret .skip)) (.seq (.draw #[0, 1, 3, 7, 0, 0, 0, 112, 255] [Mv 17 0, Oi 18 (.nilc (Tm 17)), Oi 19 (.faddr 12 (Tm 18)), Oi 20 (.load1 (Tm 19)), Mv 21 0, Mv 22 1, Oi 23 (.loadN 9 (Tm 5)), Oi 24 (.call 125 [(Tm 21), (Tm 22), (Tm 23)]), On (.upd 202 (Tm 20) (Tm 24) (Kb true))]) (.seq (.seq (.ops [Mv 25 0, Oi 26 (.nilc (Tm 25)), Oi 27 (.faddr 2 (Tm 26)), Oi 28 (.faddr 2 (Tm 27)), Oi 29 (.load1 (Tm 28)), Op 30 (.int2 .lss .i64 (Tm 29) (Kn 0)), Mv 31 30, Of 32 31 (.ins (.mv (Tm 1))), Of 33 31 (.ins (.mv (Tm 0))), Of 34 31 (.ins (.nilc (Tm 33))), Of 35 31 (.ins (.faddr 2 (Tm 34))), Of 36 31 (.ins (.faddr 2 (Tm 35))), Of 37 31 (.ins (.load1 (Tm 36))), Of 38 31 (.int2 .lss .i64 (Tm 32) (Tm 37)), Oi 39 (.pick (Tm 31) (Kb true) (Tm 38))]) (.cond (Tm 39) (.seq (.draw #[0, 1, 3, 7, 0, 16, 48, 112, 240, 496, 1008, 0, 4095, 8191, 0] [Mv 40 0, Oi 41 (.nilc (Tm 40)), Oi 42 (.faddr 0 (Tm 41)), Oi 43 (.loadN 2 (Tm 42)), Mv 44 0, Oi 45 (.nilc (Tm 44)), Oi 46 (.faddr 2 (Tm 45)), Oi 47 (.faddr 8 (Tm 46)), Oi 48 (.load1 (Tm 47)), Oi 49 (.iaddrS 9 (Tm 48) (Kn 0)), Oi 50 (.loadN 9 (Tm 49)), Oi 51 (.loadN 9 (Tm 5)), Oi 52 (.call 75 [(Tm 43), (Tm 50), (Tm 51)]), Op 53 (.lenS (Tm 52)), Oi 54 (.mv (Kn 0))]) (.block 0 (.loop (wyf 0)))) .skip)) (.seq (.ops [Mv 78 1, Mv 79 0, Oi 80 (.nilc (Tm 79)), Oi 81 (.faddr 2 (Tm 80)), Oi 82 (.faddr 1 (Tm 81)), Oi 83 (.load1 (Tm 82)), Op 84 (.int2 .geq .i64 (Tm 78) (Tm 83))]) (.cond (Tm 84) (.draw #[0, 1, 3, 7, 0, 16, 63] [Mv 85 0, Oi 86 (.nilc (Tm 85)), Oi 87 (.faddr 11 (Tm 86)), Oi 88 (.load1 (Tm 87)), Oi 89 (.loadN 9 (Tm 5)), Oi 90 (.bslice 87 1 [(.int .i64 0), (.int .i64 0), (.int .i64 0), (.int .i64 0), (.int .i64 0), (.int .i64 0), (.int .i64 0), (.int .i64 0), (.int .i64 0)] [(0, (9, (Tm 89)))]), Oi 91 (.call 103 [(Tm 88), (Tm 90)])]) .skip)))))), []⟩
theorem wll : trF Try.prog 105 = some wik := by kernel_rfl
noncomputable def wuj : RF := ⟨23, (.seq (.ops [Oi 5 (.box 87 (Tm 2)), Oi 6 (.new [(.int .i64 0), (.int .i64 0), (.int .i64 0), (.int .i64 0), (.int .i64 0), (.int .i64 0), (.int .i64 0), (.int .i64 0), (.int .i64 0), (.int .i64 0)] 202)]) (.seq (.seq (.ops [Mv 7 0, Oi 8 (.nilc (Tm 7)), Oi 9 (.faddr 2 (Tm 8)), Oi 10 (.faddr 2 (Tm 9)), Oi 11 (.load1 (Tm 10)), Op 12 (.int2 .lss .i64 (Tm 11) (Kn 0))]) (.cond (Tm 12) (.ops [Mv 13 1, Mv 14 0, Oi 15 (.nilc (Tm 14)), Oi 16 (.faddr 2 (Tm 15)), Oi 17 (.faddr 1 (Tm 16)), Oi 18 (.load1 (Tm 17)), Op 19 (.mm false (Tm 13) [(Tm 18)]), Mv 1 19]) .skip)) (.seq (.ops [Mv 20 1, Oi 21 (.loadN 9 (Tm 5)), Oi 22 (.build [(.int .i64 0), (.int .i64 0), (.int .i64 0), (.int .i64 0), (.int .i64 0), (.int .i64 0), (.int .i64 0), (.int .i64 0), (.int .i64 0), (.int .i64 0)] [(0, (1, (Tm 20))), (1, (9, (Tm 21)))]), On (.store 10 (Tm 6) (Tm 22))]) .ret))), [(.cellN 6 10)]⟩
theorem wok : trF Try.prog 125 = some wuj := by kernel_rfl
noncomputable def wty : RF := ⟨35, (.seq (.ops [Oi 4 (.box 47 (Tm 0)), Oi 8 (.mv (.const (.slice none 0 0)))]) (.seq (.seq (.ops [Oi 9 (.loadN 9 (Tm 4)), Oi 10 (.call 69 [(Tm 9), (Kb true)]), Op 11 (.un .not (Tm 10)), Mv 12 11, Of 13 12 (.ins (.mv (Tm 1))), Of 14 12 (.slen (Tm 13)), Of 15 12 (.int2 .gtr .i64 (Tm 14) (Kn 60)), Oi 16 (.pick (Tm 12) (Kb true) (Tm 15)), Mv 17 16, Of 18 17 (.ins (.mv (Tm 3))), Of 19 17 (.int2 .lss .i64 (Tm 18) (Kn 0)), Oi 20 (.pick (Tm 17) (Kb true) (Tm 19)), Mv 21 20, Of 22 21 (.ins (.mv (Tm 3))), Of 23 21 (.ins (.mv (Tm 1))), Of 24 21 (.slen (Tm 23)), Of 25 21 (.int2 .gtr .i64 (Tm 22) (Tm 24)), Oi 26 (.pick (Tm 21) (Kb true) (Tm 25))]) (.cond (Tm 26) (.seq (.ops [Oi 8 (.mv (.const (.slice none 0 0)))]) .ret) .skip)) (.seq (.draw #[0, 0, 3, 0, 0, 0, 48, 127, 255] [Mv 27 1, Mv 28 2, Oi 29 (.build [(str []), (.bool false)] [(0, (1, (Tm 27))), (1, (1, (Tm 28)))]), Oi 30 (.loadN 9 (Tm 4)), Mv 31 3, Oi 32 (.call 38 []), Oi 33 (.build [(.int .i64 0), (.int .i64 0), (.int .i64 0), (.int .i64 0), (.int .i64 0), (.int .i64 0), (.int .i64 0), (.int .i64 0), (.int .i64 0)] [(0, (1, (Tm 31))), (1, (8, (Tm 32)))]), Oi 34 (.call 75 [(Tm 29), (Tm 30), (Tm 33)]), Mv 8 34]) .ret))), [(.tmp 8)]⟩
theorem wzz : trF Try.prog 36 = some wty := by kernel_rfl
noncomputable def wuy : RF := ⟨29, (.seq (.ops [Oi 2 (.box 47 (Tm 0)), Oi 4 (.mv (Kb false))]) (.seq (.ops [Mv 6 1, Oi 7 (.build [(.bool false), (.int .i64 0)] [(0, (1, (Tm 6)))]), Oi 8 (.box 165 (Tm 7)), Mv 5 8]) (.seq (.ops [Oi 9 (.loadN 9 (Tm 2)), Oi 10 (.call 74 [(Tm 9)]), Op 11 (.int2 .leq .i64 (Tm 10) (Kn 40)), Mv 12 11, Ot 13 12 (.ins (.mv (Tm 5))), Ot 14 12 (.ins (.loadN 9 (Tm 2))), Ot 15 12 (.ins (.call 96 [(Tm 13), (Tm 14)])), Oi 16 (.pick (Tm 12) (Tm 15) (Kb false)), Mv 17 16, Ot 18 17 (.ins (.mv (Tm 5))), Ot 19 17 (.ins (.loadN 9 (Tm 2))), Ot 20 17 (.ins (.call 97 [(Tm 18), (Tm 19), (Kn 0)])), Oi 21 (.pick (Tm 17) (Tm 20) (Kb false)), Mv 22 21, Ot 23 22 (.ins (.mv (Tm 5))), Ot 24 22 (.ins (.nilc (Tm 23))), Ot 25 22 (.ins (.faddr 1 (Tm 24))), Ot 26 22 (.ins (.load1 (Tm 25))), Ot 27 22 (.int2 .leq .i64 (Tm 26) (Kn 3)), Oi 28 (.pick (Tm 22) (Tm 27) (Kb false)), Mv 4 28]) .ret))), [(.tmp 4)]⟩
theorem waab : trF Try.prog 69 = some wuy := by kernel_rfl
noncomputable def wto (i : Nat) : Code := lp Try.prog 74 i
noncomputable def wuo : RC := (.seq (.ops [Op 10 (.int2 .lss .i64 (Tm 9) (Tm 8))]) (.seq (.cond (Tm 10) .skip (.exit 0)) (.seq (.block 1 (.seq (.ops [Oi 11 (.iaddrS 9 (Tm 7) (Tm 9)), Oi 12 (.loadN 9 (Tm 11)), Oi 5 (.new [(.int .i64 0), (.int .i64 0), (.int .i64 0), (.int .i64 0), (.int .u64 0), (.int .u64 0), (.int .u64 0), (.int .u64 0), (.slice none 0 0)] 47), On (.store 9 (Tm 5) (Tm 12))]) (.ops [Mv 13 3, Oi 14 (.loadN 9 (Tm 5)), Oi 15 (.call 74 [(Tm 14)]), Op 16 (.int2 .add .i64 (Tm 13) (Tm 15)), Mv 3 16]))) (.ops [Op 17 (.int2 .add .i64 (Tm 9) (Kn 1)), Mv 9 17]))))
theorem wfp : trC Try.prog (wto 0) = wuo := by kernel_rfl
noncomputable def wvy : RF := ⟨19, (.seq (.ops [Oi 1 (.box 47 (Tm 0)), Oi 2 (.mv (Kn 0))]) (.seq (.ops [Oi 3 (.mv (Kn 1))]) (.seq (.seq (.ops [Oi 6 (.faddr 8 (Tm 1)), Oi 7 (.load1 (Tm 6)), Op 8 (.lenS (Tm 7)), Oi 9 (.mv (Kn 0))]) (.block 0 (.loop (wto 0)))) (.seq (.ops [Mv 18 3, Mv 2 18]) .ret)))), [(.tmp 2)]⟩
theorem wbab : trF Try.prog 74 = some wvy := by kernel_rfl
noncomputable def wpr (i : Nat) : Code := lp Try.prog 96 i
noncomputable def wyl : RF := ⟨45, (.seq (.ops [Oi 3 (.box 47 (Tm 1)), Oi 4 (.mv (Kb false))]) (.seq (.seq (.ops [Mv 7 0, Oi 8 (.nilc (Tm 7)), Oi 9 (.faddr 0 (Tm 8)), Oi 10 (.load1 (Tm 9)), Mv 11 10, Of 12 11 (.ins (.faddr 0 (Tm 3))), Of 13 11 (.ins (.load1 (Tm 12))), Of 14 11 (.int2 .neq .i64 (Tm 13) (Kn 2)), Oi 15 (.pick (Tm 11) (Kb true) (Tm 14))]) (.cond (Tm 15) (.seq (.ops [Oi 4 (.mv (Kb true))]) .ret) .skip)) (.seq (.seq (.ops [Oi 16 (.faddr 8 (Tm 3)), Oi 17 (.load1 (Tm 16)), Op 18 (.lenS (Tm 17)), Oi 19 (.mv (Kn 0))]) (.block 0 (.loop (wpr 0)))) (.seq (.ops [Oi 4 (.mv (Kb true))]) .ret)))), [(.tmp 4)]⟩
theorem wvo : trF Try.prog 96 = some wyl := by kernel_rfl
noncomputable def wwi (i : Nat) : Code := lp Try.prog 97 i
noncomputable def wog : RC := (.seq (.ops [Op 80 (.int2 .lss .i64 (Tm 79) (Tm 78))]) (.seq (.cond (Tm 80) .skip (.exit 1)) (.seq (.block 2 (.seq (.ops [Oi 81 (.iaddrS 9 (Tm 77) (Tm 79)), Oi 82 (.loadN 9 (Tm 81)), Oi 8 (.new [(.int .i64 0), (.int .i64 0), (.int .i64 0), (.int .i64 0), (.int .u64 0), (.int .u64 0), (.int .u64 0), (.int .u64 0), (.slice none 0 0)] 47), On (.store 9 (Tm 8) (Tm 82))]) (.seq (.ops [Mv 83 0, Oi 84 (.loadN 9 (Tm 8)), Mv 85 2, Oi 86 (.call 97 [(Tm 83), (Tm 84), (Tm 85)]), Op 87 (.un .not (Tm 86))]) (.cond (Tm 87) (.seq (.ops [Oi 6 (.mv (Kb false))]) .ret) .skip)))) (.ops [Op 88 (.int2 .add .i64 (Tm 79) (Kn 1)), Mv 79 88]))))
theorem wrg : trC Try.prog (wwi 0) = wog := by kernel_rfl
noncomputable def wwn : RF := ⟨89, (.seq (.ops [Oi 4 (.box 47 (Tm 1)), Oi 6 (.mv (Kb false))]) (.seq (.seq (.ops [Oi 9 (.loadN 9 (Tm 4)), Oi 10 (.call 114 [(Tm 9)]), Op 11 (.un .not (Tm 10)), Mv 12 11, Of 13 12 (.ins (.loadN 9 (Tm 4))), Of 14 12 (.ins (.call 115 [(Tm 13)])), Of 15 12 (.un .not (Tm 14)), Oi 16 (.pick (Tm 12) (Kb true) (Tm 15)), Mv 17 16, Of 18 17 (.ins (.faddr 0 (Tm 4))), Of 19 17 (.ins (.load1 (Tm 18))), Of 20 17 (.int2 .eql .i64 (Tm 19) (Kn 3)), Of 21 17 (.ins (.mv (Tm 20))), Ot 22 21 (.ins (.mv (Tm 0))), Ot 23 21 (.ins (.nilc (Tm 22))), Ot 24 21 (.ins (.faddr 0 (Tm 23))), Ot 25 21 (.ins (.load1 (Tm 24))), Ot 26 21 (.un .not (Tm 25)), Of 27 17 (.ins (.pick (Tm 21) (Tm 26) (Kb false))), Oi 28 (.pick (Tm 17) (Kb true) (Tm 27))]) (.cond (Tm 28) (.seq (.ops [Oi 6 (.mv (Kb false))]) .ret) .skip)) (.seq (.seq (.ops [Oi 29 (.faddr 0 (Tm 4)), Oi 30 (.load1 (Tm 29))]) (.block 0 (.seq (.ops [Op 32 (.int2 .eql .i64 (Tm 30) (Kn 5)), Mv 31 32]) (.cond (Tm 31) (.seq (.ops [Mv 33 0, Oi 34 (.nilc (Tm 33)), Oi 35 (.faddr 1 (Tm 34)), Oi 36 (.load1 (Tm 35)), Op 37 (.int2 .add .i64 (Tm 36) (Kn 1)), Oi 38 (.nilc (Tm 33)), Oi 39 (.faddr 1 (Tm 38)), On (.store 1 (Tm 39) (Tm 37))]) (.seq (.ops [Mv 40 2, Op 41 (.int2 .add .i64 (Tm 40) (Kn 1)), Mv 2 41]) (.seq (.draw #[0, 1, 0, 4, 12, 28, 63, 127, 255, 511, 1023, 2047, 4095, 4095, 12287, 28671, 61439, 131071, 262143, 524287] [Oi 42 (.faddr 3 (Tm 4)), Oi 43 (.load1 (Tm 42)), Mv 44 0, Oi 45 (.nilc (Tm 44)), Oi 46 (.faddr 1 (Tm 45)), Oi 47 (.load1 (Tm 46)), Op 48 (.int2 .neq .i64 (Tm 43) (Tm 47)), Mv 49 48, Of 50 49 (.ins (.mv (Tm 2))), Of 51 49 (.int2 .gtr .i64 (Tm 50) (Kn 6)), Oi 52 (.pick (Tm 49) (Kb true) (Tm 51)), Mv 53 52, Of 54 53 (.ins (.mv (Tm 0))), Of 55 53 (.ins (.faddr 8 (Tm 4))), Of 56 53 (.ins (.load1 (Tm 55))), Of 57 53 (.ins (.iaddrS 9 (Tm 56) (Kn 0))), Of 58 53 (.ins (.loadN 9 (Tm 57))), Of 59 53 (.ins (.call 96 [(Tm 54), (Tm 58)])), Of 60 53 (.un .not (Tm 59)), Oi 61 (.pick (Tm 53) (Kb true) (Tm 60))]) (.cond (Tm 61) (.seq (.ops [Oi 6 (.mv (Kb false))]) .ret) .skip)))) (.seq (.ops [Op 63 (.int2 .eql .i64 (Tm 30) (Kn 6)), Mv 62 63]) (.cond (Tm 62) (.seq (.draw #[0, 1, 3, 7, 15, 31, 15, 79, 207, 463, 1023, 2047, 4095] [Oi 64 (.faddr 3 (Tm 4)), Oi 65 (.load1 (Tm 64)), Op 66 (.int2 .geq .i64 (Tm 65) (Kn 1)), Mv 67 66, Ot 68 67 (.ins (.faddr 3 (Tm 4))), Ot 69 67 (.ins (.load1 (Tm 68))), Ot 70 67 (.ins (.mv (Tm 0))), Ot 71 67 (.ins (.nilc (Tm 70))), Ot 72 67 (.ins (.faddr 1 (Tm 71))), Ot 73 67 (.ins (.load1 (Tm 72))), Ot 74 67 (.int2 .leq .i64 (Tm 69) (Tm 73)), Oi 75 (.pick (Tm 67) (Tm 74) (Kb false)), Mv 6 75]) .ret) .skip)))))) (.seq (.seq (.ops [Oi 76 (.faddr 8 (Tm 4)), Oi 77 (.load1 (Tm 76)), Op 78 (.lenS (Tm 77)), Oi 79 (.mv (Kn 0))]) (.block 1 (.loop (wwi 0)))) (.seq (.ops [Oi 6 (.mv (Kb true))]) .ret))))), [(.tmp 6)]⟩
theorem wqr : trF Try.prog 97 = some wwn := by kernel_rfl
noncomputable def wlbb : RF := ⟨40, (.seq (.ops [Oi 1 (.box 47 (Tm 0)), Oi 2 (.mv (Kb false))]) (.seq (.seq (.ops [Oi 3 (.faddr 0 (Tm 1)), Oi 4 (.load1 (Tm 3)), Op 5 (.int2 .neq .i64 (Tm 4) (Kn 1)), Mv 6 5, Ot 7 6 (.ins (.faddr 4 (Tm 1))), Ot 8 6 (.ins (.loadN 4 (Tm 7))), Ot 9 6 (.ins (.build [(.int .u64 0), (.int .u64 0), (.int .u64 0), (.int .u64 0)] [])), Ot 10 6 (.eqc true [(.int .u64), (.int .u64), (.int .u64), (.int .u64)] (Tm 8) (Tm 9)), Oi 11 (.pick (Tm 6) (Tm 10) (Kb false)), Mv 12 11, Of 13 12 (.ins (.faddr 0 (Tm 1))), Of 14 12 (.ins (.load1 (Tm 13))), Of 15 12 (.int2 .neq .i64 (Tm 14) (Kn 4)), Of 16 12 (.ins (.mv (Tm 15))), Ot 17 16 (.ins (.faddr 1 (Tm 1))), Ot 18 16 (.ins (.load1 (Tm 17))), Ot 19 16 (.int2 .neq .i64 (Tm 18) (Kn 0)), Ot 20 16 (.ins (.mv (Tm 19))), Of 21 20 (.ins (.faddr 2 (Tm 1))), Of 22 20 (.ins (.load1 (Tm 21))), Of 23 20 (.int2 .neq .i64 (Tm 22) (Kn 0)), Ot 24 16 (.ins (.pick (Tm 20) (Kb true) (Tm 23))), Of 25 12 (.ins (.pick (Tm 16) (Tm 24) (Kb false))), Oi 26 (.pick (Tm 12) (Kb true) (Tm 25))]) (.cond (Tm 26) (.seq (.ops [Oi 2 (.mv (Kb false))]) .ret) .skip)) (.seq (.ops [Oi 27 (.faddr 0 (Tm 1)), Oi 28 (.load1 (Tm 27)), Op 29 (.int2 .eql .i64 (Tm 28) (Kn 5)), Mv 30 29, Of 31 30 (.ins (.faddr 0 (Tm 1))), Of 32 30 (.ins (.load1 (Tm 31))), Of 33 30 (.int2 .eql .i64 (Tm 32) (Kn 6)), Oi 34 (.pick (Tm 30) (Kb true) (Tm 33)), Mv 35 34, Of 36 35 (.ins (.faddr 3 (Tm 1))), Of 37 35 (.ins (.load1 (Tm 36))), Of 38 35 (.int2 .eql .i64 (Tm 37) (Kn 0)), Oi 39 (.pick (Tm 35) (Kb true) (Tm 38)), Mv 2 39]) .ret))), [(.tmp 2)]⟩
theorem wzdb : trF Try.prog 114 = some wlbb := by kernel_rfl
noncomputable def wmbb : RF := ⟨65, (.seq (.ops [Oi 1 (.box 47 (Tm 0)), Oi 2 (.mv (Kb false))]) (.seq (.ops [Oi 4 (.faddr 8 (Tm 1)), Oi 5 (.load1 (Tm 4)), Op 6 (.lenS (Tm 5)), Mv 3 6]) (.seq (.seq (.ops [Oi 7 (.faddr 0 (Tm 1)), Oi 8 (.load1 (Tm 7))]) (.block 0 (.seq (.ops [Op 10 (.int2 .eql .i64 (Tm 8) (Kn 1)), Mv 9 10]) (.cond (Tm 9) (.seq (.ops [Mv 11 3, Op 12 (.int2 .eql .i64 (Tm 11) (Kn 0)), Mv 13 12, Ot 14 13 (.ins (.faddr 4 (Tm 1))), Ot 15 13 (.ins (.loadN 4 (Tm 14))), Ot 16 13 (.ins (.build [(.int .u64 0), (.int .u64 0), (.int .u64 0), (.int .u64 0)] [])), Ot 17 13 (.eqc true [(.int .u64), (.int .u64), (.int .u64), (.int .u64)] (Tm 15) (Tm 16)), Oi 18 (.pick (Tm 13) (Tm 17) (Kb false)), Mv 2 18]) .ret) (.seq (.ops [Op 20 (.int2 .eql .i64 (Tm 8) (Kn 2)), Mv 19 20]) (.cond (Tm 19) (.seq (.ops [Mv 21 3, Op 22 (.int2 .neq .i64 (Tm 21) (Kn 1)), Mv 23 22, Ot 24 23 (.ins (.faddr 8 (Tm 1))), Ot 25 23 (.ins (.load1 (Tm 24))), Ot 26 23 (.ins (.bslice 3 2 [(.int .i64 0), (.int .i64 0)] [(0, (1, (Kn 2))), (1, (1, (Kn 3)))])), Ot 27 23 (.ins (.call 144 [(Tm 25), (Tm 26)])), Ot 28 23 (.un .not (Tm 27)), Oi 29 (.pick (Tm 23) (Tm 28) (Kb false)), Mv 2 29]) .ret) (.seq (.ops [Op 31 (.int2 .eql .i64 (Tm 8) (Kn 3)), Mv 30 31]) (.cond (Tm 30) (.seq (.ops [Mv 32 3, Op 33 (.int2 .geq .i64 (Tm 32) (Kn 2)), Mv 34 33, Ot 35 34 (.ins (.faddr 8 (Tm 1))), Ot 36 34 (.ins (.load1 (Tm 35))), Ot 37 34 (.ins (.bslice 3 1 [(.int .i64 0)] [(0, (1, (Kn 3)))])), Ot 38 34 (.ins (.call 144 [(Tm 36), (Tm 37)])), Ot 39 34 (.un .not (Tm 38)), Oi 40 (.pick (Tm 34) (Tm 39) (Kb false)), Mv 2 40]) .ret) (.seq (.ops [Op 42 (.int2 .eql .i64 (Tm 8) (Kn 4)), Mv 41 42]) (.cond (Tm 41) (.seq (.ops [Mv 43 3, Op 44 (.int2 .eql .i64 (Tm 43) (Kn 1)), Mv 45 44, Ot 46 45 (.ins (.faddr 8 (Tm 1))), Ot 47 45 (.ins (.load1 (Tm 46))), Ot 48 45 (.ins (.bslice 3 3 [(.int .i64 0), (.int .i64 0), (.int .i64 0)] [(0, (1, (Kn 1))), (1, (1, (Kn 5))), (2, (1, (Kn 6)))])), Ot 49 45 (.ins (.call 144 [(Tm 47), (Tm 48)])), Oi 50 (.pick (Tm 45) (Tm 49) (Kb false)), Mv 51 50, Ot 52 51 (.ins (.loadN 9 (Tm 1))), Ot 53 51 (.ins (.call 145 [(Tm 52)])), Oi 54 (.pick (Tm 51) (Tm 53) (Kb false)), Mv 2 54]) .ret) (.seq (.ops [Op 56 (.int2 .eql .i64 (Tm 8) (Kn 5)), Mv 55 56]) (.cond (Tm 55) (.seq (.ops [Mv 57 3, Op 58 (.int2 .eql .i64 (Tm 57) (Kn 1)), Mv 2 58]) .ret) (.seq (.seq (.ops [Op 60 (.int2 .eql .i64 (Tm 8) (Kn 6)), Mv 59 60]) (.cond (Tm 59) .skip (.seq (.ops [Op 61 (.int2 .eql .i64 (Tm 8) (Kn 7)), Mv 59 61]) (.cond (Tm 59) .skip (.ops [Op 62 (.int2 .eql .i64 (Tm 8) (Kn 8)), Mv 59 62]))))) (.cond (Tm 59) (.seq (.ops [Mv 63 3, Op 64 (.int2 .eql .i64 (Tm 63) (Kn 0)), Mv 2 64]) .ret) .skip)))))))))))))) (.seq (.ops [Oi 2 (.mv (Kb false))]) .ret)))), [(.tmp 2)]⟩
theorem waeb : trF Try.prog 115 = some wmbb := by kernel_rfl
noncomputable def wwy : RF := ⟨14, (.seq (.ops [Oi 2 (.box 44 (Tm 0)), Oi 4 (.mv (Kb false))]) (.seq (.ops [Mv 5 1, Op 6 (.int2 .quo .u8 (Tm 5) (.const (.int .u8 64))), Oi 7 (.iaddrA 4 1 (Tm 2) (Tm 6)), Oi 8 (.load1 (Tm 7)), Mv 9 1, Op 10 (.int2 .rem .u8 (Tm 9) (.const (.int .u8 64))), Op 11 (.shift .shr (Tm 8) (Tm 10)), Op 12 (.int2 .and .u64 (Tm 11) (.const (.int .u64 1))), Op 13 (.int2 .eql .u64 (Tm 12) (.const (.int .u64 1))), Mv 4 13]) .ret)), [(.tmp 4)]⟩
theorem wcab : trF Try.prog 52 = some wwy := by kernel_rfl
noncomputable def wqhb : RF := ⟨8, (.seq (.ops [Oi 3 (.box 39 (Tm 1)), Oi 4 (.mv (Kb false))]) (.seq (.ops [Mv 5 0, Oi 6 (.mkfn (.func 164) [] [(Tm 3)]), Oi 7 (.call 163 [(Tm 5), (Tm 6)]), Mv 4 7]) .ret)), [(.tmp 4)]⟩
theorem wrhb : trF Try.prog 144 = some wqhb := by kernel_rfl
noncomputable def wshb : RF := ⟨29, (.seq (.ops [Oi 1 (.box 47 (Tm 0)), Oi 2 (.mv (Kb false))]) (.seq (.ops [Oi 3 (.faddr 1 (Tm 1)), Oi 4 (.load1 (Tm 3)), Op 5 (.int2 .geq .i64 (Tm 4) (Kn 0)), Mv 6 5, Ot 7 6 (.ins (.faddr 1 (Tm 1))), Ot 8 6 (.ins (.load1 (Tm 7))), Ot 9 6 (.int2 .leq .i64 (Tm 8) (Kn 20)), Oi 10 (.pick (Tm 6) (Tm 9) (Kb false)), Mv 11 10, Ot 12 11 (.ins (.faddr 2 (Tm 1))), Ot 13 11 (.ins (.load1 (Tm 12))), Ot 14 11 (.int2 .eql .i64 (Tm 13) (Kn (-1))), Ot 15 11 (.ins (.mv (Tm 14))), Of 16 15 (.ins (.faddr 2 (Tm 1))), Of 17 15 (.ins (.load1 (Tm 16))), Of 18 15 (.ins (.faddr 1 (Tm 1))), Of 19 15 (.ins (.load1 (Tm 18))), Of 20 15 (.mm true (Tm 19) [(Kn 1)]), Of 21 15 (.int2 .geq .i64 (Tm 17) (Tm 20)), Of 22 15 (.ins (.mv (Tm 21))), Ot 23 22 (.ins (.faddr 2 (Tm 1))), Ot 24 22 (.ins (.load1 (Tm 23))), Ot 25 22 (.int2 .leq .i64 (Tm 24) (Kn 20)), Of 26 15 (.ins (.pick (Tm 22) (Tm 25) (Kb false))), Ot 27 11 (.ins (.pick (Tm 15) (Kb true) (Tm 26))), Oi 28 (.pick (Tm 11) (Tm 27) (Kb false)), Mv 2 28]) .ret)), [(.tmp 2)]⟩
theorem wthb : trF Try.prog 145 = some wshb := by kernel_rfl
noncomputable def whg : RF := ⟨9, (.seq (.ops [Oi 4 (.mv (Kb false))]) (.seq (.ops [Mv 5 0, Mv 6 1, Oi 7 (.call 172 [(Tm 5), (Tm 6)]), Op 8 (.int2 .geq .i64 (Tm 7) (Kn 0)), Mv 4 8]) .ret)), [(.tmp 4)]⟩
theorem wui : trF Try.prog 163 = some whg := by kernel_rfl
noncomputable def wxy : RF := ⟨8, (.seq (.ops [Oi 2 (.box 47 (Tm 0)), Oi 3 (.mv (Kb false))]) (.seq (.ops [Oi 4 (.load1 (Tm 1)), Oi 5 (.faddr 0 (Tm 2)), Oi 6 (.load1 (Tm 5)), Oi 7 (.call 165 [(Tm 4), (Tm 6)]), Mv 3 7]) .ret)), [(.tmp 3)]⟩
theorem wdab : trF Try.prog 164 = some wxy := by kernel_rfl
noncomputable def wbj : RF := ⟨9, (.seq (.ops [Oi 4 (.mv (Kb false))]) (.seq (.ops [Mv 5 0, Mv 6 1, Oi 7 (.call 173 [(Tm 5), (Tm 6)]), Op 8 (.int2 .geq .i64 (Tm 7) (Kn 0)), Mv 4 8]) .ret)), [(.tmp 4)]⟩
theorem wxl : trF Try.prog 165 = some wbj := by kernel_rfl
noncomputable def wtd (i : Nat) : Code := lp Try.prog 172 i
noncomputable def wec : RC := (.seq (.ops [Op 9 (.int2 .lss .i64 (Tm 8) (Tm 7))]) (.seq (.cond (Tm 9) .skip (.exit 0)) (.seq (.block 1 (.seq (.ops [Mv 10 8, Mv 5 10]) (.seq (.ops [Mv 11 1, Mv 12 0, Mv 13 5, Oi 14 (.iaddrS 9 (Tm 12) (Tm 13)), Oi 15 (.loadN 9 (Tm 14)), Oi 16 (.dyn (Tm 11) [(Tm 15)])]) (.cond (Tm 16) (.seq (.ops [Mv 17 5, Mv 4 17]) .ret) .skip)))) (.ops [Op 18 (.int2 .add .i64 (Tm 8) (Kn 1)), Mv 8 18]))))
theorem wtc : trC Try.prog (wtd 0) = wec := by kernel_rfl
noncomputable def wbh : RF := ⟨19, (.seq (.ops [Oi 4 (.mv (Kn 0))]) (.seq (.seq (.ops [Mv 6 0, Op 7 (.lenS (Tm 6)), Oi 8 (.mv (Kn 0))]) (.block 0 (.loop (wtd 0)))) (.seq (.ops [Oi 4 (.mv (Kn (-1)))]) .ret))), [(.tmp 4)]⟩
theorem wlj : trF Try.prog 172 = some wbh := by kernel_rfl
noncomputable def wfg (i : Nat) : Code := lp Try.prog 173 i
noncomputable def wse : RC := (.seq (.ops [Op 9 (.int2 .lss .i64 (Tm 8) (Tm 7))]) (.seq (.cond (Tm 9) .skip (.exit 0)) (.seq (.block 1 (.seq (.ops [Mv 10 8, Mv 5 10]) (.seq (.ops [Mv 11 1, Mv 12 0, Mv 13 5, Oi 14 (.iaddrS 1 (Tm 12) (Tm 13)), Oi 15 (.load1 (Tm 14)), Op 16 (.int2 .eql .i64 (Tm 11) (Tm 15))]) (.cond (Tm 16) (.seq (.ops [Mv 17 5, Mv 4 17]) .ret) .skip)))) (.ops [Op 18 (.int2 .add .i64 (Tm 8) (Kn 1)), Mv 8 18]))))
theorem wwe : trC Try.prog (wfg 0) = wse := by kernel_rfl
noncomputable def wjk : RF := ⟨19, (.seq (.ops [Oi 4 (.mv (Kn 0))]) (.seq (.seq (.ops [Mv 6 0, Op 7 (.lenS (Tm 6)), Oi 8 (.mv (Kn 0))]) (.block 0 (.loop (wfg 0)))) (.seq (.ops [Oi 4 (.mv (Kn (-1)))]) .ret))), [(.tmp 4)]⟩
theorem wvm : trF Try.prog 173 = some wjk := by kernel_rfl
noncomputable def wxi (i : Nat) : Code := lp Try.prog 26 i
noncomputable def wvj : RC := (.seq (.seq (.ops [Mv 7 6, Mv 8 0, Op 9 (.lenS (Tm 8)), Op 10 (.int2 .lss .i64 (Tm 7) (Tm 9)), Mv 11 10, Ot 12 11 (.ins (.mv (Tm 6))), Ot 13 11 (.ins (.mv (Tm 1))), Ot 14 11 (.int2 .lss .i64 (Tm 12) (Tm 13)), Oi 15 (.pick (Tm 11) (Tm 14) (Kb false))]) (.cond (Tm 15) .skip (.exit 0))) (.seq (.block 1 (.ops [Mv 18 5, Oi 19 (.bslice 5 8 [(.int .u8 0), (.int .u8 0), (.int .u8 0), (.int .u8 0), (.int .u8 0), (.int .u8 0), (.int .u8 0), (.int .u8 0)] [(0, (1, (.const (.int .u8 97)))), (1, (1, (.const (.int .u8 98)))), (2, (1, (.const (.int .u8 97)))), (3, (1, (.const (.int .u8 99)))), (4, (1, (.const (.int .u8 98)))), (5, (1, (.const (.int .u8 46)))), (6, (1, (.const (.int .u8 97)))), (7, (1, (.const (.int .u8 32))))]), Mv 20 0, Mv 21 6, Oi 22 (.iaddrS 1 (Tm 20) (Tm 21)), Oi 23 (.load1 (Tm 22)), Oi 24 (.call 15 [(Tm 23), (Kn 0), (Kn 7)]), Oi 25 (.iaddrS 1 (Tm 19) (Tm 24)), Oi 26 (.load1 (Tm 25)), Oi 27 (.bslice 5 1 [(.int .u8 0)] [(0, (1, (Tm 26)))]), Op 28 (.b2s (Tm 27)), Op 29 (.str2 .add (Tm 18) (Tm 28)), Mv 5 29])) (.ops [Mv 16 6, Op 17 (.int2 .add .i64 (Tm 16) (Kn 1)), Mv 6 17])))
theorem wpk : trC Try.prog (wxi 0) = wvj := by kernel_rfl
noncomputable def wxn : RF := ⟨31, (.seq (.ops [Oi 4 (.mv (.const (str [])))]) (.seq (.ops [Oi 5 (.mv (.const (str [])))]) (.seq (.seq (.ops [Oi 6 (.mv (Kn 0))]) (.block 0 (.loop (wxi 0)))) (.seq (.ops [Mv 30 5, Mv 4 30]) .ret)))), [(.tmp 4)]⟩
theorem wrr : trF Try.prog 26 = some wxn := by kernel_rfl
noncomputable def wch (i : Nat) : Code := lp Try.prog 46 i
noncomputable def wbi : RC := (.seq (.seq (.ops [Mv 11 5, Mv 12 0, Op 13 (.lenS (Tm 12)), Op 14 (.int2 .lss .i64 (Tm 11) (Tm 13))]) (.cond (Tm 14) .skip (.exit 0))) (.seq (.block 1 (.seq (.draw #[0, 0, 3, 7, 0, 0, 48, 112, 255] [Mv 17 0, Mv 18 5, Oi 19 (.iaddrS 1 (Tm 17) (Tm 18)), Oi 20 (.load1 (Tm 19)), Mv 21 1, Mv 22 5, Oi 23 (.iaddrS 1 (Tm 21) (Tm 22)), Oi 24 (.load1 (Tm 23)), Op 25 (.int2 .neq .i64 (Tm 20) (Tm 24))]) (.cond (Tm 25) (.seq (.ops [Oi 4 (.mv (Kb false))]) .ret) .skip))) (.ops [Mv 15 5, Op 16 (.int2 .add .i64 (Tm 15) (Kn 1)), Mv 5 16])))
theorem wcj : trC Try.prog (wch 0) = wbi := by kernel_rfl
noncomputable def wml : RF := ⟨26, (.seq (.ops [Oi 4 (.mv (Kb false))]) (.seq (.seq (.ops [Mv 6 0, Op 7 (.lenS (Tm 6)), Mv 8 1, Op 9 (.lenS (Tm 8)), Op 10 (.int2 .neq .i64 (Tm 7) (Tm 9))]) (.cond (Tm 10) (.seq (.ops [Oi 4 (.mv (Kb false))]) .ret) .skip)) (.seq (.seq (.ops [Oi 5 (.mv (Kn 0))]) (.block 0 (.loop (wch 0)))) (.seq (.ops [Oi 4 (.mv (Kb true))]) .ret)))), [(.tmp 4)]⟩
theorem wyn : trF Try.prog 46 = some wml := by kernel_rfl
noncomputable def wwk (i : Nat) : Code := lp Try.prog 37 i
noncomputable def wkk : RC := (.seq (.ops [Op 19 (.int2 .lss .i64 (Tm 18) (Tm 17))]) (.seq (.cond (Tm 19) .skip (.exit 0)) (.seq (.block 1 (.seq (.ops [Oi 20 (.iaddrS 9 (Tm 16) (Tm 18)), Oi 21 (.loadN 9 (Tm 20)), Oi 11 (.new [(.int .i64 0), (.int .i64 0), (.int .i64 0), (.int .i64 0), (.int .i64 0), (.int .i64 0), (.int .i64 0), (.int .i64 0), (.int .i64 0)] 87), On (.store 9 (Tm 11) (Tm 21))]) (.ops [Mv 22 9, Oi 23 (.faddr 0 (Tm 11)), Oi 24 (.load1 (Tm 23)), Oi 25 (.bslice 3 1 [(.int .i64 0)] [(0, (1, (Tm 24)))]), Oi 26 (.app 3 1 8 (Tm 22) (Tm 25)), Mv 9 26]))) (.ops [Op 27 (.int2 .add .i64 (Tm 18) (Kn 1)), Mv 18 27]))))
theorem wsj : trC Try.prog (wwk 0) = wkk := by kernel_rfl
noncomputable def wus : RF := ⟨32, (.seq (.ops [Oi 4 (.box 47 (Tm 0)), Oi 8 (.mv (.const (.slice none 0 0)))]) (.seq (.ops [Oi 9 (.mv (.const (.slice none 0 0)))]) (.seq (.seq (.ops [Oi 12 (.loadN 9 (Tm 4)), Mv 13 1, Mv 14 2, Mv 15 3, Oi 16 (.call 36 [(Tm 12), (Tm 13), (Tm 14), (Tm 15)]), Op 17 (.lenS (Tm 16)), Oi 18 (.mv (Kn 0))]) (.block 0 (.loop (wwk 0)))) (.seq (.ops [Mv 28 9, Oi 29 (.call 76 [(Tm 28)])]) (.seq (.ops [Mv 30 9, Oi 31 (.call 77 [(Tm 30)]), Mv 8 31]) .ret))))), [(.tmp 8)]⟩
theorem wbs : trF Try.prog 37 = some wus := by kernel_rfl
noncomputable def wji : RF := ⟨11, (.seq (.ops [Mv 3 0, Op 4 (.lenS (Tm 3)), Mv 2 4]) (.ops [Mv 5 0, Mv 6 2, Mv 7 2, Op 8 (.conv .u64 (Tm 7)), Oi 9 (.call 107 [(Tm 8)]), Oi 10 (.call 106 [(Tm 5), (Kn 0), (Tm 6), (Tm 9)])])), []⟩
theorem wmj : trF Try.prog 76 = some wji := by kernel_rfl
noncomputable def wte (i : Nat) : Code := lp Try.prog 77 i
noncomputable def wpg : RC := (.seq (.seq (.ops [Mv 10 3, Mv 11 0, Op 12 (.lenS (Tm 11)), Op 13 (.int2 .lss .i64 (Tm 10) (Tm 12))]) (.cond (Tm 13) .skip (.exit 0))) (.seq (.block 1 (.seq (.draw #[0, 0, 3, 7, 0, 0, 32, 112, 240, 511] [Mv 16 0, Mv 17 3, Oi 18 (.iaddrS 1 (Tm 16) (Tm 17)), Oi 19 (.load1 (Tm 18)), Mv 20 0, Mv 21 3, Op 22 (.int2 .sub .i64 (Tm 21) (Kn 1)), Oi 23 (.iaddrS 1 (Tm 20) (Tm 22)), Oi 24 (.load1 (Tm 23)), Op 25 (.int2 .eql .i64 (Tm 19) (Tm 24))]) (.cond (Tm 25) (.seq (.ops [Mv 26 0, Mv 27 3, Op 28 (.slS 1 (Tm 26) (some (Tm 27)) none none), Mv 4 28]) (.seq (.seq (.ops [Oi 5 (.mv (Kn 1))]) (.block 2 (.loop (wte 1)))) (.seq (.ops [Mv 54 0, Mv 55 3, Op 56 (.slS 1 (Tm 54) (some (Tm 55)) none none), ⟨none, none, .bad⟩]) (.seq (.ops [Mv 57 0, Mv 58 3, Op 59 (.slS 1 (Tm 57) none (some (Tm 58)) none), Mv 2 59]) .ret)))) .skip))) (.ops [Mv 14 3, Op 15 (.int2 .add .i64 (Tm 14) (Kn 1)), Mv 3 15])))
theorem wsh : trC Try.prog (wte 0) = wpg := by kernel_rfl
noncomputable def wgh : RF := ⟨61, (.seq (.ops [Oi 2 (.mv (.const (.slice none 0 0)))]) (.seq (.seq (.ops [Mv 6 0, Op 7 (.lenS (Tm 6)), Op 8 (.int2 .lss .i64 (Tm 7) (Kn 2))]) (.cond (Tm 8) (.seq (.ops [Mv 9 0, Mv 2 9]) .ret) .skip)) (.seq (.seq (.ops [Oi 3 (.mv (Kn 1))]) (.block 0 (.loop (wte 0)))) (.seq (.ops [Mv 60 0, Mv 2 60]) .ret)))), [(.tmp 2)]⟩
theorem wpi : trF Try.prog 77 = some wgh := by kernel_rfl
noncomputable def wgp : RF := ⟨6, (.seq (.ops [Oi 2 (.mv (Kb false))]) (.seq (.ops [Mv 3 0, Mv 4 0, Op 5 (.int2 .neq .i64 (Tm 3) (Tm 4)), Mv 2 5]) .ret)), [(.tmp 2)]⟩
theorem wvs : trF Try.prog 86 = some wgp := by kernel_rfl
noncomputable def wud (i : Nat) : Code := lp Try.prog 106 i
noncomputable def wjf : RC := (.block 1 (.seq (.ops [Mv 19 2, Mv 20 1, Op 21 (.int2 .sub .i64 (Tm 19) (Tm 20)), Mv 10 21]) (.seq (.seq (.ops [Mv 22 10, Op 23 (.int2 .leq .i64 (Tm 22) (Kn 12))]) (.cond (Tm 23) (.seq (.ops [Mv 24 0, Mv 25 1, Mv 26 2, Oi 27 (.call 126 [(Tm 24), (Tm 25), (Tm 26)])]) .ret) .skip)) (.seq (.seq (.ops [Mv 28 3, Op 29 (.int2 .eql .i64 (Tm 28) (Kn 0))]) (.cond (Tm 29) (.seq (.ops [Mv 30 0, Mv 31 1, Mv 32 2, Oi 33 (.call 127 [(Tm 30), (Tm 31), (Tm 32)])]) .ret) .skip)) (.seq (.seq (.ops [Mv 34 8, Op 35 (.un .not (Tm 34))]) (.cond (Tm 35) (.seq (.ops [Mv 36 0, Mv 37 1, Mv 38 2, Oi 39 (.call 128 [(Tm 36), (Tm 37), (Tm 38)])]) (.ops [Mv 40 3, Op 41 (.int2 .sub .i64 (Tm 40) (Kn 1)), Mv 3 41])) .skip)) (.seq (.ops [Mv 43 0, Mv 44 1, Mv 45 2, Oi 46 (.call 129 [(Tm 43), (Tm 44), (Tm 45)]), Mv 42 46, Oi 47 (.ext (Tm 42) 0), Oi 48 (.ext (Tm 42) 1), Mv 11 47, Mv 12 48]) (.seq (.seq (.ops [Mv 49 12, Op 50 (.int2 .eql .i64 (Tm 49) (Kn 2))]) (.cond (Tm 50) (.seq (.ops [Mv 51 0, Mv 52 1, Mv 53 2, Oi 54 (.call 130 [(Tm 51), (Tm 52), (Tm 53)])]) (.seq (.ops [Mv 55 2, Op 56 (.int2 .sub .i64 (Tm 55) (Kn 1)), Mv 57 11, Mv 58 1, Op 59 (.int2 .sub .i64 (Tm 57) (Tm 58)), Op 60 (.int2 .sub .i64 (Tm 56) (Tm 59)), Mv 11 60]) (.ops [Oi 12 (.mv (Kn 1))]))) .skip)) (.seq (.seq (.ops [Mv 61 8, Mv 62 61, Ot 63 62 (.ins (.mv (Tm 9))), Oi 64 (.pick (Tm 62) (Tm 63) (Kb false)), Mv 65 64, Ot 66 65 (.ins (.mv (Tm 12))), Ot 67 65 (.int2 .eql .i64 (Tm 66) (Kn 1)), Oi 68 (.pick (Tm 65) (Tm 67) (Kb false))]) (.cond (Tm 68) (.seq (.ops [Mv 69 0, Mv 70 1, Mv 71 2, Oi 72 (.call 131 [(Tm 69), (Tm 70), (Tm 71)])]) (.cond (Tm 72) .ret .skip)) .skip)) (.seq (.seq (.draw #[0, 1, 3, 7, 7, 23, 63, 127, 7, 7, 775, 1799, 4095, 8191, 16383] [Mv 73 1, Op 74 (.int2 .gtr .i64 (Tm 73) (Kn 0)), Mv 75 74, Ot 76 75 (.ins (.mv (Tm 0))), Ot 77 75 (.ins (.mv (Tm 1))), Ot 78 75 (.int2 .sub .i64 (Tm 77) (Kn 1)), Ot 79 75 (.ins (.iaddrS 1 (Tm 76) (Tm 78))), Ot 80 75 (.ins (.load1 (Tm 79))), Ot 81 75 (.ins (.mv (Tm 0))), Ot 82 75 (.ins (.mv (Tm 11))), Ot 83 75 (.ins (.iaddrS 1 (Tm 81) (Tm 82))), Ot 84 75 (.ins (.load1 (Tm 83))), Ot 85 75 (.ins (.call 132 [(Tm 80), (Tm 84)])), Ot 86 75 (.un .not (Tm 85)), Oi 87 (.pick (Tm 75) (Tm 86) (Kb false))]) (.cond (Tm 87) (.seq (.ops [Mv 88 0, Mv 89 1, Mv 90 2, Mv 91 11, Oi 92 (.call 133 [(Tm 88), (Tm 89), (Tm 90), (Tm 91)]), Mv 13 92]) (.seq (.ops [Mv 93 13, Mv 1 93]) (.exit 1))) .skip)) (.seq (.ops [Mv 95 0, Mv 96 1, Mv 97 2, Mv 98 11, Oi 99 (.call 134 [(Tm 95), (Tm 96), (Tm 97), (Tm 98)]), Mv 94 99, Oi 100 (.ext (Tm 94) 0), Oi 101 (.ext (Tm 94) 1), Mv 14 100, Mv 15 101]) (.seq (.ops [Mv 102 15, Mv 9 102]) (.seq (.ops [Mv 103 14, Mv 104 1, Op 105 (.int2 .sub .i64 (Tm 103) (Tm 104)), Mv 106 2, Mv 107 14, Op 108 (.int2 .sub .i64 (Tm 106) (Tm 107)), Mv 16 105, Mv 17 108]) (.seq (.ops [Mv 109 10, Op 110 (.int2 .quo .i64 (Tm 109) (Kn 8)), Mv 18 110]) (.seq (.ops [Mv 111 16, Mv 112 17, Op 113 (.int2 .lss .i64 (Tm 111) (Tm 112))]) (.cond (Tm 113) (.seq (.ops [Mv 114 16, Mv 115 18, Op 116 (.int2 .geq .i64 (Tm 114) (Tm 115)), Mv 8 116]) (.seq (.ops [Mv 117 0, Mv 118 1, Mv 119 14, Mv 120 3, Oi 121 (.call 106 [(Tm 117), (Tm 118), (Tm 119), (Tm 120)])]) (.ops [Mv 122 14, Op 123 (.int2 .add .i64 (Tm 122) (Kn 1)), Mv 1 123]))) (.seq (.ops [Mv 124 17, Mv 125 18, Op 126 (.int2 .geq .i64 (Tm 124) (Tm 125)), Mv 8 126]) (.seq (.ops [Mv 127 0, Mv 128 14, Op 129 (.int2 .add .i64 (Tm 128) (Kn 1)), Mv 130 2, Mv 131 3, Oi 132 (.call 106 [(Tm 127), (Tm 129), (Tm 130), (Tm 131)])]) (.ops [Mv 133 14, Mv 2 133]))))))))))))))))))
theorem wdh : trC Try.prog (wud 0) = wjf := by kernel_rfl
noncomputable def wgg : RF := ⟨134, (.seq (.ops [Oi 8 (.mv (Kb true))]) (.seq (.ops [Oi 9 (.mv (Kb true))]) (.block 0 (.loop (wud 0))))), []⟩
theorem wqh : trF Try.prog 106 = some wgg := by kernel_rfl
noncomputable def whp : RF := ⟨8, (.seq (.ops [Oi 2 (.mv (Kn 0))]) (.seq (.cond (Kb false) (.seq (.ops [Mv 3 0, Op 4 (.conv .u32 (Tm 3)), Oi 5 (.call 135 [(Tm 4)]), Mv 2 5]) .ret) .skip) (.seq (.ops [Mv 6 0, Oi 7 (.call 136 [(Tm 6)]), Mv 2 7]) .ret))), [(.tmp 2)]⟩
theorem wws : trF Try.prog 107 = some whp := by kernel_rfl
noncomputable def whb (i : Nat) : Code := lp Try.prog 126 i
noncomputable def wzc : RC := (.seq (.seq (.draw #[0, 0, 3, 7, 15, 15, 63, 127, 15, 15, 527, 1807, 3855, 8191, 16383] [Mv 16 7, Mv 17 1, Op 18 (.int2 .gtr .i64 (Tm 16) (Tm 17)), Mv 19 18, Ot 20 19 (.ins (.mv (Tm 0))), Ot 21 19 (.ins (.mv (Tm 7))), Ot 22 19 (.ins (.iaddrS 1 (Tm 20) (Tm 21))), Ot 23 19 (.ins (.load1 (Tm 22))), Ot 24 19 (.ins (.mv (Tm 0))), Ot 25 19 (.ins (.mv (Tm 7))), Ot 26 19 (.int2 .sub .i64 (Tm 25) (Kn 1)), Ot 27 19 (.ins (.iaddrS 1 (Tm 24) (Tm 26))), Ot 28 19 (.ins (.load1 (Tm 27))), Ot 29 19 (.ins (.call 132 [(Tm 23), (Tm 28)])), Oi 30 (.pick (Tm 19) (Tm 29) (Kb false))]) (.cond (Tm 30) .skip (.exit 2))) (.seq (.block 3 (.draw #[0, 0, 0, 0, 8, 0, 0, 64, 224, 480, 0, 0, 3072, 7168, 16355, 32739, 65535, 131071] [Mv 33 0, Mv 34 7, Mv 35 0, Mv 36 7, Op 37 (.int2 .sub .i64 (Tm 36) (Kn 1)), Mv 38 0, Mv 39 7, Op 40 (.int2 .sub .i64 (Tm 39) (Kn 1)), Oi 41 (.iaddrS 1 (Tm 38) (Tm 40)), Oi 42 (.load1 (Tm 41)), Mv 43 0, Mv 44 7, Oi 45 (.iaddrS 1 (Tm 43) (Tm 44)), Oi 46 (.load1 (Tm 45)), Oi 47 (.iaddrS 1 (Tm 33) (Tm 34)), On (.store 1 (Tm 47) (Tm 42)), Oi 48 (.iaddrS 1 (Tm 35) (Tm 37)), On (.store 1 (Tm 48) (Tm 46))])) (.ops [Mv 31 7, Op 32 (.int2 .sub .i64 (Tm 31) (Kn 1)), Mv 7 32])))
theorem wxd : trC Try.prog (whb 1) = wzc := by kernel_rfl
noncomputable def wad : RC := (.seq (.seq (.ops [Mv 10 6, Mv 11 2, Op 12 (.int2 .lss .i64 (Tm 10) (Tm 11))]) (.cond (Tm 12) .skip (.exit 0))) (.seq (.block 1 (.seq (.ops [Mv 15 6, Mv 7 15]) (.block 2 (.loop (whb 1))))) (.ops [Mv 13 6, Op 14 (.int2 .add .i64 (Tm 13) (Kn 1)), Mv 6 14])))
theorem wyd : trC Try.prog (whb 0) = wad := by kernel_rfl
noncomputable def wye : RF := ⟨49, (.seq (.ops [Mv 8 1, Op 9 (.int2 .add .i64 (Tm 8) (Kn 1)), Mv 6 9]) (.block 0 (.loop (whb 0)))), []⟩
theorem weg : trF Try.prog 126 = some wye := by kernel_rfl
noncomputable def wpq : RF := ⟨17, (.seq (.ops [Oi 4 (.mv (Kb false))]) (.seq (.ops [Mv 5 0, Oi 6 (.call 86 [(Tm 5)]), Mv 7 6, Ot 8 7 (.ins (.mv (Tm 1))), Ot 9 7 (.ins (.call 86 [(Tm 8)])), Ot 10 7 (.un .not (Tm 9)), Oi 11 (.pick (Tm 7) (Tm 10) (Kb false)), Mv 12 11, Of 13 12 (.ins (.mv (Tm 0))), Of 14 12 (.ins (.mv (Tm 1))), Of 15 12 (.int2 .lss .i64 (Tm 13) (Tm 14)), Oi 16 (.pick (Tm 12) (Kb true) (Tm 15)), Mv 4 16]) .ret)), [(.tmp 4)]⟩
theorem wgu : trF Try.prog 132 = some wpq := by kernel_rfl
noncomputable def wwc (i : Nat) : Code := lp Try.prog 13 i
noncomputable def wqe : RC := (.seq (.seq (.ops [Mv 31 9, Mv 32 11, Op 33 (.int2 .mul .i64 (Kn 2) (Tm 32)), Op 34 (.int2 .add .i64 (Tm 31) (Tm 33)), Mv 35 5, Op 36 (.slen (Tm 35)), Op 37 (.int2 .leq .i64 (Tm 34) (Tm 36))]) (.cond (Tm 37) .skip (.exit 0))) (.seq (.block 1 (.seq (.draw #[0, 0, 0, 0, 12, 31, 0, 0, 0, 384, 0, 0, 2048, 7168, 16320, 32767] [Mv 40 5, Mv 41 9, Mv 42 9, Mv 43 11, Op 44 (.int2 .add .i64 (Tm 42) (Tm 43)), Op 45 (.ssl (Tm 40) (some (Tm 41)) (some (Tm 44))), Mv 46 5, Mv 47 9, Mv 48 11, Op 49 (.int2 .add .i64 (Tm 47) (Tm 48)), Mv 50 9, Mv 51 11, Op 52 (.int2 .mul .i64 (Kn 2) (Tm 51)), Op 53 (.int2 .add .i64 (Tm 50) (Tm 52)), Op 54 (.ssl (Tm 46) (some (Tm 49)) (some (Tm 53))), Op 55 (.str2 .eql (Tm 45) (Tm 54))]) (.cond (Tm 55) (.ops [Mv 56 10, Mv 57 9, Mv 58 11, Op 59 (.int2 .mul .i64 (Kn 2) (Tm 58)), Op 60 (.int2 .add .i64 (Tm 57) (Tm 59)), Oi 61 (.bslice 3 1 [(.int .i64 0)] [(0, (1, (Tm 60)))]), Oi 62 (.app 3 1 8 (Tm 56) (Tm 61)), Mv 10 62]) .skip))) (.ops [Mv 38 11, Op 39 (.int2 .add .i64 (Tm 38) (Kn 1)), Mv 11 39])))
theorem wue : trC Try.prog (wwc 0) = wqe := by kernel_rfl
noncomputable def wki : RC := (.seq (.ops [Op 69 (.int2 .lss .i64 (Tm 68) (Tm 67))]) (.seq (.cond (Tm 69) .skip (.exit 2)) (.seq (.block 3 (.seq (.ops [Oi 70 (.iaddrS 9 (Tm 66) (Tm 68)), Oi 71 (.loadN 9 (Tm 70)), Oi 13 (.new [(.int .i64 0), (.int .i64 0), (.int .i64 0), (.int .i64 0), (.int .i64 0), (.int .i64 0), (.int .i64 0), (.int .i64 0), (.int .i64 0)] 87), On (.store 9 (Tm 13) (Tm 71))]) (.seq (.ops [Oi 72 (.faddr 1 (Tm 13)), Oi 73 (.iaddrA 4 2 (Tm 72) (Kn 1)), Oi 74 (.loadN 2 (Tm 73)), Oi 14 (.new [(.int .i64 0), (.int .i64 0)] 51), On (.store 2 (Tm 14) (Tm 74))]) (.seq (.ops [Oi 75 (.faddr 0 (Tm 14)), Oi 76 (.load1 (Tm 75)), Mv 77 9, Op 78 (.int2 .neq .i64 (Tm 76) (Tm 77)), Mv 79 78, Of 80 79 (.ins (.faddr 0 (Tm 13))), Of 81 79 (.ins (.load1 (Tm 80))), Of 82 79 (.ins (.mv (Tm 9))), Of 83 79 (.ins (.faddr 1 (Tm 14))), Of 84 79 (.ins (.load1 (Tm 83))), Of 85 79 (.ins (.faddr 0 (Tm 14))), Of 86 79 (.ins (.load1 (Tm 85))), Of 87 79 (.int2 .sub .i64 (Tm 84) (Tm 86)), Of 88 79 (.int2 .mul .i64 (Kn 2) (Tm 87)), Of 89 79 (.int2 .add .i64 (Tm 82) (Tm 88)), Of 90 79 (.int2 .neq .i64 (Tm 81) (Tm 89)), Oi 91 (.pick (Tm 79) (Kb true) (Tm 90))]) (.cond (Tm 91) (.seq (.ops [Oi 4 (.mv (Kb false))]) .ret) .skip))))) (.ops [Op 92 (.int2 .add .i64 (Tm 68) (Kn 1)), Mv 68 92]))))
theorem wnj : trC Try.prog (wwc 1) = wki := by kernel_rfl
noncomputable def wzl : RF := ⟨117, (.seq (.ops [Oi 4 (.mv (Kb false))]) (.seq (.ops [Mv 18 0, Oi 19 (.call 26 [(Tm 18), (Kn 8)]), Mv 5 19]) (.seq (.ops [Oi 21 (.call 35 [(.const (str [92, 40, 46, 42, 92, 41, 92, 49])), (Kb false)]), Mv 20 21, Oi 22 (.ext (Tm 20) 0), Oi 23 (.ext (Tm 20) 1), Oi 24 (.ext (Tm 20) 2), Oi 6 (.new [(.int .i64 0), (.int .i64 0), (.int .i64 0), (.int .i64 0), (.int .u64 0), (.int .u64 0), (.int .u64 0), (.int .u64 0), (.slice none 0 0)] 47), On (.store 9 (Tm 6) (Tm 22)), Mv 7 23, Mv 8 24]) (.seq (.seq (.ops [Mv 25 8, Op 26 (.int2 .neq .i64 (Tm 25) (Kn 0))]) (.cond (Tm 26) (.seq (.ops [Oi 4 (.mv (Kb false))]) .ret) .skip)) (.seq (.ops [Mv 27 1, Mv 28 5, Op 29 (.slen (Tm 28)), Oi 30 (.call 15 [(Tm 27), (Kn 0), (Tm 29)]), Mv 9 30]) (.seq (.ops [Oi 10 (.mv (.const (.slice none 0 0)))]) (.seq (.seq (.ops [Oi 11 (.mv (Kn 0))]) (.block 0 (.loop (wwc 0)))) (.seq (.seq (.ops [Oi 63 (.loadN 9 (Tm 6)), Mv 64 5, Mv 65 9, Oi 66 (.call 36 [(Tm 63), (Tm 64), (Kb true), (Tm 65)]), Op 67 (.lenS (Tm 66)), Oi 68 (.mv (Kn 0))]) (.block 2 (.loop (wwc 1)))) (.seq (.ops [Oi 94 (.call 35 [(.const (str [40, 97, 124, 92, 49, 98, 41, 42, 99])), (Kb true)]), Mv 93 94, Oi 95 (.ext (Tm 93) 0), Oi 96 (.ext (Tm 93) 1), Oi 97 (.ext (Tm 93) 2), Oi 15 (.new [(.int .i64 0), (.int .i64 0), (.int .i64 0), (.int .i64 0), (.int .u64 0), (.int .u64 0), (.int .u64 0), (.int .u64 0), (.slice none 0 0)] 47), On (.store 9 (Tm 15) (Tm 95)), Mv 16 96, Mv 17 97]) (.seq (.ops [Oi 98 (.loadN 9 (Tm 6)), Mv 99 5, Mv 100 9, Oi 101 (.call 37 [(Tm 98), (Tm 99), (Kb true), (Tm 100)]), Mv 102 10, Oi 103 (.call 46 [(Tm 101), (Tm 102)]), Mv 104 103, Ot 105 104 (.ins (.mv (Tm 17))), Ot 106 104 (.int2 .eql .i64 (Tm 105) (Kn 0)), Oi 107 (.pick (Tm 104) (Tm 106) (Kb false)), Mv 108 107, Ot 109 108 (.ins (.loadN 9 (Tm 15))), Ot 110 108 (.ins (.call 36 [(Tm 109), (.const (str [98, 99])), (Kb true), (Kn 0)])), Ot 111 108 (.lenS (Tm 110)), Ot 112 108 (.int2 .eql .i64 (Tm 111) (Kn 0)), Oi 113 (.pick (Tm 108) (Tm 112) (Kb false)), Mv 114 113, Ot 115 114 (.ins (.call 45 [])), Oi 116 (.pick (Tm 114) (Tm 115) (Kb false)), Mv 4 116]) .ret)))))))))), [(.tmp 4)]⟩
theorem wwo : trF Try.prog 13 = some wzl := by kernel_rfl
noncomputable def wen : RF := ⟨25, (.seq (.ops [Oi 2 (.mv (Kn 0))]) (.seq (.seq (.ops [Mv 3 0, Op 4 (.int2 .geq .u64 (Tm 3) (.const (.int .u64 4294967296)))]) (.cond (Tm 4) (.seq (.ops [Mv 5 0, Op 6 (.shift .shr (Tm 5) (.const (.int .u64 32))), Mv 0 6]) (.ops [Oi 2 (.mv (Kn 32))])) .skip)) (.seq (.seq (.ops [Mv 7 0, Op 8 (.int2 .geq .u64 (Tm 7) (.const (.int .u64 65536)))]) (.cond (Tm 8) (.seq (.ops [Mv 9 0, Op 10 (.shift .shr (Tm 9) (.const (.int .u64 16))), Mv 0 10]) (.ops [Mv 11 2, Op 12 (.int2 .add .i64 (Tm 11) (Kn 16)), Mv 2 12])) .skip)) (.seq (.seq (.ops [Mv 13 0, Op 14 (.int2 .geq .u64 (Tm 13) (.const (.int .u64 256)))]) (.cond (Tm 14) (.seq (.ops [Mv 15 0, Op 16 (.shift .shr (Tm 15) (.const (.int .u64 8))), Mv 0 16]) (.ops [Mv 17 2, Op 18 (.int2 .add .i64 (Tm 17) (Kn 8)), Mv 2 18])) .skip)) (.seq (.ops [Mv 19 2, Mv 20 0, Op 21 (.conv .u8 (Tm 20)), Op 22 (.sidx (.const (str [0, 1, 2, 2, 3, 3, 3, 3, 4, 4, 4, 4, 4, 4, 4, 4, 5, 5, 5, 5, 5, 5, 5, 5, 5, 5, 5, 5, 5, 5, 5, 5, 6, 6, 6, 6, 6, 6, 6, 6, 6, 6, 6, 6, 6, 6, 6, 6, 6, 6, 6, 6, 6, 6, 6, 6, 6, 6, 6, 6, 6, 6, 6, 6, 7, 7, 7, 7, 7, 7, 7, 7, 7, 7, 7, 7, 7, 7, 7, 7, 7, 7, 7, 7, 7, 7, 7, 7, 7, 7, 7, 7, 7, 7, 7, 7, 7, 7, 7, 7, 7, 7, 7, 7, 7, 7, 7, 7, 7, 7, 7, 7, 7, 7, 7, 7, 7, 7, 7, 7, 7, 7, 7, 7, 7, 7, 7, 7, 8, 8, 8, 8, 8, 8, 8, 8, 8, 8, 8, 8, 8, 8, 8, 8, 8, 8, 8, 8, 8, 8, 8, 8, 8, 8, 8, 8, 8, 8, 8, 8, 8, 8, 8, 8, 8, 8, 8, 8, 8, 8, 8, 8, 8, 8, 8, 8, 8, 8, 8, 8, 8, 8, 8, 8, 8, 8, 8, 8, 8, 8, 8, 8, 8, 8, 8, 8, 8, 8, 8, 8, 8, 8, 8, 8, 8, 8, 8, 8, 8, 8, 8, 8, 8, 8, 8, 8, 8, 8, 8, 8, 8, 8, 8, 8, 8, 8, 8, 8, 8, 8, 8, 8, 8, 8, 8, 8, 8, 8, 8, 8, 8, 8, 8, 8, 8, 8, 8, 8, 8, 8, 8, 8, 8, 8, 8, 8])) (Tm 21)), Op 23 (.conv .i64 (Tm 22)), Op 24 (.int2 .add .i64 (Tm 19) (Tm 23)), Mv 2 24]) .ret))))), [(.tmp 2)]⟩
theorem wqq : trF Try.prog 136 = some wen := by kernel_rfl
end Go.Proofs.Ytgpabbbibmnnlaa
namespace Go.Den
noncomputable section
def wd (s : BitVec 256) (i : Nat) : BitVec 64 := s.extractLsb' (64 * i) 64
abbrev wdV (s : BitVec 256) (i : Nat) : Value := .int .u64 ((wd s i).toNat : Nat)
def setC (s : BitVec 256) : List Value := [wdV s 0, wdV s 1, wdV s 2, wdV s 3]
def setV (s : BitVec 256) : Value := .agg ⟨setC s⟩
theorem setC_get (s : BitVec 256) {i : Nat} (h : i < 4) : (setC s)[i]? = some (wdV s i) := by
  match i, h with
  | 0, _ => rfl
  | 1, _ => rfl
  | 2, _ => rfl
  | 3, _ => rfl
theorem wbmb (s : BitVec 256) : (setC s).length = 4 := eq_of_heq HEq.rfl
theorem wdcc (s : BitVec 256) (i j : Nat) : (wd s i).getLsbD j = (decide (j < 64) && s.getLsbD (64 * i + j)) := by
  unfold wd
  rw [BitVec.getLsbD_extractLsb']
theorem wd_ext {s t : BitVec 256} (h : ∀ i, i < 4 → wd s i = wd t i) : s = t := by
  apply BitVec.eq_of_getLsbD_eq
  intro j hj
  have h1 := wdcc s (j / 64) (j % 64)
  have h2 := wdcc t (j / 64) (j % 64)
  rw [h (j / 64) (by omega)] at h1
  rw [h1] at h2
  have e : 64 * (j / 64) + j % 64 = j := by omega
  have e2 : decide (j % 64 < 64) = true := decide_eq_true (by omega)
  rw [e, e2, Bool.true_and, Bool.true_and] at h2
  exact h2
theorem wyy (v : BitVec 64) : BitVec.ofInt (IntKind.bits .u64) ((v.toNat : Nat) : Int) = v := by
  show BitVec.ofInt 64 _ = v
  apply BitVec.eq_of_toNat_eq
  simp
theorem and_u64 (v u : BitVec 64) : IntKind.wrap .u64 ((BitVec.ofInt (IntKind.bits .u64) ((v.toNat : Nat) : Int) &&& BitVec.ofInt (IntKind.bits .u64) ((u.toNat : Nat) : Int)).toNat : Int) = ((v &&& u).toNat : Nat) := by
  rw [wyy, wyy]
  exact wrap_u64 (by omega) (by have := (v &&& u).isLt; show ((v &&& u).toNat : Int) ≤ _; omega)
theorem shr_u64 (v : BitVec 64) {b : Int} (h1 : 0 ≤ b) (h2 : b < 64) : Int.fdiv ((v.toNat : Nat) : Int) (2 ^ (min b.toNat (IntKind.bits .u64))) = ((v >>> b.toNat).toNat : Nat) := by
  have hm : min b.toNat (IntKind.bits .u64) = b.toNat := by show min b.toNat 64 = _; omega
  rw [hm, BitVec.toNat_ushiftRight, Nat.shiftRight_eq_div_pow]
  have e2 : ((2 : Int) ^ b.toNat) = ((2 ^ b.toNat : Nat) : Int) := by rw [Int.natCast_pow]; rfl
  rw [e2, Int.fdiv_eq_ediv_of_nonneg _ (Int.natCast_nonneg _), Int.natCast_ediv]
theorem bit_one (v : BitVec 64) (n : Nat) : decide ((((v >>> n) &&& 1#64).toNat : Int) = 1) = v.getLsbD n := by
  have h : ((v >>> n) &&& 1#64).toNat = if v.getLsbD n then 1 else 0 := by
    rw [BitVec.toNat_and, BitVec.toNat_ushiftRight, show (1#64).toNat = 1 from rfl, Nat.and_one_is_mod, Nat.shiftRight_eq_div_pow, BitVec.getLsbD, Nat.testBit_eq_decide_div_mod_eq]
    by_cases hq : v.toNat / 2 ^ n % 2 = 1
    · simp [hq]
    · simp [hq]; omega
  rw [h]
  cases v.getLsbD n <;> rfl
def one (x : Nat) : BitVec 256 := 1#256 <<< x
theorem has_bit (s : BitVec 256) (x : Nat) (hx : x < 256) : (wd s (x / 64)).getLsbD (x % 64) = s.getLsbD x := by
  rw [wdcc, decide_eq_true (by omega), Bool.true_and]
  congr 1
  omega
theorem wzy (s : BitVec 256) : wkh [.int .u64, .int .u64, .int .u64, .int .u64] (setC s) = true := rfl
theorem eqL_setC (s t : BitVec 256) : eqL (setC s) (setC t) = decide (s = t) := by
  have h : eqL (setC s) (setC t) = true ↔ s = t := by
    constructor
    · intro h
      simp only [eqL, setC, wky, Bool.and_eq_true, beq_iff_eq, Bool.and_true] at h
      apply wd_ext
      intro i hi
      apply BitVec.eq_of_toNat_eq
      rcases (show i = 0 ∨ i = 1 ∨ i = 2 ∨ i = 3 by omega) with rfl | rfl | rfl | rfl <;> omega
    · rintro rfl
      simp [eqL, setC, wky]
  by_cases hq : s = t
  · rw [decide_eq_true hq]; exact h.2 hq
  · rw [decide_eq_false hq]
    cases he : eqL (setC s) (setC t) with
    | false => rfl
    | true => exact absurd (h.1 he) hq
theorem SlA.ints {P : Program} {h : List ABlk} {i : Nat} {v : Value} {vs : List Value} {elem : TypeId} {frz : Nat} {a a' : List Value} {fr : Frs} (hb : h[i]? = some (X (v :: vs) elem frz true)) (hs : tsz P elem = 1) (hr : wkb (v :: vs) = true) (t : SlA P h a a' fr) :
    SlA P h (.slice (some ⟨i, 0, none⟩) (vs.length + 1) (vs.length + 1 + 1) :: a) (FL (vs.length + 1) (v :: vs) :: a') ((i, (vs.length + 1) * 1) :: fr) := by
  have h1 := SlA.row (P := P) (h := h) (i := i) (n := vs.length) (c := vs.length + 1) hb hs (by omega) (Nat.le_refl _) (by simp) (by rw [wmq (by simp)]; exact hr) t
  rw [wmq (by simp)] at h1
  exact h1
theorem wecc (a b : BitVec 256) : eqcV true [.int .u64, .int .u64, .int .u64, .int .u64] (setV a) (setV b) = val (.bool (decide (a ≠ b))) := by
  rw [setV, setV, neq_agg (wzy a) (wzy b), eqL_setC, decide_not]
end
end Go.Den
namespace Go.Den
noncomputable section
def RowSt (elem size : Nat) (l : List ABlk) (v : Value) (n : Nat) (cs : List Value) : Prop :=
  (v = .slice none 0 0 ∧ n = 0 ∧ cs = []) ∨ ∃ t, v = FO t n cs ∧ l[t]? = some (.tok n elem size) ∧ cs.length = n * size ∧ 0 < n
theorem RowSt.sl {elem size n : Nat} {l : List ABlk} {v : Value} {cs : List Value} (h : RowSt elem size l v n cs) : Sl 0 v (FL n cs) := by
  rcases h with ⟨rfl, rfl, rfl⟩ | ⟨t, rfl, _, _, _⟩
  · exact Sl.nilS
  · exact Sl.fo t _ cs
theorem RowSt.jk {elem size n : Nat} {l : List ABlk} {v : Value} {cs : List Value} (h : RowSt elem size l v n cs) : isJK v = false := by
  rcases h with ⟨rfl, _⟩ | ⟨t, rfl, _⟩
  · rfl
  · exact wblb
end
end Go.Den
namespace Go.Den
noncomputable section
theorem over_all {l m : List Value} (h : m.length = l.length) : wh l 0 m = m := by
  have key : ∀ (m l : List Value) (a : List Value), m.length = l.length → wh (a ++ l) a.length m = a ++ m := by
    intro m
    induction m with
    | nil => intro l a h; have := List.eq_nil_of_length_eq_zero h.symm; subst this; rfl
    | cons v r ih =>
      intro l a h
      cases l with
      | nil => simp at h
      | cons w l =>
        simp only [List.length_cons, Nat.add_right_cancel_iff] at h
        show wh ((a ++ w :: l).set a.length v) (a.length + 1) r = _
        have e : (a ++ w :: l).set a.length v = (a ++ [v]) ++ l := by simp
        rw [e, show a.length + 1 = (a ++ [v]).length by simp, ih l (a ++ [v]) h]
        simp
  exact key m l [] h
theorem wuhb {a : Value} {l m : List Value} {k : Nat} : wh (a :: l) (k + 1) m = a :: wh l k m := by
  induction m generalizing l k with
  | nil => rfl
  | cons v r ih => show wh ((a :: l).set (k + 1) v) (k + 1 + 1) r = _; rw [List.set_cons_succ, ih]; rfl
theorem wntb {a : Value} {l m : List Value} {k : Nat} : wh (a :: l) (1 + k) m = a :: wh l k m := by rw [Nat.add_comm]; exact wuhb
theorem wotb {a : Value} {l : List Value} {k n : Nat} : slotsOf (a :: l) (k + 1) n = slotsOf l k n := rfl
theorem wcmb {a : Value} {l : List Value} {k n : Nat} : slotsOf (a :: l) (1 + k) n = slotsOf l k n := by rw [Nat.add_comm]; rfl
theorem slots_0 {a : Value} {l : List Value} {n : Nat} : slotsOf (a :: l) 0 (n + 1) = a :: slotsOf l 0 n := rfl
theorem slots_00 {l : List Value} {k : Nat} : slotsOf l k 0 = [] := by simp [slotsOf]
theorem wbeb {α : Type} {enc : α → List Value} {k : Nat} (hk : ∀ a, (enc a).length = k) (l : List α) : (l.flatMap enc).length = l.length * k := by
  induction l with
  | nil => simp
  | cons a l ih => rw [List.flatMap_cons, List.length_append, hk, ih, List.length_cons, Nat.add_mul]; omega
theorem waz {α : Type} {enc : α → List Value} {k : Nat} (hk : ∀ a, (enc a).length = k) (d : α) : ∀ (l : List α) (i : Nat), i < l.length → slotsOf (l.flatMap enc) (i * k) k = enc (l.getD i d) := by
  intro l
  induction l with
  | nil => intro i h; cases h
  | cons a l ih =>
    intro i h
    cases i with
    | zero =>
      rw [List.flatMap_cons, Nat.zero_mul]
      show ((enc a ++ l.flatMap enc).drop 0).take k = enc a
      rw [List.drop_zero, List.take_append_of_le_length (by rw [hk]; exact Nat.le_refl _), List.take_of_length_le (by rw [hk]; exact Nat.le_refl _)]
    | succ i =>
      have := ih i (by simpa using h)
      rw [show (a :: l).getD (i + 1) d = l.getD i d by simp, ← this, List.flatMap_cons]
      show ((enc a ++ l.flatMap enc).drop ((i + 1) * k)).take k = _
      rw [show (i + 1) * k = (enc a).length + i * k by rw [hk, Nat.add_mul]; omega, List.drop_append, List.drop_of_length_le (by omega), List.nil_append]
      congr 2
      omega
theorem wbz {α : Type} {enc : α → List Value} (hk : ∀ a, wlh (enc a) = true) (l : List α) : wlh (l.flatMap enc) = true := by
  induction l with
  | nil => rfl
  | cons a l ih => rw [List.flatMap_cons, wghb, hk, ih]; rfl
abbrev Mt := { l : List Int // l.length = 8 }
def mtC (m : Mt) : List Value := m.1.map (Value.int .i64)
def Mt.at (m : Mt) (i : Nat) : Int := m.1.getD i 0
def Mt.put (m : Mt) (i : Nat) (a : Int) : Mt := ⟨m.1.set i a, by rw [List.length_set]; exact m.2⟩
theorem wnbb {m : Mt} : (mtC m).length = 8 := by rw [mtC, List.length_map, m.2]
theorem wfcc {m : Mt} {i : Nat} (h : i < 8) : (mtC m)[i]? = some (.int .i64 (m.at i)) := by
  rw [mtC, List.getElem?_map, Mt.at, List.getD_eq_getElem?_getD, List.getElem?_eq_getElem (by rw [m.2]; exact h)]
  rfl
theorem mt_set {m : Mt} {i : Nat} {a : Int} : (mtC m).set i (.int .i64 a) = mtC (m.put i a) := by
  rw [mtC, mtC, Mt.put, List.map_set]
theorem wdmb {m : Mt} : wlh (mtC m) = true := by
  rw [wgzb]
  intro v hv
  simp only [mtC, List.mem_map] at hv
  obtain ⟨x, _, rfl⟩ := hv
  rfl
theorem wvhb {m : Mt} {i : Nat} (h : i + 2 ≤ 8) : slotsOf (mtC m) i 2 = [.int .i64 (m.at i), .int .i64 (m.at (i + 1))] := by
  apply List.ext_getElem?
  intro j
  rw [slotsOf, List.getElem?_take]
  split
  · rw [List.getElem?_drop]
    rcases (show j = 0 ∨ j = 1 by omega) with rfl | rfl
    · rw [wfcc (by omega)]; rfl
    · rw [wfcc (by omega)]; rfl
  · match j with
    | 0 => omega
    | 1 => omega
    | j + 2 => rfl
theorem wgcc {m : Mt} : slotsOf (mtC m) 0 8 = mtC m := wmq wnbb
theorem wptb (l : List Int) : wgn (l.map (Value.int .i64)) = true := by
  induction l with
  | nil => rfl
  | cons a l ih => rw [List.map_cons, wjr, ih]; rfl
theorem mt_flat {m : Mt} : wgn (mtC m) = true := wptb _
theorem mt_fz (m : Mt) : FzL (mtC m) := fzl wdmb
theorem ints_eq : ∀ (a b : List Int), a.length = b.length → (eqL (a.map (Value.int .i64)) (b.map (Value.int .i64)) = true ↔ a = b) := by
  intro a
  induction a with
  | nil => intro b h; cases b with | nil => simp [eqL] | cons x b => cases h
  | cons x a ih =>
    intro b h
    cases b with
    | nil => cases h
    | cons y b =>
      simp only [List.length_cons, Nat.add_right_cancel_iff] at h
      simp only [List.map_cons, eqL, wky, Bool.and_eq_true, beq_iff_eq, ih b h, List.cons.injEq]
theorem whcc : ∀ (a : List Int), wkh (List.replicate a.length (AK.int .i64)) (a.map (Value.int .i64)) = true := by
  intro a
  induction a with
  | nil => rfl
  | cons x a ih => simp only [List.length_cons, List.replicate_succ, List.map_cons, wkh, ih]; rfl
theorem wicc {m : Mt} : wkh [.int .i64, .int .i64, .int .i64, .int .i64, .int .i64, .int .i64, .int .i64, .int .i64] (mtC m) = true := by
  have := whcc m.1
  rw [m.2] at this
  exact this
theorem mt_eqL {m n : Mt} : eqL (mtC m) (mtC n) = decide (m = n) := by
  have h := ints_eq m.1 n.1 (by rw [m.2, n.2])
  by_cases hq : m = n
  · rw [decide_eq_true hq]; exact h.2 (by rw [hq])
  · rw [decide_eq_false hq]
    cases he : eqL (mtC m) (mtC n) with
    | false => rfl
    | true => exact absurd (Subtype.ext (h.1 he)) hq
abbrev St := Int × Mt
def Mt.zero : Mt := ⟨[0, 0, 0, 0, 0, 0, 0, 0], rfl⟩
def St.zero : St := (0, Mt.zero)
def stC (s : St) : List Value := .int .i64 s.1 :: mtC s.2
theorem wwhb {s : St} : (stC s).length = 9 := by rw [stC, List.length_cons, wnbb]
theorem wemb {s : St} : wlh (stC s) = true := by rw [stC, wiv, wdmb]; rfl
theorem st_fz (s : St) : FzL (stC s) := fzl wemb
theorem wjcc {s : St} : wgn (stC s) = true := by rw [stC, wjr, mt_flat]; rfl
theorem st_get0 {s : St} : (stC s)[0]? = some (.int .i64 s.1) := rfl
theorem wkcc {s : St} : slotsOf (stC s) 1 8 = mtC s.2 := wgcc
theorem wxhb {s : St} {k n : Nat} : slotsOf (stC s) (1 + k) n = slotsOf (mtC s.2) k n := wcmb
theorem st_set0 {s : St} {a : Int} : (stC s).set 0 (.int .i64 a) = stC (a, s.2) := rfl
theorem st_over1 {s : St} {k : Nat} {m : List Value} : wh (stC s) (1 + k) m = .int .i64 s.1 :: wh (mtC s.2) k m := wntb
theorem st_fold {a : Int} {m : Mt} : (Value.int .i64 a :: mtC m) = stC (a, m) := rfl
theorem wfmb {s : St} : wkh [.int .i64, .int .i64, .int .i64, .int .i64, .int .i64, .int .i64, .int .i64, .int .i64, .int .i64] (stC s) = true := by
  rw [stC]; show (true && wkh _ (mtC s.2)) = true; rw [wicc]; rfl
theorem st_eqL {s t : St} : eqL (stC s) (stC t) = decide (s = t) := by
  obtain ⟨a, m⟩ := s
  obtain ⟨b, n⟩ := t
  show ((a == b) && eqL (mtC m) (mtC n)) = _
  rw [mt_eqL]
  by_cases h1 : a = b <;> by_cases h2 : m = n <;> simp [h1, h2]
def stsC (l : List St) : List Value := l.flatMap stC
theorem wlcc {l : List St} : (stsC l).length = l.length * 9 := wbeb (fun _ => wwhb) l
theorem wkr {l : List St} {i : Nat} (h : i < l.length) : slotsOf (stsC l) (i * 9) 9 = stC (l.getD i St.zero) := waz (fun _ => wwhb) St.zero l i h
theorem sts_atom {l : List St} : wlh (stsC l) = true := wbz (fun _ => wemb) l
theorem wxv (l : List St) : FzL (stsC l) := fzl sts_atom
theorem wceb : stsC [] = [] := rfl
theorem wlob {l : List St} {s : St} : stsC (l ++ [s]) = stsC l ++ stC s := by rw [stsC, stsC, List.flatMap_append]; simp
theorem wii {s : St} : stsC [s] = stC s := by rw [stsC]; simp
theorem sts_one {s : St} : stC s = stsC [s] := by rw [stsC]; simp
def mtsC (l : List Mt) : List Value := l.flatMap mtC
theorem wmcc {l : List Mt} : (mtsC l).length = l.length * 8 := wbeb (fun _ => wnbb) l
theorem mts_slot {l : List Mt} {i : Nat} (h : i < l.length) : slotsOf (mtsC l) (i * 8) 8 = mtC (l.getD i Mt.zero) := waz (fun _ => wnbb) _ l i h
theorem mts_atom {l : List Mt} : wlh (mtsC l) = true := wbz (fun _ => wdmb) l
theorem mts_fz (l : List Mt) : FzL (mtsC l) := fzl mts_atom
theorem ints_bq : ∀ (l : List Int), beqL (l.map (Value.int .i64)) (l.map (Value.int .i64)) = true := by
  intro l
  induction l with
  | nil => rfl
  | cons a l ih => rw [List.map_cons, wrj, weu, ih]; rfl
theorem mt_bq {m : Mt} : beqL (mtC m) (mtC m) = true := ints_bq _
theorem st_bq {s : St} : beqL (stC s) (stC s) = true := by rw [stC, wrj, weu, mt_bq]; rfl
theorem sts_bq {l : List St} : beqL (stsC l) (stsC l) = true := wydb (fun _ => st_bq) l
theorem mts_bq {l : List Mt} : beqL (mtsC l) (mtsC l) = true := wydb (fun _ => mt_bq) l
theorem set_bq {s : BitVec 256} : beqL (setC s) (setC s) = true := by rw [setC, wrj, wrj, wrj, wrj, weu, weu, weu, weu, wry]; rfl
inductive Rx where
  | mk (kind min max n : Int) (set : BitVec 256) (kids : List Rx)
def Rx.kind : Rx → Int | .mk k _ _ _ _ _ => k
def Rx.mn : Rx → Int | .mk _ k _ _ _ _ => k
def Rx.mx : Rx → Int | .mk _ _ k _ _ _ => k
def Rx.n : Rx → Int | .mk _ _ _ k _ _ => k
def Rx.set : Rx → BitVec 256 | .mk _ _ _ _ s _ => s
def Rx.kids : Rx → List Rx | .mk _ _ _ _ _ l => l
def Rx.zero : Rx := .mk 0 0 0 0 0#256 []
theorem rx_kind {k a b c s l} : Rx.kind (.mk k a b c s l) = k := rfl
theorem rx_mn {k a b c s l} : Rx.mn (.mk k a b c s l) = a := rfl
theorem rx_mx {k a b c s l} : Rx.mx (.mk k a b c s l) = b := rfl
theorem rx_n {k a b c s l} : Rx.n (.mk k a b c s l) = c := rfl
theorem rx_set {k a b c s l} : Rx.set (.mk k a b c s l) = s := rfl
theorem wncc {k a b c s l} : Rx.kids (.mk k a b c s l) = l := rfl
mutual
def rxC : Rx → List Value
  | .mk k a b c s l => [.int .i64 k, .int .i64 a, .int .i64 b, .int .i64 c, wdV s 0, wdV s 1, wdV s 2, wdV s 3, FL l.length (rxsC l)]
def rxsC : List Rx → List Value
  | [] => []
  | r :: l => rxC r ++ rxsC l
end
theorem wcz {r : Rx} : rxC r = [.int .i64 r.kind, .int .i64 r.mn, .int .i64 r.mx, .int .i64 r.n, wdV r.set 0, wdV r.set 1, wdV r.set 2, wdV r.set 3, FL r.kids.length (rxsC r.kids)] := by
  cases r; rw [rxC]; rfl
theorem wsw (l : List Rx) : rxsC l = l.flatMap rxC := by
  induction l with
  | nil => rw [rxsC]; rfl
  | cons r l ih => rw [rxsC, ih, List.flatMap_cons]
theorem wmob {r : Rx} : (rxC r).length = 9 := by rw [wcz]; rfl
theorem wocc {r : Rx} : wlh (rxC r) = true := by rw [wcz]; rfl
theorem wgw (r : Rx) : FzL (rxC r) := fzl wocc
theorem rx_get0 {r : Rx} : (rxC r)[0]? = some (.int .i64 r.kind) := by rw [wcz]; rfl
theorem rx_get1 {r : Rx} : (rxC r)[1]? = some (.int .i64 r.mn) := by rw [wcz]; rfl
theorem rx_get2 {r : Rx} : (rxC r)[2]? = some (.int .i64 r.mx) := by rw [wcz]; rfl
theorem rx_get3 {r : Rx} : (rxC r)[3]? = some (.int .i64 r.n) := by rw [wcz]; rfl
theorem rx_get8 {r : Rx} : (rxC r)[8]? = some (FL r.kids.length (rxsC r.kids)) := by rw [wcz]; rfl
theorem wpcc {r : Rx} : slotsOf (rxC r) 4 4 = setC r.set := by rw [wcz]; rfl
theorem wdeb {l : List Rx} : (rxsC l).length = l.length * 9 := by rw [wsw]; exact wbeb (fun _ => wmob) l
theorem whu {l : List Rx} {i : Nat} (h : i < l.length) : slotsOf (rxsC l) (i * 9) 9 = rxC (l.getD i Rx.zero) := by rw [wsw]; exact waz (fun _ => wmob) _ l i h
theorem rxs_atom {l : List Rx} : wlh (rxsC l) = true := by rw [wsw]; exact wbz (fun _ => wocc) l
theorem rx_bq : ∀ (r : Rx), beqL (rxC r) (rxC r) = true := by
  refine Rx.rec (motive_1 := fun r => beqL (rxC r) (rxC r) = true) (motive_2 := fun l => beqL (rxsC l) (rxsC l) = true) ?_ ?_ ?_
  · intro k a b c s l ih
    rw [wcz]
    rw [wncc]
    simp only [wrj, weu, bq_FL, ih, wry, Bool.and_self]
  · rw [rxsC]; rfl
  · intro r l h1 h2
    rw [rxsC]
    exact wjbb h1 h2
theorem rxs_bq {l : List Rx} : beqL (rxsC l) (rxsC l) = true := by rw [wsw]; exact wydb rx_bq l
theorem rxs_fz (l : List Rx) : FzL (rxsC l) := fzl rxs_atom
theorem set_atom {s : BitVec 256} : wlh (setC s) = true := rfl
theorem wqcc (s : BitVec 256) : FzL (setC s) := fzl set_atom
theorem set_flat {s : BitVec 256} : wgn (setC s) = true := rfl
end
end Go.Den
namespace Go.Den
noncomputable section
variable {P : Program} {cfg : Cfg}
theorem wrcc {α : Type} (body : α → PUnit → Sem (ForInStep PUnit)) : ∀ (l : List α), (∀ f ∈ l, wu P (body f ⟨⟩) = some (.yield ⟨⟩)) → wu P (forIn l (⟨⟩ : PUnit) body) = some ⟨⟩ := by
  intro l
  induction l with
  | nil => intro _; rfl
  | cons a l ih =>
    intro h
    rw [List.forIn_cons, wib, h a (by simp), Option.bind_some]
    exact ih fun f hf => h f (List.mem_cons_of_mem _ hf)
theorem wyhb {b : Bool} {d m : Nat} (ih : ∀ (t : TypeId) (ks : List AK), wjj P d t = some ks → ∀ (xs : List Value) (x : Value), Rep P t xs x → wkh ks xs = true → wu P (Instr.checkKey b m t x) = some ⟨⟩) :
    ∀ (fs : List Field) (off : Nat) (ks : List AK), wfv (wjj P d) fs off = some ks → ∀ (xs : List Value), wkh ks (xs.drop off) = true → off ≤ xs.length →
    wu P (forIn fs (⟨⟩ : PUnit) fun f _ => (if f.name ≠ "_" then (do
      let a ← part f.type ⟨xs⟩ f.offset
      Instr.checkKey b m f.type a
      pure (ForInStep.yield ⟨⟩)) else pure (ForInStep.yield ⟨⟩) : Sem (ForInStep PUnit))) = some ⟨⟩ := by
  intro fs
  induction fs with
  | nil => intro off ks h xs fx _; rfl
  | cons f fs ih2 =>
    intro off ks h xs fx hx
    unfold wfv at h
    split at h
    · rename_i hf
      obtain ⟨hname, hoff⟩ := hf
      split at h
      · rename_i k1 hk1
        split at h
        · rename_i k2 hk2
          cases h
          obtain ⟨fx1, fx2⟩ := wdn fx
          have lx := wek fx
          rw [List.length_append, List.length_drop] at lx
          obtain ⟨va, ha, ra⟩ := wer hk1 (xs := xs) (off := off) (by omega)
          have he := ih _ _ hk1 _ _ ra fx1
          have hstep : wu P (if f.name ≠ "_" then (do
              let a ← part f.type ⟨xs⟩ f.offset
              Instr.checkKey b m f.type a
              pure (ForInStep.yield ⟨⟩)) else pure (ForInStep.yield ⟨⟩) : Sem (ForInStep PUnit)) = some (.yield ⟨⟩) := by
            rw [if_pos hname, hoff, wib, ha, Option.bind_some, wib, he, Option.bind_some]
            rfl
          rw [List.forIn_cons, wib, hstep, Option.bind_some]
          rw [List.drop_drop] at fx2
          exact ih2 (off + k1.length) k2 hk2 xs fx2 (by omega)
        · cases h
      · cases h
    · cases h
theorem check_ok {b : Bool} : ∀ (d : Nat) (t : TypeId) (ks : List AK), wjj P d t = some ks → ∀ (m : Nat), d ≤ m → ∀ (xs : List Value) (x : Value), Rep P t xs x → wkh ks xs = true → wu P (Instr.checkKey b m t x) = some ⟨⟩ := by
  intro d
  induction d with
  | zero => intro t ks h; cases h
  | succ d ih =>
    intro t ks h m hm xs x hx fx
    obtain ⟨m, rfl⟩ : ∃ m', m = m' + 1 := ⟨m - 1, by omega⟩
    have hcopy := h
    unfold wjj at h
    split at h
    · rename_i k hu
      cases h
      obtain ⟨rfl, _⟩ := wfr hcopy hx hx hu rfl
      simp only [wkh, Bool.and_true] at fx
      obtain ⟨a, rfl⟩ := fits_int fx
      show wu P ((underlying t).bind fun u => _) = _
      rw [wgi t hu]
      rfl
    · rename_i hu
      cases h
      obtain ⟨rfl, _⟩ := wfr hcopy hx hx hu rfl
      simp only [wkh, Bool.and_true] at fx
      obtain ⟨a, rfl⟩ := wbu fx
      show wu P ((underlying t).bind fun u => _) = _
      rw [wgi t hu]
      rfl
    · rename_i hu
      cases h
      obtain ⟨rfl, _⟩ := wfr hcopy hx hx hu rfl
      simp only [wkh, Bool.and_true] at fx
      obtain ⟨a, rfl⟩ := fits_bool fx
      show wu P ((underlying t).bind fun u => _) = _
      rw [wgi t hu]
      rfl
    · rename_i fields hu
      split at h
      · cases h
      · split at h
        · rename_i ks' hf
          split at h
          · cases h
            obtain ⟨rfl, _⟩ := wpdb hx hx hu rfl
            have hl := wyhb (b := b) (m := m) (fun t ks h xs x => ih t ks h m (by omega) xs x) fields.toList 0 ks hf xs (by simpa using fx) (by omega)
            show wu P ((underlying t).bind fun u => _) = _
            rw [wgi t hu]
            simp only [wib, ← Array.forIn_toList]
            first
              | exact hl
              | (rw [hl]; rfl)
          · cases h
        · cases h
    · rename_i len elem hu
      split at h
      · rename_i k1 hk1
        split at h
        · rename_i hs
          cases h
          simp only [Bool.and_eq_true] at hs
          obtain ⟨i, hi, hsz⟩ := wqs hs.1
          obtain ⟨rfl, _⟩ := wpdb hx hx hu rfl
          have lx := wek fx
          rw [wyr] at lx
          show wu P ((underlying t).bind fun u => _) = _
          rw [wgi t hu]
          simp only [wib, Std.Legacy.Range.forIn_eq_forIn_range', Std.Legacy.Range.size, Nat.sub_zero, Nat.add_one_sub_one, Nat.div_one]
          have hl : wu P (forIn (List.range' 0 len) (⟨⟩ : PUnit) fun j _ => (do
              let n ← sizeOf elem
              let a ← part elem ⟨xs⟩ (j * n)
              Instr.checkKey b m elem a
              pure (ForInStep.yield ⟨⟩) : Sem (ForInStep PUnit))) = some ⟨⟩ := by
            apply wrcc
            intro j hj
            rw [List.mem_range'_1] at hj
            have hb : j * k1.length + k1.length ≤ len * k1.length := by
              have : (j + 1) * k1.length ≤ len * k1.length := Nat.mul_le_mul_right _ (by omega)
              rw [Nat.succ_mul] at this
              exact this
            obtain ⟨va, ha, ra⟩ := wer hk1 (xs := xs) (off := j * k1.length) (by omega)
            have he := ih _ _ hk1 m (by omega) _ _ ra (wmy len fx j (by omega))
            rw [wib, wly hi, Option.bind_some, hsz, wib, ha, Option.bind_some, wib, he, Option.bind_some]
            rfl
          first
            | exact hl
            | (rw [hl]; rfl)
        · cases h
      · cases h
    · cases h
def wgmb (P : Program) (t : TypeId) : Bool := match tyU P t with | some (.struct _) => true | _ => false
theorem wyv {t : TypeId} (h : wgmb P t = true) : ∃ fs, tyU P t = some (.struct fs) := by
  unfold wgmb at h
  split at h
  · exact ⟨_, by assumption⟩
  · cases h
structure KeyT (P : Program) (kt : TypeId) {α : Type} [DecidableEq α] (enc : α → List Value) : Prop where
  ht : wgmb P kt = true
  fits : ∃ K, wjj P 12 kt = some K ∧ ∀ a, wkh K (enc a) = true
  eq : ∀ a b, eqL (enc a) (enc b) = decide (a = b)
  flat : ∀ a, wgn (enc a) = true
section
variable {α : Type} [DecidableEq α] {enc : α → List Value} {kt : TypeId}
def mapK (enc : α → List Value) (m : List (α × Value)) : List (Value × Value) := m.map fun p => (.agg ⟨enc p.1⟩, p.2)
def wfn (a : α) : List (α × Value) → Nat → Option (Nat × Value)
  | [], _ => none
  | p :: r, i => if a = p.1 then some (i, p.2) else wfn a r (i + 1)
def getK (m : List (α × Value)) (a : α) : Option Value := (wfn a m 0).map (·.2)
theorem asking_K (k : KeyT P kt enc) (a : α) : ∀ (m : List (α × Value)) (i : Nat), wu P (Instr.findAsking kt (.agg ⟨enc a⟩) (entriesOf (mapK enc m)) i) = some (wfn a m i) := by
  obtain ⟨fs, hu⟩ := wyv k.ht
  obtain ⟨K, hK, hf⟩ := k.fits
  have rep : ∀ b : α, Rep P kt (enc b) (.agg ⟨enc b⟩) := fun b => ⟨_, hu, .inl ⟨rfl, rfl⟩⟩
  intro m
  induction m with
  | nil => intro i; rfl
  | cons p r ih =>
    intro i
    have he : wu P (Op.equal kt (.agg ⟨enc a⟩) (.agg ⟨enc p.1⟩)) = some (decide (a = p.1)) := by
      rw [← k.eq]
      exact wvnb 12 kt K hK _ (by decide) _ _ _ _ (rep a) (rep p.1) (hf a) (hf p.1)
    show wu P ((Op.equal kt (.agg ⟨enc a⟩) (.agg ⟨enc p.1⟩)).bind fun q => if q = true then Sem.pure (some (i, p.2)) else Instr.findAsking kt (.agg ⟨enc a⟩) (entriesOf (mapK enc r)) (i + 1)) = _
    rw [wlb, he, Option.bind_some]
    by_cases hq : a = p.1
    · simp only [wfn, hq, decide_true, if_true]; rfl
    · simp only [wfn, hq, decide_false, Bool.false_eq_true, if_false]; exact ih (i + 1)
theorem wscc (k : KeyT P kt enc) (b : Bool) (a : α) (m : List (α × Value)) : wbx P b kt (.agg ⟨enc a⟩) (mapK enc m) = some (wfn a m 0) := by
  obtain ⟨fs, hu⟩ := wyv k.ht
  obtain ⟨K, hK, hf⟩ := k.fits
  unfold wbx
  rw [wib, check_ok 12 kt K hK 10000 (by omega) (enc a) (.agg ⟨enc a⟩) ⟨_, hu, .inl ⟨rfl, rfl⟩⟩ (hf a), Option.bind_some]
  show wu P ((underlying kt).bind fun d => _) = _
  rw [wgi kt hu]
  cases m with
  | nil => rfl
  | cons p r =>
    show wu P (Instr.findAsking kt (.agg ⟨enc a⟩) (entriesOf (mapK enc (p :: r))) 0) = _
    exact asking_K k a (p :: r) 0
theorem lookX_K (k : KeyT P kt enc) {zero : Value} {ok : Bool} {a : α} {m : List (α × Value)} : lookX P kt zero ok (.agg ⟨enc a⟩) (some (.map (mapK enc m))) = val (okV ok zero (getK m a)) := by
  show (bif flat (.agg ⟨enc a⟩) then wpu ok zero (wbx P (mapK enc m).isEmpty kt (.agg ⟨enc a⟩) (mapK enc m)) else .none) = _
  rw [show flat (.agg ⟨enc a⟩) = true from k.flat a, cond_true, wscc k]
  unfold getK
  cases wfn a m 0 <;> rfl
def putK (a : α) (v : Value) : List (α × Value) → List (α × Value)
  | [] => [(a, v)]
  | p :: r => if a = p.1 then (a, v) :: r else p :: putK a v r
theorem whmb {a : α} {v : Value} : ∀ {m : List (α × Value)} {i j : Nat}, wfn a m i = some (j, v) → ∃ h : j - i < m.length, i ≤ j ∧ (m[j - i]).1 = a ∧ ∀ w, putK a w m = m.set (j - i) (a, w) := by
  intro m
  induction m with
  | nil => intro i j h; cases h
  | cons p r ih =>
    intro i j h
    simp only [wfn] at h
    by_cases hq : a = p.1
    · rw [if_pos hq] at h
      cases h
      refine ⟨by simp, Nat.le_refl _, ?_, fun w => ?_⟩
      · simp [hq]
      · simp [putK, hq]
    · rw [if_neg hq] at h
      obtain ⟨h1, h2, h3, h4⟩ := ih h
      have e : j - i = (j - (i + 1)) + 1 := by omega
      refine ⟨by simp only [List.length_cons]; omega, by omega, ?_, fun w => ?_⟩
      · simp only [e, List.getElem_cons_succ]; exact h3
      · rw [e, List.set_cons_succ, ← h4 w]; simp [putK, hq]
theorem wimb {a : α} : ∀ {m : List (α × Value)} {i : Nat}, wfn a m i = none → ∀ w, putK a w m = m ++ [(a, w)] := by
  intro m
  induction m with
  | nil => intro i _ w; rfl
  | cons p r ih =>
    intro i h w
    simp only [wfn] at h
    by_cases hq : a = p.1
    · rw [if_pos hq] at h; cases h
    · rw [if_neg hq] at h
      simp only [putK, if_neg hq, ih h w, List.cons_append]
theorem wtcc {K : List AK} : ∀ {l : List Value}, wkh K l = true → ∀ n, (l.zip l).all (fun (x, y) => Instr.sameBits n x y) = true := by
  induction K with
  | nil => intro l h n; cases l with | nil => rfl | cons v r => cases h
  | cons k K ih =>
    intro l h n
    cases l with
    | nil => rfl
    | cons v r =>
      simp only [wkh, Bool.and_eq_true] at h
      simp only [List.zip_cons_cons, List.all_cons, Bool.and_eq_true]
      refine ⟨?_, ih h.2 n⟩
      cases k with
      | int j => obtain ⟨x, rfl⟩ := fits_int h.1; simp [Instr.sameBits]
      | str => obtain ⟨⟨⟨x⟩⟩, rfl⟩ := wbu h.1; simp only [Instr.sameBits]; rw [ba_beq]; simp
      | bool => obtain ⟨x, rfl⟩ := fits_bool h.1; simp [Instr.sameBits]
theorem updX_K (k : KeyT P kt enc) {h : List ABlk} {r : Nat} {a : α} {x : Value} {m : List (α × Value)} (hr : r < h.length) : updX P h r kt (.agg ⟨enc a⟩) x (some (.map (mapK enc m))) = .eff undef (HP (h.set r (.map (mapK enc (putK a x m))))) := by
  show (bif flat (.agg ⟨enc a⟩) && Nat.blt r h.length then wiab (HP h) r (mapK enc m) (.agg ⟨enc a⟩) x (wbx P false kt (.agg ⟨enc a⟩) (mapK enc m)) else .none) = _
  rw [show flat (.agg ⟨enc a⟩) = true from k.flat a, nblt, decide_eq_true hr, Bool.and_self, cond_true, wscc k]
  cases hq : wfn a m 0 with
  | none =>
    rw [wimb hq]
    show ARes.eff undef ((HP h).set r (.map (mapK enc m ++ [(.agg ⟨enc a⟩, x)]))) = _
    rw [wjq _ _ _ hr]
    simp [mapK]
  | some q =>
    obtain ⟨j, v⟩ := q
    obtain ⟨h1, _, h3, h4⟩ := whmb hq
    simp only [Nat.sub_zero] at h1 h3 h4
    rw [h4]
    have e1 : (mapK enc m)[j]? = some (.agg ⟨enc a⟩, (m[j]).2) := by
      rw [mapK, List.getElem?_map, List.getElem?_eq_getElem h1]
      simp only [Option.map_some, h3]
    obtain ⟨K, _, hf⟩ := k.fits
    have e2 : Instr.sameBits 10000 (.agg ⟨enc a⟩) (.agg ⟨enc a⟩) = true := by
      show ((⟨enc a⟩ : Array Value).size == (⟨enc a⟩ : Array Value).size && ((enc a).zip (enc a)).all fun (x, y) => Instr.sameBits 9999 x y) = true
      rw [wtcc (hf a)]
      simp
    show (match (mapK enc m)[j]? with | some e => (bif Instr.sameBits 10000 e.1 (.agg ⟨enc a⟩) then ARes.eff undef ((HP h).set r (.map ((mapK enc m).set j (.agg ⟨enc a⟩, x)))) else .none) | none => .none) = _
    rw [e1]
    simp only [e2, cond_true]
    rw [wjq _ _ _ hr]
    simp [mapK, List.map_set]
omit [DecidableEq α] in
theorem wucc {m : List (α × Value)} (h : (m.all fun p => wmp p.2) = true) : wxdb (mapK enc m) = true := by
  unfold wxdb mapK
  rw [List.all_map]
  exact h
def setK (enc : α → List Value) (l : List α) : List (Value × Value) := mapK enc (l.map fun a => (a, .bool true))
omit [DecidableEq α] in
theorem wnob : setK enc [] = [] := rfl
omit [DecidableEq α] in
theorem wy (l : List α) : wpx (setK enc l) = [] ∧ (∀ m, renM m (setK enc l) = setK enc l) ∧ wzjb (setK enc l) = [] := by
  have h : wxdb (setK enc l) = true := wucc (by rw [List.all_map]; simp [Function.comp_def, wmp])
  exact ⟨wvsb h, fun _ => wabc h, wwsb h⟩
omit [DecidableEq α] in
theorem wvcc (h : ∀ a, beqL (enc a) (enc a) = true) (l : List α) : beqP (setK enc l) (setK enc l) = true := by
  induction l with
  | nil => rfl
  | cons a l ih =>
    show (beqV (.agg ⟨enc a⟩) (.agg ⟨enc a⟩) && (beqV (.bool true) (.bool true) && beqP (setK enc l) (setK enc l))) = true
    rw [ih, wzbc]
    show (beqL (enc a) (enc a) && true) = true
    rw [h]; rfl
theorem find_set (a : α) : ∀ (l : List α) (i : Nat), (wfn a (l.map fun a => (a, .bool true)) i).map (·.2) = if a ∈ l then some (.bool true) else none := by
  intro l
  induction l with
  | nil => intro i; rfl
  | cons b l ih =>
    intro i
    simp only [List.map_cons, wfn]
    by_cases hq : a = b
    · simp [hq]
    · rw [if_neg hq, ih]; simp [hq]
theorem wze (k : KeyT P kt enc) {a : α} {l : List α} : lookX P kt (.bool false) false (.agg ⟨enc a⟩) (some (.map (setK enc l))) = val (.bool (decide (a ∈ l))) := by
  rw [setK, lookX_K k, getK, find_set]
  by_cases h : a ∈ l <;> simp [h] <;> rfl
theorem put_set {a : α} {l : List α} (h : a ∉ l) : putK a (.bool true) (l.map fun a => (a, .bool true)) = (l ++ [a]).map fun a => (a, .bool true) := by
  induction l with
  | nil => rfl
  | cons b l ih =>
    simp only [List.mem_cons, not_or] at h
    simp only [List.map_cons, putK, if_neg h.1, List.cons_append, ih h.2]
theorem whh (k : KeyT P kt enc) {h : List ABlk} {r : Nat} {a : α} {l : List α} (hr : r < h.length) (ha : a ∉ l) : updX P h r kt (.agg ⟨enc a⟩) (.bool true) (some (.map (setK enc l))) = .eff undef (HP (h.set r (.map (setK enc (l ++ [a]))))) := by
  rw [setK, updX_K k hr, put_set ha]
  rfl
end
theorem weeb {α : Type} [DecidableEq α] {enc : α → List Value} : ABlk.map [] = .map (setK enc ([] : List α)) := rfl
end
end Go.Den
namespace Go.Den
noncomputable section
variable {P : Program}
def appN (h : List ABlk) (elem size bytes : Nat) (s : Value) (n : Nat) (new : List Value) : ARes := wou true (HP h) elem size bytes s n new
theorem app_FL0 {h : List ABlk} {elem size bytes : Nat} {cs : List Value} : appA true (HP h) elem size bytes (.slice none 0 0) (FL 0 cs) = .eff (.slice none 0 0) (HP h) := rfl
theorem wqtb {h : List ABlk} {elem size bytes t len : Nat} {cs ds : List Value} : appA true (HP h) elem size bytes (FO t len ds) (FL 0 cs) = .eff (FO t len ds) (HP h) := rfl
def appR (h : List ABlk) (elem size bytes : Nat) (s : Value) (n : Nat) : Option ABlk → ARes
  | some (.cells b) => bif decide (n * size ≤ b.cells.length) then appN h elem size bytes s n (slotsOf b.cells 0 (n * size)) else .none
  | _ => .none
def wwcc : Option ABlk → Bool
  | some (.cells b) => isNil b.lens && Nat.beq b.wver 0
  | _ => false
theorem exactX_X {cs : List Value} {t z : Nat} {pf : Bool} : wwcc (some (X cs t z pf)) = true := rfl
theorem appR_X {h : List ABlk} {elem size bytes : Nat} {s : Value} {n : Nat} {cs : List Value} {t z : Nat} {pf : Bool} (hc : n * size ≤ cs.length) : appR h elem size bytes s n (some (X cs t z pf)) = appN h elem size bytes s n (slotsOf cs 0 (n * size)) := by
  show (bif decide (n * size ≤ cs.length) then _ else _) = _
  rw [decide_eq_true hc]; rfl
theorem app_row1 {h : List ABlk} (hh : h.length ≤ 1099511627774) {elem size bytes : Nat} {s : Value} {i n c : Nat} (hx : wwcc h[i]? = true) :
    appA true (HP h) elem size bytes s (.slice (some ⟨i, 0, none⟩) (n + 1) c) = appR h elem size bytes s (n + 1) h[i]? := by
  unfold appA
  have h1 : lenA (.slice (some ⟨i, 0, none⟩) (n + 1) c) = some (n + 1) := rfl
  rw [h1]
  have h2 : wfl (HP h) size (n + 1) (.slice (some ⟨i, 0, none⟩) (n + 1) c) = match wqi (HP h) ⟨i, 0, none⟩ ((n + 1) * size) with
    | some b => some (slotsOf b.cells 0 ((n + 1) * size))
    | none => none := by
    show (bif Nat.ble (n + 1) (n + 1) && Nat.blt 0 (n + 1) then _ else none) = _
    rw [nble, nblt, decide_eq_true (Nat.le_refl _), decide_eq_true (Nat.succ_pos n)]
    rfl
  simp only [h2]
  unfold wqi
  rw [wph h hh]
  cases hb : h[i]? with
  | none => rw [hb] at hx; cases hx
  | some b =>
    rw [hb] at hx
    cases b with
    | cells b =>
      have hx : (isNil b.lens && Nat.beq b.wver 0) = true := hx
      simp only [Bool.and_eq_true, Nat.beq_eq] at hx
      obtain ⟨h3, h4⟩ := hx
      have h5 : b.lens = [] := by cases hl : b.lens with | nil => rfl | cons a r => rw [hl] at h3; cases h3
      have h6 : rdOk b (aver ⟨i, 0, none⟩) (0 + (n + 1) * size) = decide ((n + 1) * size ≤ b.cells.length) := by
        unfold rdOk
        have e1 : b.top = 0 := by unfold CBlk.top; rw [h5]; rfl
        have e2 : b.lenAt 0 = b.cells.length := by unfold CBlk.lenAt; rw [h5]
        rw [h4, e1]
        show (Nat.ble 0 0 && (Nat.ble 0 0 && Nat.ble (0 + (n + 1) * size) (b.lenAt 0))) = _
        rw [e2, Nat.zero_add, nble, nble]
        simp
      simp only [h6]
      by_cases hq : (n + 1) * size ≤ b.cells.length
      · simp only [decide_eq_true hq, cond_true, appR]; rfl
      · simp only [decide_eq_false hq, cond_false, appR]
    | map es => cases hx
    | tok a b c => cases hx
theorem appN_nil {h : List ABlk} (hh : h.length ≤ 1099511627774) {elem size bytes n : Nat} {new : List Value} (hn : n ≤ 16777216) (hb : bytes ≤ 1048576) (ha : wlh new = true) :
    appN h elem size bytes (.slice none 0 0) n new = .eff (FO h.length n new) (HP (h ++ [.tok n elem size])) := by
  show (bif roomy n bytes then wal true (HP h) elem size new n else .none) = _
  have h1 : roomy n bytes = true := by unfold roomy; rw [nble, nble, decide_eq_true hn, decide_eq_true hb]; rfl
  rw [h1, cond_true]
  show (bif wtib (HP h) (nfL new) then ARes.eff (FO (HP h).n n (nfL new)) ((HP h).push (.tok n elem size)) else .none) = _
  rw [wwdb ha]
  have h2 : wtib (HP h) new = true := by
    unfold wtib
    rw [woq ha, woy ha, HP_n, wnh hh]; rfl
  rw [h2, cond_true, HP_n, wqm]
def appT (h : List ABlk) (elem size t len n : Nat) (cs new : List Value) : Option ABlk → ARes
  | some (.tok m el es) => bif decide (m = len ∧ el = elem ∧ es = size) then .eff (FO t (len + n) (cs ++ new)) (HP (h.set t (.tok (len + n) elem size))) else .none
  | _ => .none
theorem appT_tok {h : List ABlk} {elem size t len n : Nat} {cs new : List Value} : appT h elem size t len n cs new (some (.tok len elem size)) = .eff (FO t (len + n) (cs ++ new)) (HP (h.set t (.tok (len + n) elem size))) := by
  simp [appT]
theorem appN_FO {h : List ABlk} (hh : h.length ≤ 1099511627774) {elem size bytes t len n : Nat} {cs new : List Value} (ht : t < h.length) (hn : len + n ≤ 16777216) (hb : bytes ≤ 1048576) (hc : cs.length = len * size) (ha : wlh new = true) :
    appN h elem size bytes (FO t len cs) n new = appT h elem size t len n cs new h[t]? := by
  show (bif roomy (len + n) bytes then wes (HP h) elem size t len cs (nfL new) n else .none) = _
  have h1 : roomy (len + n) bytes = true := by unfold roomy; rw [nble, nble, decide_eq_true hn, decide_eq_true hb]; rfl
  rw [h1, cond_true, wwdb ha]
  unfold wes
  rw [wph h hh]
  cases hq : h[t]? with
  | none => rfl
  | some b =>
    cases b with
    | cells b => rfl
    | map es => rfl
    | tok m el es =>
      show (bif wzw m el es elem size t len cs new then _ else _) = (bif decide (m = len ∧ el = elem ∧ es = size) then _ else _)
      have h2 : wzw m el es elem size t len cs new = decide (m = len ∧ el = elem ∧ es = size) := by
        unfold wzw
        rw [woq ha, woy ha, hc, Nat.beq_refl, wnh (by omega), nbeq, nbeq, nbeq]
        by_cases q1 : m = len <;> by_cases q2 : el = elem <;> by_cases q3 : es = size <;> simp [q1, q2, q3]
      rw [h2, wjq _ _ _ ht]
      by_cases q : m = len ∧ el = elem ∧ es = size
      · obtain ⟨rfl, rfl, rfl⟩ := q; rfl
      · rw [decide_eq_false q]; rfl
def pfX : Option ABlk → Bool
  | some (.cells b) => isNil b.lens && (Nat.beq b.wver 0 && b.pf)
  | _ => false
theorem pfX_X {cs : List Value} {t z : Nat} : pfX (some (X cs t z true)) = true := rfl
theorem wxcc {h : List ABlk} (hh : h.length ≤ 1099511627774) {i n c : Nat} {sl : List Value → Option (List Value × Frs)} (hx : pfX h[i]? = true) :
    wcg P (HP h) sl (.slice (some ⟨i, 0, none⟩) (n + 1) (c + 1)) = rowS P i (n + 1) c h[i]? := by
  show wjn P (HP h) sl ⟨i, 0, none⟩ (n + 1) (c + 1) = _
  unfold wjn
  rw [wph h hh]
  cases hb : h[i]? with
  | none => rw [hb] at hx; cases hx
  | some b =>
    rw [hb] at hx
    cases b with
    | map es => cases hx
    | tok a b c => cases hx
    | cells b =>
      have hx : (isNil b.lens && (Nat.beq b.wver 0 && b.pf)) = true := hx
      simp only [Bool.and_eq_true, Nat.beq_eq] at hx
      obtain ⟨h3, h4, h7⟩ := hx
      have h5 : b.lens = [] := by cases hl : b.lens with | nil => rfl | cons a r => rw [hl] at h3; cases h3
      have e0 : wzh P b = tsz P b.elem := by unfold wzh; rw [h5]; rfl
      have hi : wwb i = true := wnh (by have := wny hb; omega)
      have h6 : rdOk b (aver ⟨i, 0, none⟩) (0 + (n + 1) * tsz P b.elem) = Nat.ble ((n + 1) * tsz P b.elem) b.cells.length := by
        unfold rdOk
        have e1 : b.top = 0 := by unfold CBlk.top; rw [h5]; rfl
        have e2 : b.lenAt 0 = b.cells.length := by unfold CBlk.lenAt; rw [h5]
        rw [h4, e1]
        show (Nat.ble 0 0 && (Nat.ble 0 0 && Nat.ble (0 + (n + 1) * tsz P b.elem) (b.lenAt 0))) = _
        rw [e2, Nat.zero_add, nble 0 0]
        simp
      simp only [e0, h6, h7, cond_true]
      show (bif (Nat.ble (n + 1) c && Nat.blt 0 (tsz P b.elem)) && Nat.ble ((n + 1) * tsz P b.elem) b.cells.length then _ else none) = (bif Nat.ble (n + 1) c && (isNil b.lens && (b.pf && (Nat.blt 0 (tsz P b.elem) && Nat.ble ((n + 1) * tsz P b.elem) b.cells.length))) then _ else none)
      rw [h3, h7, Bool.and_assoc, Bool.true_and, Bool.true_and]
      cases (Nat.ble (n + 1) c && (Nat.blt 0 (tsz P b.elem) && Nat.ble ((n + 1) * tsz P b.elem) b.cells.length)) with
      | false => rfl
      | true =>
        simp only [cond_true, hi, Bool.and_true, Nat.zero_add]
end
end Go.Den
namespace Go.Den
set_option linter.defProp false
theorem ai {a b : Prop} (h : a) (k : b) : a ∧ b := ⟨h, k⟩
def zA := (ai @Bool.and_eq_true (ai @and_true @true_and))
def zH := (ai (ai (ai @decide_eq_true_eq @decide_eq_false_iff_not) (ai @Bool.not_true @Bool.not_false)) (ai (ai @Bool.not_eq_true @Bool.not_eq_false) (ai @Classical.not_not @ne_eq.{1})))
def zT := (ai (ai (ai (ai (ai @over_all @wuhb) (ai @wotb (ai @slots_0 @slots_00))) (ai (ai @wnbb (ai @wfcc @mt_set)) (ai @wvhb (ai @mt_fz @wwhb)))) (ai (ai (ai @st_fz @st_get0) (ai @wxhb (ai @wkcc @st_set0))) (ai (ai @st_over1 (ai @wlcc @wkr)) (ai @wceb (ai @wii @wmcc))))) (ai (ai (ai (ai @mts_slot @wmob) (ai @wgw (ai @rx_get0 @rx_get1))) (ai (ai @rx_get2 (ai @rx_get3 @rx_get8)) (ai @wpcc (ai @wdeb @whu)))) (ai (ai (ai @rxs_fz @wqcc) (ai @set_flat (ai @rx_kind @rx_mn))) (ai (ai @rx_mx (ai @rx_n @rx_set)) (ai @wncc (ai @sts_bq @rxs_bq))))))
def zD := (ai (ai (ai (ai @wnbb (ai @wwhb @wlcc)) (ai @wmcc (ai @wmob @wdeb))) (ai (ai @wbmb (ai @mt_fz @st_fz)) (ai @wxv (ai @mts_fz @wgw)))) (ai (ai (ai @rxs_fz (ai @wqcc @wicc)) (ai @wfmb (ai @wzy @mt_bq))) (ai (ai @st_bq (ai @sts_bq @mts_bq)) (ai @set_bq (ai @rx_bq @rxs_bq)))))
def zS := (ai (ai (ai (ai (ai (ai (ai (ai @wdrb (ai @wfxb @werb)) (ai (ai @wgxb @whxb) (ai @wvkb @whrb))) (ai (ai (ai @wirb @wwkb) (ai @wxkb @seqK_ret)) (ai (ai @wkxb @wqdb) (ai @wjrb @wykb)))) (ai (ai (ai @opsR_nil (ai @opsR_ins @wlxb)) (ai (ai @wkrb @wmxb) (ai @opsR_un @opsR_eqb))) (ai (ai (ai @wnxb @woxb) (ai @wpxb @opsR_ssl)) (ai (ai @wqxb @opsR_slS) (ai @wrxb @wsxb))))) (ai (ai (ai (ai @opsR_b2s (ai @wtxb @wuxb)) (ai (ai @opsI_val @wvxb) (ai @opsI_new @opsI_eff))) (ai (ai (ai @wwxb @evl_tmp) (ai @wxxb @evls_nil)) (ai (ai @wyxb @SE_put) (ai @wukb @int2_add)))) (ai (ai (ai (ai @int2_sub @int2_mul) (ai @int2_quo @int2_rem)) (ai (ai @int2_eql @int2_neq) (ai @int2_lss @int2_leq))) (ai (ai (ai @int2_gtr @int2_geq) (ai @int2_and @int2_or)) (ai (ai @shift_shl @shift_shr) (ai @conv_int @un_not)))))) (ai (ai (ai (ai (ai @un_neg (ai @eqb_eq @eqb_ne)) (ai (ai @slen_str @isJK_int) (ai @wzxb @wzkb))) (ai (ai (ai @isJK_agg @isJK_ptr) (ai @wlrb @walb)) (ai (ai @wblb @wayb) (ai @wbyb @wmrb)))) (ai (ai (ai (ai @wwgb @wclb) (ai @cells_func @wcyb)) (ai (ai @wdlb @wxgb) (ai @wxz @wrdb))) (ai (ai (ai @welb @wgbb) (ai @wnrb @worb)) (ai (ai @wflb @wsdb) (ai @wdyb @wglb))))) (ai (ai (ai (ai @load1_HP (ai @load1X_X @loadN_HP)) (ai (ai @loadNX_X @store_HP) (ai @storeX_X @exact_X))) (ai (ai (ai @wlq @cond_true.{1}) (ai @cond_false.{1} @nble)) (ai (ai @nblt @nbeq) (ai @decide_eq_true_eq @wrap_i64)))) (ai (ai (ai (ai @wrap_u8 @wrap_u64) (ai @Int.tdiv_eq_ediv_of_nonneg @Int.tmod_eq_emod_of_nonneg)) (ai (ai @List.nil_append.{0} @List.cons_append.{0}) (ai @List.append_assoc.{0} @List.length_cons.{0}))) (ai (ai (ai @List.length_nil.{0} @List.getElem?_cons_zero.{0}) (ai @List.getElem?_cons_succ.{0} @List.set_cons_zero.{0})) (ai (ai @List.set_cons_succ.{0} @Nat.zero_add) (ai @Nat.add_zero @Bool.true_and))))))) (ai (ai (ai (ai (ai (ai @Bool.and_true (ai @Bool.and_self @Bool.not_false)) (ai (ai @Bool.not_true @Int.toNat_natCast) (ai @HP_n @List.drop_zero.{0}))) (ai (ai (ai @List.drop_succ_cons.{0} @List.take_zero.{0}) (ai @List.take_succ_cons.{0} @Nat.add_eq)) (ai (ai @Nat.mul_eq @Nat.mul_one) (ai @wixb @wjxb)))) (ai (ai (ai @wprb (ai @arr_size @wmq)) (ai (ai @resR_nil @weyb) (ai @wfyb @resA_tmp))) (ai (ai (ai @wqrb @wrrb) (ai @resV_val @wgyb)) (ai (ai @whyb @wiyb) (ai @len_FL @len_FO))))) (ai (ai (ai (ai @wjyb (ai @wkyb @wlyb)) (ai (ai @wfrb @opsD_ins) (ai @wsyb @wtyb))) (ai (ai (ai @opsD_un @wuyb) (ai @wvyb @wwyb)) (ai (ai @opsD_ssl @wxyb) (ai @opsD_slS @opsD_eqc)))) (ai (ai (ai (ai @opsD_nil @wyyb) (ai @wwrb @wzyb)) (ai (ai @wazb @wxrb) (ai @woyb @wbhb))) (ai (ai (ai @wudb @opsR_eqc) (ai @opsR_mm @List.map_cons.{0, 0})) (ai (ai @List.map_nil.{0, 0} @List.length_append.{0}) (ai @fld1_agg @wmyb)))))) (ai (ai (ai (ai (ai @wahb (ai @wtrb @wurb)) (ai (ai @wpyb @Bool.decide_eq_true) (ai @Bool.decide_eq_false @if_true.{1}))) (ai (ai (ai @if_false.{1} @str2_eql) (ai @str2_neq @str2_add)) (ai (ai @sidx_str @ssl_both) (ai @ssl_lo @Option.map_some.{0, 0})))) (ai (ai (ai (ai @Option.map_none.{0, 0} @eq_self.{1}) (ai @decide_true @decide_false)) (ai (ai @wzrb @opsD_eqb) (ai @opsD_mm @wasb))) (ai (ai (ai @wbzb @wczb) (ai @opsD_b2s @look_HP)) (ai (ai @okd_true @wdzb) (ai @upd_HP @wdhb))))) (ai (ai (ai (ai @okV_some (ai @okV_none @wdob)) (ai (ai @whbb @gselV_tt) (ai @gselV_tf @gselV_ft))) (ai (ai (ai @gselV_ff @List.all_cons.{0}) (ai @List.all_nil.{0} @wgrb)) (ai (ai @wygb @wfzb) (ai @wiv @atom_int)))) (ai (ai (ai (ai @whzb @whlb) (ai @atom_FL @atom_FP)) (ai (ai @wizb @wjzb) (ai @wkzb @wesb))) (ai (ai (ai @wilb @wfsb) (ai @wlzb @seal_int)) (ai (ai @wmzb @wjlb) (ai @whhb @seal_FL)))))))) (ai (ai (ai (ai (ai (ai (ai @seal_FO (ai @seal_FP @wnzb)) (ai (ai @seal_noS @seal_ptr) (ai @seal_map @wozb))) (ai (ai (ai @wpzb @seal_agg) (ai @wgsb @wqzb)) (ai (ai @wrzb @wszb) (ai @wtzb @EJ_n)))) (ai (ai (ai @EJ_g (ai @SE_n @SE_g)) (ai (ai @E0_n @E0_g) (ai @zipR_nil @wwzb))) (ai (ai (ai @envL_SE @lvOk_nil) (ai @wxzb @evs_nil)) (ai (ai @evs_cons @normA_X) (ai @cloL_nil @wyzb))))) (ai (ai (ai (ai @memN_nil (ai @waac @wisb)) (ai (ai @wcac @wjsb) (ai @pins_nil @wdac))) (ai (ai (ai @hasL_nil @weac) (ai @wfac @wksb)) (ai (ai @wlsb @wllb) (ai @wgac @whac)))) (ai (ai (ai (ai @wmsb @wiac) (ai @renBX_X @wjac)) (ai (ai @wkac @exactB_X) (ai @wnsb @wosb))) (ai (ai (ai @refsB_X @wlac) (ai @wmac @nm1_at)) (ai (ai @wpsb @upto_0) (ai @upto_1 @upto_2)))))) (ai (ai (ai (ai (ai @upto_3 (ai @upto_4 @upto_5)) (ai (ai @upto_6 @wnac) (ai @wqsb @refs_ptr))) (ai (ai (ai @wsac @refs_row) (ai @wtac @refs_map)) (ai (ai @refs_FO @refs_agg) (ai @wssb @wuac)))) (ai (ai (ai (ai @wvac @wtsb) (ai @wwac @wusb)) (ai (ai @ren_ptr @wxac) (ai @ren_nilS @ren_row))) (ai (ai (ai @ren_row0 @ren_map) (ai @ren_FO @ren_agg)) (ai (ai @wyac @ren_func) (ai @renM_nil @wzac))))) (ai (ai (ai (ai @wbbc (ai @wxsb @wysb)) (ai (ai @wolb @wplb) (ai @wqlb @wdbc))) (ai (ai (ai @wzsb @retR_end) (ai @webc @wfbc)) (ai (ai @watb @valK_raw) (ai @wgbc @one_1)))) (ai (ai (ai (ai @one_0 @one_2) (ai @whbc @raise_HP)) (ai (ai @AH0_HP @wibc) (ai @wbtb @frzSet_X))) (ai (ai (ai @wrlb @wslb) (ai @wulb @wxlb)) (ai (ai @wpy @wqy) (ai @opsK_did @wbcc))))))) (ai (ai (ai (ai (ai (ai @wmtb (ai @wamb @bk_at)) (ai (ai @getN_0 @getN_s) (ai @fzn1_agg @fzn1_int))) (ai (ai (ai @wlbc @wvlb) (ai @wnhb @fzn1_FL)) (ai (ai @fzn1_FP @wmbc) (ai @wnbc @wdtb)))) (ai (ai (ai @frzV_agg (ai @frzV_int @wobc)) (ai (ai @wwlb @wohb) (ai @frzV_FL @frzV_FP))) (ai (ai (ai @wpbc @wqbc) (ai @fl_int @fl_bool)) (ai (ai @wwbc @wgtb) (ai @fl_FL @fl_FO))))) (ai (ai (ai (ai @fl_ptr (ai @fl_map @fl_agg)) (ai (ai @fl_tuple @wxbc) (ai @wjr @whtb))) (ai (ai (ai @wybc @gd_skip) (ai @gd_skip' @gd_do)) (ai (ai @gd_do' @wtbc) (ai @wetb @wphb)))) (ai (ai (ai (ai @wftb @wubc) (ai @wylb @Option.isSome_some.{0})) (ai (ai @Bool.or_false @Bool.false_or) (ai @Bool.or_true @Bool.true_or))) (ai (ai (ai @Bool.and_false @Bool.false_and) (ai @List.append_nil.{0} @wnyb)) (ai (ai @wsrb @lkE_nil) (ai @lkE_cons @look_E0)))))) (ai (ai (ai (ai (ai @look_EJ (ai @lkB_true @wuzb)) (ai (ai @lkH_true @app_FL0) (ai @wqtb @app_row1))) (ai (ai (ai @appR_X @exactX_X) (ai @appN_nil @appN_FO)) (ai (ai @appT_tok @wxcc) (ai @pfX_X @rowS_X)))) (ai (ai (ai (ai @wvbc @isJK_map) (ai @nilc_ptr @nilc_FP)) (ai (ai @witb @mm_min2) (ai @mm_max2 @bq_X))) (ai (ai (ai @bq_map @bq_tok) (ai @wry @wrj)) (ai (ai @bqP_nil @bqP_cons) (ai @weu @wzbc))))) (ai (ai (ai (ai @bq_str (ai @bq_ptr @bq_nilP)) (ai (ai @bq_nilS @wacc) (ai @bq_FL @bq_FO))) (ai (ai (ai @chg_same @refs_int) (ai @ren_int @woac)) (ai (ai @ren_bool @wmlb) (ai @wrsb @wkhb)))) (ai (ai (ai (ai @wnlb @refs_FL) (ai @ren_FL @refs_FP)) (ai (ai @ren_FP @wpac) (ai @ren_nilP @wqac))) (ai (ai (ai @ren_nilF @wrac) (ai @ren_nilI @wzzb)) (ai (ai @whsb @ne_eq.{1}) (ai @not_false_eq_true @not_true_eq_false)))))))))
theorem z1 : type_of% @wccc := @wccc
theorem z2 : type_of% @wkob := @wkob
theorem z3 : type_of% @gd_ok := @gd_ok
theorem z4 : type_of% @gdD_ok := @gdD_ok
theorem z5 : type_of% @wkbb := @wkbb
theorem z6 : type_of% @AccLe.chg := @AccLe.chg
theorem z7 : type_of% @AccLe.same := @AccLe.same
end Go.Den
namespace Go.Proofs.Ytgpabbbibmnnlaa
open Go.Den
noncomputable section
theorem mixed : Try.prog.follows .mixedOrders = true := by kernel_rfl
def rawC (f : FuncId) : Bool × Bool := bif Nat.beq f 122 then (true, true) else (false, false)
def ownC (f : FuncId) : Bool := !([63, 64, 79, 89] : List Nat).any fun k => Nat.beq k f
def cfgC0 : Cfg := { raw := fun _ => (false, false), own := ownC, live := fun _ _ => none, glob := fun _ => none, know := wbbb }
theorem wycc : ∀ c, wnkb (den Try.prog cfgC0 100 (.call 122 [.slice none 0 c]) AH0) = true := fun c => by kernel_rfl
theorem clone_no : wnkb (den Try.prog cfgC0 100 (.call 122 [.slice (some ⟨0, 0, none⟩) 0 0]) AH0) = true := by kernel_rfl
def knowC : FuncId → Option (List Value → Option Value) := wngb [122] wbbb
theorem wlr : wij Try.prog (fun _ => none) knowC :=
  wtwb (fun f hf => by
      rw [List.mem_singleton] at hf
      subst hf
      exact known_no (cfg := cfgC0) wiq mixed wycc clone_no) wiq
def cfgC : Cfg := { raw := rawC, own := ownC, live := fun _ _ => none, glob := fun _ => none, know := knowC }
end
end Go.Proofs.Ytgpabbbibmnnlaa
namespace Go.Den
noncomputable section
abbrev setX (S : BitVec 256) : Rx := .mk 1 0 0 0 S []
abbrev repX (mn mx : Int) (S : BitVec 256) : Rx := .mk 4 mn mx 0 0#256 [setX S]
abbrev wfeb (l : List Rx) : Rx := .mk 2 0 0 0 0#256 l
abbrev rxAlt (l : List Rx) : Rx := .mk 3 0 0 0 0#256 l
abbrev wjmb (n : Int) (r : Rx) : Rx := .mk 5 0 0 n 0#256 [r]
abbrev rxBk (n : Int) : Rx := .mk 6 0 0 n 0#256 []
abbrev ALL : BitVec 256 := ~~~ 0#256
def wzn : Rx := wfeb [wjmb 1 (repX 0 (-1) ALL), rxBk 1]
def rxQ : Rx := wfeb [.mk 4 0 (-1) 0 0#256 [wjmb 1 (rxAlt [setX (one 97), wfeb [rxBk 1, setX (one 98)]])], setX (one 99)]
def rxA : Rx := repX 0 (-1) (one 97)
def rxW : Rx := wfeb [wjmb 1 (rxAlt [setX (one 97), wfeb [setX (one 97), setX (one 98)]]), wjmb 2 (rxAlt [setX (one 99), wfeb [setX (one 98), setX (one 99), setX (one 100)]])]
def prV (r : Rx) : Value := .tuple ⟨[.agg ⟨rxC r⟩, .int .i64 0, .int .i64 0]⟩
end
end Go.Den
namespace Go.Proofs.Ytgpabbbibmnnlaa
open Go.Den
noncomputable section
theorem wrtb : whk Try.prog (fun _ => none) 35 [str [92, 40, 46, 42, 92, 41, 92, 49], .bool false] (prV wzn) := wsi (cfg := cfgC) (n := 3000) wlr mixed (by kernel_rfl) (by kernel_rfl) (by kernel_rfl)
theorem known_PQ : whk Try.prog (fun _ => none) 35 [str [40, 97, 124, 92, 49, 98, 41, 42, 99], .bool true] (prV rxQ) := wsi (cfg := cfgC) (n := 3000) wlr mixed (by kernel_rfl) (by kernel_rfl) (by kernel_rfl)
end
end Go.Proofs.Ytgpabbbibmnnlaa
namespace Go.Proofs.Ytgpabbbibmnnlaa
open Go.Den
noncomputable section
def noSp : List Value := [.int .i64 (-1), .int .i64 (-1)]
def stV (a : Int) (g1 g2 : List Value) : List Value := .int .i64 a :: (noSp ++ g1 ++ g2 ++ noSp)
def sp2 (a b : Int) : List Value := [.int .i64 a, .int .i64 b]
def wrP1 : List Value := [str [97, 42], .bool false]
def wrP2 : List Value := [str [40, 97, 124, 97, 98, 41, 40, 99, 124, 98, 99, 100, 41], .bool true]
def wrW1 : List Value := [.agg ⟨rxC rxA⟩, str [97, 97, 98], .bool true, .int .i64 0]
def wrV1 : Value := FL 3 (stV 2 noSp noSp ++ stV 1 noSp noSp ++ stV 0 noSp noSp)
def wrW2 : List Value := [.agg ⟨rxC rxW⟩, str [97, 98, 99, 100], .bool true, .int .i64 0]
def wrV2 : Value := FL 2 (stV 4 (sp2 0 1) (sp2 1 4) ++ stV 3 (sp2 0 2) (sp2 2 3))
def wrE2 : Value := FL 2 [.int .i64 3, .int .i64 4]
def woob : List (FuncId × List Value × Value) := [(35, wrP1, prV rxA), (35, wrP2, prV rxW), (36, wrW1, wrV1), (36, wrW2, wrV2)]
theorem wzhb : ∀ e ∈ woob, whk Try.prog (fun _ => none) e.1 e.2.1 e.2.2 := by
  intro e he
  simp only [woob, List.mem_cons, List.not_mem_nil, or_false] at he
  rcases he with rfl | rfl | rfl | rfl
  · exact wsi (cfg := cfgC) (n := 3000) wlr mixed (by kernel_rfl) (by kernel_rfl) (by kernel_rfl)
  · exact wsi (cfg := cfgC) (n := 3000) wlr mixed (by kernel_rfl) (by kernel_rfl) (by kernel_rfl)
  · exact wsi (cfg := cfgC) (n := 3000) wlr mixed (by kernel_rfl) (by kernel_rfl) (by kernel_rfl)
  · exact wsi (cfg := cfgC) (n := 3000) wlr mixed (by kernel_rfl) (by kernel_rfl) (by kernel_rfl)
def cfgE : Cfg := { raw := fun f => (([76, 106, 126] : List Nat).any fun k => Nat.beq k f, false), own := fun f => !([37, 76, 106, 126, 77] : List Nat).any fun k => Nat.beq k f, live := fun _ _ => none, glob := fun _ => none, know := wjy woob wbbb }
theorem ends_run : whk Try.prog (fun _ => none) 37 wrW2 wrE2 := wsi (cfg := cfgE) (n := 3000) (wev wzhb wiq) mixed (by kernel_rfl) (by kernel_rfl) (by kernel_rfl)
def wrTab : List (FuncId × List Value × Value) := (37, wrW2, wrE2) :: woob
def cfgW : Cfg := { raw := fun _ => (false, false), own := ownC, live := fun _ _ => none, glob := fun _ => none, know := wjy wrTab wbbb }
theorem wkmb : wkdb (den Try.prog cfgW 3000 (.call 45 []) AH0) = true := by kernel_rfl
theorem wgeb : whk Try.prog (fun _ => none) 45 [] (.bool true) := wwqb (cfg := cfgW) (wev (fun e he => by
  rcases List.mem_cons.1 he with rfl | he
  · exact ends_run
  · exact wzhb e he) wiq) mixed wkmb
end
end Go.Proofs.Ytgpabbbibmnnlaa
namespace Go.Proofs.Ytgpabbbibmnnlaa
open Go.Den
noncomputable section
def live13 (i : Nat) : Option (List Tmp × List Tmp × Nat) := bif Nat.beq i 8 then some ([5, 6, 9, 10, 11], [5, 6, 9, 10], 999999) else bif Nat.beq i 13 then some ([5, 6, 9, 10, 66, 67, 68], [4, 5, 6, 9, 10], 999999) else none
def live26 (i : Nat) : Option (List Tmp × List Tmp × Nat) := bif Nat.beq i 3 then some ([0, 1, 5, 6], [5], 999999) else none
def live37 (i : Nat) : Option (List Tmp × List Tmp × Nat) := bif Nat.beq i 3 then some ([9, 16, 17, 18], [9], 999999) else none
def live38 (i : Nat) : Option (List Tmp × List Tmp × Nat) := bif Nat.beq i 3 then some ([0, 1, 3], [0, 1], 999999) else none
def live46 (i : Nat) : Option (List Tmp × List Tmp × Nat) := bif Nat.beq i 4 then some ([0, 1, 5], [4], 999999) else none
def live74 (i : Nat) : Option (List Tmp × List Tmp × Nat) := bif Nat.beq i 3 then some ([3, 7, 8, 9], [3], 999999) else none
def live75 (i : Nat) : Option (List Tmp × List Tmp × Nat) := bif Nat.beq i 18 then some ([4, 5, 8, 80, 81, 82], [8], 999999) else bif Nat.beq i 27 then some ([3, 5, 11, 108, 109, 110], [11], 999999) else bif Nat.beq i 34 then some ([3, 7, 128, 129, 130], [7], 999999) else none
def live77 (i : Nat) : Option (List Tmp × List Tmp × Nat) := bif Nat.beq i 4 then some ([0, 3], [0, 2], 999999) else bif Nat.beq i 9 then some ([0, 3, 4, 5], [0, 3], 999999) else none
def live96 (i : Nat) : Option (List Tmp × List Tmp × Nat) := bif Nat.beq i 4 then some ([3, 17, 18, 19], [4], 999999) else none
def live97 (i : Nat) : Option (List Tmp × List Tmp × Nat) := bif Nat.beq i 12 then some ([0, 2, 77, 78, 79], [6], 999999) else none
def live103 (i : Nat) : Option (List Tmp × List Tmp × Nat) := bif Nat.beq i 1 then some ([0, 6, 7, 8], [], 999999) else none
def live104 (i : Nat) : Option (List Tmp × List Tmp × Nat) := bif Nat.beq i 3 then some ([3, 4, 7, 11, 12, 13], [7], 999999) else none
def live105 (i : Nat) : Option (List Tmp × List Tmp × Nat) := bif Nat.beq i 5 then some ([0, 1, 5, 52, 53, 54], [0, 1, 5], 999999) else none
def live106 (i : Nat) : Option (List Tmp × List Tmp × Nat) := bif Nat.beq i 2 then some ([0, 1, 2, 3, 8, 9], [], 999999) else none
def live126 (i : Nat) : Option (List Tmp × List Tmp × Nat) := bif Nat.beq i 1 then some ([0, 1, 2, 6], [], 999999) else bif Nat.beq i 4 then some ([0, 1, 2, 6, 7], [0, 1, 2, 6], 999999) else none
def live172 (i : Nat) : Option (List Tmp × List Tmp × Nat) := bif Nat.beq i 2 then some ([0, 1, 7, 8], [4], 999999) else none
def live173 (i : Nat) : Option (List Tmp × List Tmp × Nat) := bif Nat.beq i 2 then some ([0, 1, 7, 8], [4], 999999) else none
def liveT (f i : Nat) : Option (List Tmp × List Tmp × Nat) := bif Nat.blt f 96 then (bif Nat.blt f 46 then (bif Nat.blt f 37 then (bif Nat.blt f 26 then (bif Nat.beq f 13 then live13 i else none) else (bif Nat.beq f 26 then live26 i else none)) else (bif Nat.blt f 38 then (bif Nat.beq f 37 then live37 i else none) else (bif Nat.beq f 38 then live38 i else none))) else (bif Nat.blt f 75 then (bif Nat.blt f 74 then (bif Nat.beq f 46 then live46 i else none) else (bif Nat.beq f 74 then live74 i else none)) else (bif Nat.blt f 77 then (bif Nat.beq f 75 then live75 i else none) else (bif Nat.beq f 77 then live77 i else none)))) else (bif Nat.blt f 105 then (bif Nat.blt f 103 then (bif Nat.blt f 97 then (bif Nat.beq f 96 then live96 i else none) else (bif Nat.beq f 97 then live97 i else none)) else (bif Nat.blt f 104 then (bif Nat.beq f 103 then live103 i else none) else (bif Nat.beq f 104 then live104 i else none))) else (bif Nat.blt f 126 then (bif Nat.blt f 106 then (bif Nat.beq f 105 then live105 i else none) else (bif Nat.beq f 106 then live106 i else none)) else (bif Nat.blt f 172 then (bif Nat.beq f 126 then live126 i else none) else (bif Nat.blt f 173 then (bif Nat.beq f 172 then live172 i else none) else (bif Nat.beq f 173 then live173 i else none)))))
def tabK : List (FuncId × List Value × Value) := [(45, [], .bool true), (35, [str [92, 40, 46, 42, 92, 41, 92, 49], .bool false], .tuple ⟨[.agg ⟨rxC wzn⟩, .int .i64 0, .int .i64 0]⟩), (35, [str [40, 97, 124, 92, 49, 98, 41, 42, 99], .bool true], .tuple ⟨[.agg ⟨rxC rxQ⟩, .int .i64 0, .int .i64 0]⟩)]
def cfg : Cfg := { raw := fun f => (Nat.beq f 76 || Nat.beq f 106 || Nat.beq f 126, Nat.beq f 95), own := fun f => bif Nat.beq f 37 then false else bif Nat.beq f 76 then false else bif Nat.beq f 106 then false else bif Nat.beq f 126 then false else bif Nat.beq f 77 then false else true, live := liveT, glob := fun _ => none, know := wjy tabK wbbb }
theorem hc : PlainA cfg := ⟨rfl⟩
theorem wwj : wij Try.prog cfg.glob cfg.know := wev (fun e he => by
  simp only [tabK, List.mem_cons, List.not_mem_nil, or_false] at he
  rcases he with rfl | rfl | rfl
  · exact wgeb
  · exact wrtb
  · exact known_PQ) wiq
theorem wzcc : (∀ (rec : Rec) (args : List Value) (H : AH), callS Try.prog cfg rec 13 args H = wef rec 13 H (wod Try.prog H 20 args) (cfg.know 13)) ∧ (∀ (rec : Rec) (args : List Value) (H : AH), callS Try.prog cfg rec 15 args H = wef rec 15 H (wod Try.prog H 20 args) (cfg.know 15)) ∧ (∀ (rec : Rec) (args : List Value) (H : AH), callS Try.prog cfg rec 26 args H = wef rec 26 H (wod Try.prog H 20 args) (cfg.know 26)) ∧ (∀ (rec : Rec) (args : List Value) (H : AH), callS Try.prog cfg rec 35 args H = wef rec 35 H (wod Try.prog H 20 args) (cfg.know 35)) ∧ (∀ (rec : Rec) (args : List Value) (H : AH), callS Try.prog cfg rec 36 args H = wef rec 36 H (wod Try.prog H 20 args) (cfg.know 36)) ∧ (∀ (rec : Rec) (args : List Value) (H : AH), callS Try.prog cfg rec 37 args H = wef rec 37 H (wod Try.prog H 20 args) (cfg.know 37)) ∧ (∀ (rec : Rec) (args : List Value) (H : AH), callS Try.prog cfg rec 38 args H = wef rec 38 H (wod Try.prog H 20 args) (cfg.know 38)) ∧ (∀ (rec : Rec) (args : List Value) (H : AH), callS Try.prog cfg rec 45 args H = wef rec 45 H (wod Try.prog H 20 args) (cfg.know 45)) ∧ (∀ (rec : Rec) (args : List Value) (H : AH), callS Try.prog cfg rec 46 args H = wef rec 46 H (wod Try.prog H 20 args) (cfg.know 46)) ∧ (∀ (rec : Rec) (args : List Value) (H : AH), callS Try.prog cfg rec 52 args H = wef rec 52 H (wod Try.prog H 20 args) (cfg.know 52)) ∧ (∀ (rec : Rec) (args : List Value) (H : AH), callS Try.prog cfg rec 69 args H = wef rec 69 H (wod Try.prog H 20 args) (cfg.know 69)) ∧ (∀ (rec : Rec) (args : List Value) (H : AH), callS Try.prog cfg rec 74 args H = wef rec 74 H (wod Try.prog H 20 args) (cfg.know 74)) ∧ (∀ (rec : Rec) (args : List Value) (H : AH), callS Try.prog cfg rec 75 args H = wef rec 75 H (wod Try.prog H 20 args) (cfg.know 75)) ∧ (∀ (rec : Rec) (args : List Value) (H : AH), callS Try.prog cfg rec 76 args H = wef rec 76 H (some (args, [])) (cfg.know 76)) ∧ (∀ (rec : Rec) (args : List Value) (H : AH), callS Try.prog cfg rec 77 args H = wef rec 77 H (wod Try.prog H 20 args) (cfg.know 77)) ∧ (∀ (rec : Rec) (args : List Value) (H : AH), callS Try.prog cfg rec 86 args H = wef rec 86 H (wod Try.prog H 20 args) (cfg.know 86)) ∧ (∀ (rec : Rec) (args : List Value) (H : AH), callS Try.prog cfg rec 96 args H = wef rec 96 H (wod Try.prog H 20 args) (cfg.know 96)) ∧ (∀ (rec : Rec) (args : List Value) (H : AH), callS Try.prog cfg rec 97 args H = wef rec 97 H (wod Try.prog H 20 args) (cfg.know 97)) ∧ (∀ (rec : Rec) (args : List Value) (H : AH), callS Try.prog cfg rec 101 args H = wef rec 101 H (wod Try.prog H 20 args) (cfg.know 101)) ∧ (∀ (rec : Rec) (args : List Value) (H : AH), callS Try.prog cfg rec 102 args H = wef rec 102 H (wod Try.prog H 20 args) (cfg.know 102)) ∧ (∀ (rec : Rec) (args : List Value) (H : AH), callS Try.prog cfg rec 103 args H = wef rec 103 H (wod Try.prog H 20 args) (cfg.know 103)) ∧ (∀ (rec : Rec) (args : List Value) (H : AH), callS Try.prog cfg rec 104 args H = wef rec 104 H (wod Try.prog H 20 args) (cfg.know 104)) ∧ (∀ (rec : Rec) (args : List Value) (H : AH), callS Try.prog cfg rec 105 args H = wef rec 105 H (wod Try.prog H 20 args) (cfg.know 105)) ∧ (∀ (rec : Rec) (args : List Value) (H : AH), callS Try.prog cfg rec 106 args H = wef rec 106 H (some (args, [])) (cfg.know 106)) ∧ (∀ (rec : Rec) (args : List Value) (H : AH), callS Try.prog cfg rec 107 args H = wef rec 107 H (wod Try.prog H 20 args) (cfg.know 107)) ∧ (∀ (rec : Rec) (args : List Value) (H : AH), callS Try.prog cfg rec 114 args H = wef rec 114 H (wod Try.prog H 20 args) (cfg.know 114)) ∧ (∀ (rec : Rec) (args : List Value) (H : AH), callS Try.prog cfg rec 115 args H = wef rec 115 H (wod Try.prog H 20 args) (cfg.know 115)) ∧ (∀ (rec : Rec) (args : List Value) (H : AH), callS Try.prog cfg rec 125 args H = wef rec 125 H (wod Try.prog H 20 args) (cfg.know 125)) ∧ (∀ (rec : Rec) (args : List Value) (H : AH), callS Try.prog cfg rec 126 args H = wef rec 126 H (some (args, [])) (cfg.know 126)) ∧ (∀ (rec : Rec) (args : List Value) (H : AH), callS Try.prog cfg rec 127 args H = wef rec 127 H (wod Try.prog H 20 args) (cfg.know 127)) ∧ (∀ (rec : Rec) (args : List Value) (H : AH), callS Try.prog cfg rec 128 args H = wef rec 128 H (wod Try.prog H 20 args) (cfg.know 128)) ∧ (∀ (rec : Rec) (args : List Value) (H : AH), callS Try.prog cfg rec 129 args H = wef rec 129 H (wod Try.prog H 20 args) (cfg.know 129)) ∧ (∀ (rec : Rec) (args : List Value) (H : AH), callS Try.prog cfg rec 130 args H = wef rec 130 H (wod Try.prog H 20 args) (cfg.know 130)) ∧ (∀ (rec : Rec) (args : List Value) (H : AH), callS Try.prog cfg rec 131 args H = wef rec 131 H (wod Try.prog H 20 args) (cfg.know 131)) ∧ (∀ (rec : Rec) (args : List Value) (H : AH), callS Try.prog cfg rec 132 args H = wef rec 132 H (wod Try.prog H 20 args) (cfg.know 132)) ∧ (∀ (rec : Rec) (args : List Value) (H : AH), callS Try.prog cfg rec 133 args H = wef rec 133 H (wod Try.prog H 20 args) (cfg.know 133)) ∧ (∀ (rec : Rec) (args : List Value) (H : AH), callS Try.prog cfg rec 134 args H = wef rec 134 H (wod Try.prog H 20 args) (cfg.know 134)) ∧ (∀ (rec : Rec) (args : List Value) (H : AH), callS Try.prog cfg rec 135 args H = wef rec 135 H (wod Try.prog H 20 args) (cfg.know 135)) ∧ (∀ (rec : Rec) (args : List Value) (H : AH), callS Try.prog cfg rec 136 args H = wef rec 136 H (wod Try.prog H 20 args) (cfg.know 136)) ∧ (∀ (rec : Rec) (args : List Value) (H : AH), callS Try.prog cfg rec 144 args H = wef rec 144 H (wod Try.prog H 20 args) (cfg.know 144)) ∧ (∀ (rec : Rec) (args : List Value) (H : AH), callS Try.prog cfg rec 145 args H = wef rec 145 H (wod Try.prog H 20 args) (cfg.know 145)) ∧ (∀ (rec : Rec) (args : List Value) (H : AH), callS Try.prog cfg rec 163 args H = wef rec 163 H (wod Try.prog H 20 args) (cfg.know 163)) ∧ (∀ (rec : Rec) (args : List Value) (H : AH), callS Try.prog cfg rec 164 args H = wef rec 164 H (wod Try.prog H 20 args) (cfg.know 164)) ∧ (∀ (rec : Rec) (args : List Value) (H : AH), callS Try.prog cfg rec 165 args H = wef rec 165 H (wod Try.prog H 20 args) (cfg.know 165)) ∧ (∀ (rec : Rec) (args : List Value) (H : AH), callS Try.prog cfg rec 172 args H = wef rec 172 H (wod Try.prog H 20 args) (cfg.know 172)) ∧ (∀ (rec : Rec) (args : List Value) (H : AH), callS Try.prog cfg rec 173 args H = wef rec 173 H (wod Try.prog H 20 args) (cfg.know 173)) := ⟨fun _ _ _ => rfl, fun _ _ _ => rfl, fun _ _ _ => rfl, fun _ _ _ => rfl, fun _ _ _ => rfl, fun _ _ _ => rfl, fun _ _ _ => rfl, fun _ _ _ => rfl, fun _ _ _ => rfl, fun _ _ _ => rfl, fun _ _ _ => rfl, fun _ _ _ => rfl, fun _ _ _ => rfl, fun _ _ _ => rfl, fun _ _ _ => rfl, fun _ _ _ => rfl, fun _ _ _ => rfl, fun _ _ _ => rfl, fun _ _ _ => rfl, fun _ _ _ => rfl, fun _ _ _ => rfl, fun _ _ _ => rfl, fun _ _ _ => rfl, fun _ _ _ => rfl, fun _ _ _ => rfl, fun _ _ _ => rfl, fun _ _ _ => rfl, fun _ _ _ => rfl, fun _ _ _ => rfl, fun _ _ _ => rfl, fun _ _ _ => rfl, fun _ _ _ => rfl, fun _ _ _ => rfl, fun _ _ _ => rfl, fun _ _ _ => rfl, fun _ _ _ => rfl, fun _ _ _ => rfl, fun _ _ _ => rfl, fun _ _ _ => rfl, fun _ _ _ => rfl, fun _ _ _ => rfl, fun _ _ _ => rfl, fun _ _ _ => rfl, fun _ _ _ => rfl, fun _ _ _ => rfl, fun _ _ _ => rfl⟩
def G0 : (Nat → Option (List Value)) × Bool := (fun _ => none, true)
theorem g0_K : G0.2 = true := rfl
def G1 : (Nat → Option (List Value)) × Bool := (fun _ => none, false)
theorem g1_K : G1.2 = false := rfl
theorem g_K : (cfg.glob, cfg.own 13) = G0 ∧ (cfg.glob, cfg.own 15) = G0 ∧ (cfg.glob, cfg.own 26) = G0 ∧ (cfg.glob, cfg.own 36) = G0 ∧ (cfg.glob, cfg.own 37) = G1 ∧ (cfg.glob, cfg.own 38) = G0 ∧ (cfg.glob, cfg.own 46) = G0 ∧ (cfg.glob, cfg.own 52) = G0 ∧ (cfg.glob, cfg.own 69) = G0 ∧ (cfg.glob, cfg.own 74) = G0 ∧ (cfg.glob, cfg.own 75) = G0 ∧ (cfg.glob, cfg.own 76) = G1 ∧ (cfg.glob, cfg.own 77) = G1 ∧ (cfg.glob, cfg.own 86) = G0 ∧ (cfg.glob, cfg.own 96) = G0 ∧ (cfg.glob, cfg.own 97) = G0 ∧ (cfg.glob, cfg.own 101) = G0 ∧ (cfg.glob, cfg.own 102) = G0 ∧ (cfg.glob, cfg.own 103) = G0 ∧ (cfg.glob, cfg.own 104) = G0 ∧ (cfg.glob, cfg.own 105) = G0 ∧ (cfg.glob, cfg.own 106) = G1 ∧ (cfg.glob, cfg.own 107) = G0 ∧ (cfg.glob, cfg.own 114) = G0 ∧ (cfg.glob, cfg.own 115) = G0 ∧ (cfg.glob, cfg.own 125) = G0 ∧ (cfg.glob, cfg.own 126) = G1 ∧ (cfg.glob, cfg.own 132) = G0 ∧ (cfg.glob, cfg.own 136) = G0 ∧ (cfg.glob, cfg.own 144) = G0 ∧ (cfg.glob, cfg.own 145) = G0 ∧ (cfg.glob, cfg.own 163) = G0 ∧ (cfg.glob, cfg.own 164) = G0 ∧ (cfg.glob, cfg.own 165) = G0 ∧ (cfg.glob, cfg.own 172) = G0 ∧ (cfg.glob, cfg.own 173) = G0 := ⟨rfl, rfl, rfl, rfl, rfl, rfl, rfl, rfl, rfl, rfl, rfl, rfl, rfl, rfl, rfl, rfl, rfl, rfl, rfl, rfl, rfl, rfl, rfl, rfl, rfl, rfl, rfl, rfl, rfl, rfl, rfl, rfl, rfl, rfl, rfl, rfl⟩
theorem kn_K : cfg.know 15 = none ∧ cfg.know 26 = none ∧ cfg.know 36 = none ∧ cfg.know 37 = none ∧ cfg.know 38 = none ∧ cfg.know 46 = none ∧ cfg.know 52 = none ∧ cfg.know 69 = none ∧ cfg.know 74 = none ∧ cfg.know 75 = none ∧ cfg.know 76 = none ∧ cfg.know 77 = none ∧ cfg.know 86 = none ∧ cfg.know 96 = none ∧ cfg.know 97 = none ∧ cfg.know 101 = none ∧ cfg.know 102 = none ∧ cfg.know 103 = none ∧ cfg.know 104 = none ∧ cfg.know 105 = none ∧ cfg.know 106 = none ∧ cfg.know 107 = none ∧ cfg.know 114 = none ∧ cfg.know 115 = none ∧ cfg.know 125 = none ∧ cfg.know 126 = none ∧ cfg.know 127 = none ∧ cfg.know 128 = none ∧ cfg.know 129 = none ∧ cfg.know 130 = none ∧ cfg.know 131 = none ∧ cfg.know 132 = none ∧ cfg.know 133 = none ∧ cfg.know 134 = none ∧ cfg.know 135 = none ∧ cfg.know 136 = none ∧ cfg.know 144 = none ∧ cfg.know 145 = none ∧ cfg.know 163 = none ∧ cfg.know 165 = none ∧ cfg.know 172 = none ∧ cfg.know 173 = none := ⟨rfl, rfl, rfl, rfl, rfl, rfl, rfl, rfl, rfl, rfl, rfl, rfl, rfl, rfl, rfl, rfl, rfl, rfl, rfl, rfl, rfl, rfl, rfl, rfl, rfl, rfl, rfl, rfl, rfl, rfl, rfl, rfl, rfl, rfl, rfl, rfl, rfl, rfl, rfl, rfl, rfl, rfl⟩
theorem kw_K : (∀ (rec : Rec) (H : AH) (fr : Frs), wef rec 45 H (some ([], fr)) (cfg.know 45) = .did (.bool true) none true (raise H fr) (wln fr)) ∧ (∀ (rec : Rec) (H : AH) (fr : Frs), wef rec 35 H (some ([str [92, 40, 46, 42, 92, 41, 92, 49], .bool false], fr)) (cfg.know 35) = .did (.tuple ⟨[.agg ⟨rxC wzn⟩, .int .i64 0, .int .i64 0]⟩) none true (raise H fr) (wln fr)) ∧ (∀ (rec : Rec) (H : AH) (fr : Frs), wef rec 35 H (some ([str [40, 97, 124, 92, 49, 98, 41, 42, 99], .bool true], fr)) (cfg.know 35) = .did (.tuple ⟨[.agg ⟨rxC rxQ⟩, .int .i64 0, .int .i64 0]⟩) none true (raise H fr) (wln fr)) := ⟨fun _ _ _ => by kernel_rfl, fun _ _ _ => by kernel_rfl, fun _ _ _ => by kernel_rfl⟩
theorem tsz_K : tsz Try.prog 3 = 1 ∧ tsz Try.prog 5 = 1 ∧ tsz Try.prog 87 = 9 := ⟨by kernel_rfl, by kernel_rfl, by kernel_rfl⟩
theorem raw_K : (cfg.raw 13).2 = false ∧ (cfg.raw 15).2 = false ∧ (cfg.raw 26).2 = false ∧ (cfg.raw 36).2 = false ∧ (cfg.raw 37).2 = false ∧ (cfg.raw 38).2 = false ∧ (cfg.raw 46).2 = false ∧ (cfg.raw 52).2 = false ∧ (cfg.raw 69).2 = false ∧ (cfg.raw 74).2 = false ∧ (cfg.raw 75).2 = false ∧ (cfg.raw 76).2 = false ∧ (cfg.raw 77).2 = false ∧ (cfg.raw 86).2 = false ∧ (cfg.raw 96).2 = false ∧ (cfg.raw 97).2 = false ∧ (cfg.raw 101).2 = false ∧ (cfg.raw 102).2 = false ∧ (cfg.raw 103).2 = false ∧ (cfg.raw 104).2 = false ∧ (cfg.raw 105).2 = false ∧ (cfg.raw 106).2 = false ∧ (cfg.raw 107).2 = false ∧ (cfg.raw 114).2 = false ∧ (cfg.raw 115).2 = false ∧ (cfg.raw 125).2 = false ∧ (cfg.raw 126).2 = false ∧ (cfg.raw 132).2 = false ∧ (cfg.raw 136).2 = false ∧ (cfg.raw 144).2 = false ∧ (cfg.raw 145).2 = false ∧ (cfg.raw 163).2 = false ∧ (cfg.raw 164).2 = false ∧ (cfg.raw 165).2 = false ∧ (cfg.raw 172).2 = false ∧ (cfg.raw 173).2 = false := ⟨rfl, rfl, rfl, rfl, rfl, rfl, rfl, rfl, rfl, rfl, rfl, rfl, rfl, rfl, rfl, rfl, rfl, rfl, rfl, rfl, rfl, rfl, rfl, rfl, rfl, rfl, rfl, rfl, rfl, rfl, rfl, rfl, rfl, rfl, rfl, rfl⟩
theorem kK : type_of% @raw_K ∧ (type_of% @wzcc ∧ type_of% @g_K) ∧ ((type_of% @g0_K ∧ type_of% @g1_K) ∧ type_of% @tsz_K) ∧ (type_of% @kn_K ∧ type_of% @kw_K) := ⟨@raw_K, ⟨@wzcc, @g_K⟩, ⟨⟨@g0_K, @g1_K⟩, @tsz_K⟩, ⟨@kn_K, @kw_K⟩⟩
theorem wre : cfg.live 13 (wpd (wwc 0)) = some ([5, 6, 9, 10, 11], [5, 6, 9, 10], 999999) := by kernel_rfl
theorem wli : cfg.live 13 (wpd (wwc 1)) = some ([5, 6, 9, 10, 66, 67, 68], [4, 5, 6, 9, 10], 999999) := by kernel_rfl
theorem wci : cfg.live 26 (wpd (wxi 0)) = some ([0, 1, 5, 6], [5], 999999) := by kernel_rfl
theorem wyi : cfg.live 37 (wpd (wwk 0)) = some ([9, 16, 17, 18], [9], 999999) := by kernel_rfl
theorem wxo : cfg.live 38 (wpd (wro 0)) = some ([0, 1, 3], [0, 1], 999999) := by kernel_rfl
theorem wdi : cfg.live 46 (wpd (wch 0)) = some ([0, 1, 5], [4], 999999) := by kernel_rfl
theorem wyo : cfg.live 74 (wpd (wto 0)) = some ([3, 7, 8, 9], [3], 999999) := by kernel_rfl
theorem wzf : cfg.live 75 (wpd (wvb 0)) = some ([4, 5, 8, 80, 81, 82], [8], 999999) := by kernel_rfl
theorem waf : cfg.live 75 (wpd (wvb 1)) = some ([3, 5, 11, 108, 109, 110], [11], 999999) := by kernel_rfl
theorem wag : cfg.live 75 (wpd (wvb 2)) = some ([3, 7, 128, 129, 130], [7], 999999) := by kernel_rfl
theorem wqg : cfg.live 77 (wpd (wte 0)) = some ([0, 3], [0, 2], 999999) := by kernel_rfl
theorem wtb : cfg.live 97 (wpd (wwi 0)) = some ([0, 2, 77, 78, 79], [6], 999999) := by kernel_rfl
theorem wqd : cfg.live 103 (wpd (wfh 0)) = some ([0, 6, 7, 8], [], 999999) := by kernel_rfl
theorem wbf : cfg.live 104 (wpd (whi 0)) = some ([3, 4, 7, 11, 12, 13], [7], 999999) := by kernel_rfl
theorem wz : cfg.live 105 (wpd (wyf 0)) = some ([0, 1, 5, 52, 53, 54], [0, 1, 5], 999999) := by kernel_rfl
theorem wee : cfg.live 106 (wpd (wud 0)) = some ([0, 1, 2, 3, 8, 9], [], 999999) := by kernel_rfl
theorem wdc : cfg.live 126 (wpd (whb 0)) = some ([0, 1, 2, 6], [], 999999) := by kernel_rfl
theorem wbd : cfg.live 126 (wpd (whb 1)) = some ([0, 1, 2, 6, 7], [0, 1, 2, 6], 999999) := by kernel_rfl
theorem wub : cfg.live 172 (wpd (wtd 0)) = some ([0, 1, 7, 8], [4], 999999) := by kernel_rfl
theorem wrd : cfg.live 173 (wpd (wfg 0)) = some ([0, 1, 7, 8], [4], 999999) := by kernel_rfl
end
end Go.Proofs.Ytgpabbbibmnnlaa
namespace Go.Proofs.Ytgpabbbibmnnlaa
set_option linter.unusedVariables false
set_option linter.unusedSimpArgs false
open Go.Den
noncomputable section
def wxk (n lo hi : Int) : Int := if n.tmod (hi - lo + 1) < 0 then lo + (n.tmod (hi - lo + 1) + hi - lo + 1) else lo + n.tmod (hi - lo + 1)
theorem waib (n lo hi : Int) (h1 : -1000000 ≤ lo) (h2 : lo ≤ hi) (h3 : hi ≤ 1000000) : lim Try.prog cfg (.call 15 [.int .i64 n, .int .i64 lo, .int .i64 hi]) (HP []) = some (.val (.int .i64 (wxk n lo hi)), HP []) := by
  refine wrb hc wop (Nat.le_of_ble_eq_true rfl) (Nat.le_of_ble_eq_true rfl) ?_
  unfold wrm wxk
  have hb : -(hi - lo + 1) < n.tmod (hi - lo + 1) ∧ n.tmod (hi - lo + 1) < hi - lo + 1 := by
    have := Int.emod_nonneg n (show hi - lo + 1 ≠ 0 by omega)
    have h5 := Int.emod_lt_of_pos n (show 0 < hi - lo + 1 by omega)
    rw [Int.tmod_eq_emod]
    split <;> omega
  (repeat' (first | (simp -implicitDefEqProofs (maxSteps := 2000000) (disch := first | with_reducible assumption | omega | (simp only [zS, zA, seval] <;> omega) | fail) only [zS, argl, insA, Go.Den.wh, wo, ww, looks, wbb, wab, idOf, riA, seval, Go.Den.wm, kK, *]) | (with_reducible (first | apply z1 | apply z2 | apply z3 | apply z4) <;> intro hq <;> (try simp only [zH] at hq) <;> (try (exfalso; omega)))))
def wip : Mt := ⟨[-1, -1, -1, -1, -1, -1, -1, -1], rfl⟩
theorem wbib (m : Mt) (i j : Nat) (a : Int) : (m.put i a).at j = if i = j ∧ j < 8 then a else m.at j := by
  rw [Mt.at, Mt.at, Mt.put, List.getD_eq_getElem?_getD, List.getD_eq_getElem?_getD, List.getElem?_set, m.2]
  by_cases h1 : i = j
  · subst h1
    by_cases h2 : i < 8
    · simp [h2]
    · have h3 := m.2
      simp [h2]
      rw [List.getElem?_eq_none (by omega)]
      rfl
  · simp [h1]
theorem wadc (z : List Value) : ∀ (k i : Nat) (m : Mt), i + k = 4 → (∀ j, j < 2 * i → m.at j = -1) →
    lim Try.prog cfg (.loop 38 0 (wro 0) (SE (EJ 11 G0) [(3, .int .i64 i), (1, .pointer (some ⟨1, 0, none⟩)), (0, .pointer (some ⟨0, 0, none⟩))])) (HP [X z 53 0 true, X (mtC m) 53 0 true]) = some (.code (.exit 0) (SE (EJ 11 G0) [(1, .pointer (some ⟨1, 0, none⟩)), (0, .pointer (some ⟨0, 0, none⟩))]), HP [X z 53 0 true, X (mtC wip) 53 0 true]) := by
  intro k
  induction k with
  | zero =>
    intro i m hi hm
    have : m = wip := by
      apply Subtype.ext
      apply List.ext_getElem (by rw [m.2]; rfl)
      intro j h1 h2
      have h3 := hm j (by rw [m.2] at h1; omega)
      rw [Mt.at, List.getD_eq_getElem?_getD, List.getElem?_eq_getElem h1] at h3
      have h4 : wip.1[j] = -1 := by
        have : ∀ x ∈ wip.1, x = -1 := by decide
        exact this _ (List.getElem_mem h2)
      rw [h4]
      exact h3
    subst this
    refine wfb wbp ?_
    unfold wso
    (repeat' (first | (simp -implicitDefEqProofs (maxSteps := 2000000) (disch := first | with_reducible assumption | omega | (simp only [zS, zA, seval, zD] <;> omega) | fail) only [zS, argl, insA, Go.Den.wh, wo, ww, looks, wbb, wab, idOf, riA, seval, Go.Den.wm, kK, wxo, *, zT]) | (with_reducible (first | apply z1 | apply z2 | apply z3 | apply z4) <;> intro hq <;> (try simp only [zH] at hq) <;> (try (exfalso; omega)))))
  | succ k ih =>
    intro i m hi hm
    refine wfb wbp ?_
    unfold wso
    (repeat' (first | (simp -implicitDefEqProofs (maxSteps := 2000000) (disch := first | with_reducible assumption | omega | (simp only [zS, zA, seval, zD] <;> omega) | fail) only [zS, argl, insA, Go.Den.wh, wo, ww, looks, wbb, wab, idOf, riA, seval, Go.Den.wm, kK, wxo, *, zT]) | (with_reducible (first | apply z1 | apply z2 | apply z3 | apply z4) <;> intro hq <;> (try simp only [zH] at hq) <;> (try (exfalso; omega)))))
    refine ih (i + 1) _ (by omega) fun j hj => ?_
    rw [wbib, wbib]
    split
    · rfl
    · split
      · rfl
      · exact hm j (by omega)
theorem ev_None : lim Try.prog cfg (.call 38 []) (HP []) = some (.val (.agg ⟨mtC wip⟩), HP []) := by
  refine wrb hc wyz (Nat.le_of_ble_eq_true rfl) (Nat.le_of_ble_eq_true rfl) ?_
  unfold wsy
  have h := wadc (mtC Mt.zero) 4 0 Mt.zero rfl (fun j hj => by omega)
  rw [show ((0 : Nat) : Int) = 0 from rfl, show mtC Mt.zero = [.int .i64 0, .int .i64 0, .int .i64 0, .int .i64 0, .int .i64 0, .int .i64 0, .int .i64 0, .int .i64 0] from rfl] at h
  (repeat' (first | (simp -implicitDefEqProofs (maxSteps := 2000000) (disch := first | with_reducible assumption | omega | (simp only [zS, zA, seval, zD] <;> omega) | fail) only [zS, argl, insA, Go.Den.wh, wo, ww, looks, wbb, wab, idOf, riA, seval, Go.Den.wm, kK, wxo, h, *, zT]) | (with_reducible (first | apply z1 | apply z2 | apply z3 | apply z4) <;> intro hq <;> (try simp only [zH] at hq) <;> (try (exfalso; omega)))))
theorem ev_Has (s : BitVec 256) (x : Nat) (hx : x < 256) : lim Try.prog cfg (.call 52 [.agg ⟨setC s⟩, .int .u8 x]) (HP []) = some (.val (.bool (s.getLsbD x)), HP []) := by
  refine wrb hc wcab (Nat.le_of_ble_eq_true rfl) (Nat.le_of_ble_eq_true rfl) ?_
  unfold wwy
  have h1 : BitVec.ofInt (IntKind.bits .u64) 1 = BitVec.ofInt (IntKind.bits .u64) (((1#64).toNat : Nat) : Int) := rfl
  (repeat' (first | (simp -implicitDefEqProofs (maxSteps := 2000000) (disch := first | with_reducible assumption | omega | (simp only [zS, zA, seval, zD] <;> omega) | fail) only [zS, argl, insA, Go.Den.wh, wo, ww, looks, wbb, wab, idOf, riA, seval, Go.Den.wm, kK, setC_get, shr_u64, h1, and_u64, bit_one, *, zT]) | (with_reducible (first | apply z1 | apply z2 | apply z3 | apply z4) <;> intro hq <;> (try simp only [zH] at hq) <;> (try (exfalso; omega)))))
  have e1 : ((x : Int) / 64).toNat = x / 64 := by omega
  have e2 : ((x : Int) % 64).toNat = x % 64 := by omega
  rw [e1, e2, has_bit s x hx]
end
end Go.Proofs.Ytgpabbbibmnnlaa
namespace Go.Den
noncomputable section
variable {P : Program}
end
end Go.Den
namespace Go.Den
noncomputable section
end
end Go.Den
namespace Go.Den
noncomputable section
variable {P : Program}
end
end Go.Den
namespace Go.Proofs.Ytgpabbbibmnnlaa
set_option linter.unusedVariables false
set_option linter.unusedSimpArgs false
open Go.Den
noncomputable section
end
end Go.Proofs.Ytgpabbbibmnnlaa
namespace Go.Den
noncomputable section
def addF : List St → List St → List St
  | l, [] => l
  | l, x :: xs => addF (if x ∈ l then l else l ++ [x]) xs
theorem wheb {l : List St} : addF l [] = l := rfl
theorem wnl {l xs : List St} {x : St} : addF l (x :: xs) = addF (if x ∈ l then l else l ++ [x]) xs := rfl
theorem wieb {y : St} : ∀ (xs l : List St), y ∈ addF l xs ↔ y ∈ l ∨ y ∈ xs := by
  intro xs
  induction xs with
  | nil => intro l; simp [addF]
  | cons x xs ih =>
    intro l
    rw [wnl, ih]
    by_cases h : x ∈ l
    · rw [if_pos h]
      constructor
      · rintro (h1 | h1)
        · exact .inl h1
        · exact .inr (List.mem_cons_of_mem _ h1)
      · rintro (h1 | h1)
        · exact .inl h1
        · rcases List.mem_cons.1 h1 with rfl | h1
          · exact .inl h
          · exact .inr h1
    · rw [if_neg h]
      simp only [List.mem_append, List.mem_cons, List.not_mem_nil, or_false]
      constructor
      · rintro ((h1 | h1) | h1)
        · exact .inl h1
        · exact .inr (.inl h1)
        · exact .inr (.inr h1)
      · rintro (h1 | h1 | h1)
        · exact .inl (.inl h1)
        · exact .inl (.inr h1)
        · exact .inr h1
theorem wstb : ∀ (xs l : List St), l.Nodup → (addF l xs).Nodup := by
  intro xs
  induction xs with
  | nil => intro l h; exact h
  | cons x xs ih =>
    intro l h
    rw [wnl]
    by_cases hx : x ∈ l
    · rw [if_pos hx]; exact ih l h
    · rw [if_neg hx]
      refine ih _ ?_
      rw [List.nodup_append]
      refine ⟨h, by simp, ?_⟩
      intro a ha b hb
      rw [List.mem_singleton] at hb
      subst hb
      intro hab
      subst hab
      exact hx ha
theorem wpob : ∀ (xs l : List St), l.length ≤ (addF l xs).length := by
  intro xs
  induction xs with
  | nil => intro l; exact Nat.le_refl _
  | cons x xs ih =>
    intro l
    rw [wnl]
    refine Nat.le_trans ?_ (ih _)
    split
    · exact Nat.le_refl _
    · simp
theorem wxj {l xs : List St} (h : l ≠ [] ∨ xs ≠ []) : addF l xs ≠ [] := by
  intro he
  rcases h with h | h
  · obtain ⟨a, ha⟩ := List.exists_mem_of_ne_nil l h
    have := (wieb xs l).2 (.inl ha)
    rw [he] at this; cases this
  · obtain ⟨a, ha⟩ := List.exists_mem_of_ne_nil xs h
    have := (wieb xs l).2 (.inr ha)
    rw [he] at this; cases this
def keyF (mn mx n : Int) (x : St) : Int × St := (if mx < 0 then min n mn else n, x)
def onF (w : St → List St) (mn mx : Int) : Nat → Int → St → List (Int × St) × List St → List (Int × St) × List St
  | 0, _, _, a => a
  | k + 1, n, x, a =>
    if keyF mn mx n x ∈ a.1 then a
    else
      let b := if mx < 0 ∨ n < mx then (w x).foldl (fun b y => if y.1 ≠ x.1 ∨ n < mn then onF w mn mx k (n + 1) y b else b) (a.1 ++ [keyF mn mx n x], a.2) else (a.1 ++ [keyF mn mx n x], a.2)
      if n ≥ mn then (b.1, addF b.2 [x]) else b
def weab (s : List UInt8) (n : Int) (x : St) : List St :=
  if x.2.at (n.toNat * 2) < 0 then []
  else if x.2.at (n.toNat * 2 + 1) - x.2.at (n.toNat * 2) > s.length - x.1 then []
  else if (s.take (x.2.at (n.toNat * 2 + 1)).toNat).drop (x.2.at (n.toNat * 2)).toNat ≠ (s.take (x.1 + (x.2.at (n.toNat * 2 + 1) - x.2.at (n.toNat * 2))).toNat).drop x.1.toNat then []
  else [(x.1 + (x.2.at (n.toNat * 2 + 1) - x.2.at (n.toNat * 2)), x.2)]
def wjeb (w : St → List St) (l : List St) : List St := l.foldl (fun out y => addF out (w y)) []
def wbdc (n : Int) (x : St) (l : List St) : List St := l.foldl (fun out y => addF out [(y.1, (y.2.put (n.toNat * 2) x.1).put (n.toNat * 2 + 1) y.1)]) []
mutual
def wih (s : List UInt8) (bol : Bool) : Rx → St → List St
  | .mk k mn mx n set kids, x =>
    if k = 1 then (if x.1 < s.length ∧ set.getLsbD (s.getD x.1.toNat 0).toNat = true then [(x.1 + 1, x.2)] else [])
    else if k = 7 then (if x.1 = 0 ∧ bol = true then [x] else [])
    else if k = 8 then (if x.1 = s.length then [x] else [])
    else if k = 6 then weab s n x
    else if k = 5 then wbdc n x (kidF s bol kids x)
    else if k = 3 then altF s bol kids x []
    else if k = 2 then catF s bol kids [x]
    else if k = 4 then (onF (fun y => kidF s bol kids y) mn mx 100 0 x ([], [])).2
    else []
def kidF (s : List UInt8) (bol : Bool) : List Rx → St → List St
  | [], _ => []
  | r :: _, x => wih s bol r x
def altF (s : List UInt8) (bol : Bool) : List Rx → St → List St → List St
  | [], _, out => out
  | r :: rs, x, out => altF s bol rs x (addF out (wih s bol r x))
def catF (s : List UInt8) (bol : Bool) : List Rx → List St → List St
  | [], l => l
  | r :: rs, l => catF s bol rs (wjeb (fun y => wih s bol r y) l)
end
mutual
def okR : Rx → Bool
  | .mk k mn mx n _ kids =>
    (if k = 5 then decide (kids ≠ []) && (decide (1 ≤ n) && decide (n ≤ 3)) else if k = 4 then decide (kids ≠ []) && (decide (0 ≤ mn) && (decide (mn ≤ 20) && (decide (-1 ≤ mx) && decide (mx ≤ 20)))) else if k = 6 then decide (1 ≤ n) && decide (n ≤ 3) else true) && okRs kids
def okRs : List Rx → Bool
  | [] => true
  | r :: rs => okR r && okRs rs
end
def wcdc (len : Nat) (a b : Int) : Prop := (a = -1 ∧ b = -1) ∨ (0 ≤ a ∧ a ≤ b ∧ b ≤ len)
structure GdS (len : Nat) (x : St) : Prop where
  lo : 0 ≤ x.1
  hi : x.1 ≤ len
  m0 : x.2.at 0 = -1
  m1 : x.2.at 1 = -1
  sp : ∀ g : Nat, 1 ≤ g → g ≤ 3 → wcdc len (x.2.at (g * 2)) (x.2.at (g * 2 + 1))
theorem Mt.at_put (m : Mt) (i j : Nat) (a : Int) : (m.put i a).at j = if i = j ∧ j < 8 then a else m.at j := by
  rw [Mt.at, Mt.at, Mt.put, List.getD_eq_getElem?_getD, List.getD_eq_getElem?_getD, List.getElem?_set, m.2]
  by_cases h1 : i = j
  · subst h1
    by_cases h2 : i < 8
    · simp [h2]
    · have h3 := m.2
      simp [h2]
      rw [List.getElem?_eq_none (by omega)]
      rfl
  · simp [h1]
theorem GdS.move {len : Nat} {x : St} (h : GdS len x) {a : Int} (h1 : 0 ≤ a) (h2 : a ≤ len) : GdS len (a, x.2) := ⟨h1, h2, h.m0, h.m1, h.sp⟩
theorem GdS.group {len : Nat} {x y : St} (hx : GdS len x) (hy : GdS len y) (hxy : x.1 ≤ y.1) {n : Int} (n1 : 1 ≤ n) (n3 : n ≤ 3) : GdS len (y.1, (y.2.put (n.toNat * 2) x.1).put (n.toNat * 2 + 1) y.1) := by
  refine ⟨hy.lo, hy.hi, ?_, ?_, fun g g1 g3 => ?_⟩
  · show Mt.at _ 0 = -1
    rw [Mt.at_put, if_neg (by omega), Mt.at_put, if_neg (by omega)]; exact hy.m0
  · show Mt.at _ 1 = -1
    rw [Mt.at_put, if_neg (by omega), Mt.at_put, if_neg (by omega)]; exact hy.m1
  · show wcdc len (Mt.at _ (g * 2)) (Mt.at _ (g * 2 + 1))
    rw [Mt.at_put, Mt.at_put, Mt.at_put, Mt.at_put]
    by_cases h : n.toNat = g
    · rw [if_neg (by omega), if_pos (by omega), if_pos (by omega)]
      exact .inr ⟨hx.lo, hxy, hy.hi⟩
    · rw [if_neg (by omega), if_neg (by omega), if_neg (by omega), if_neg (by omega)]
      exact hy.sp g g1 g3
structure RwS (len : Nat) (at0 : Int) (l : List St) : Prop where
  nd : l.Nodup
  good : ∀ y ∈ l, GdS len y ∧ at0 ≤ y.1
theorem RwS.nil {len : Nat} {a : Int} : RwS len a [] := ⟨List.nodup_nil, fun y h => (by cases h)⟩
theorem RwS.one {len : Nat} {a : Int} {x : St} (h : GdS len x) (ha : a ≤ x.1) : RwS len a [x] := ⟨by simp, fun y hy => by rw [List.mem_singleton] at hy; subst hy; exact ⟨h, ha⟩⟩
theorem RwS.add {len : Nat} {a : Int} {l xs : List St} (h : RwS len a l) (hx : ∀ y ∈ xs, GdS len y ∧ a ≤ y.1) : RwS len a (addF l xs) :=
  ⟨wstb _ _ h.nd, fun y hy => by rcases (wieb _ _).1 hy with h1 | h1; exact h.good y h1; exact hx y h1⟩
theorem RwS.fold {len : Nat} {a : Int} {α : Type} (f : α → List St) : ∀ (l : List α), (∀ z ∈ l, ∀ y ∈ f z, GdS len y ∧ a ≤ y.1) → ∀ out, RwS len a out → RwS len a (l.foldl (fun out z => addF out (f z)) out) := by
  intro l
  induction l with
  | nil => intro _ out h; exact h
  | cons z l ih =>
    intro hf out h
    exact ih (fun z' hz' => hf z' (List.mem_cons_of_mem _ hz')) _ (h.add (hf z (List.mem_cons_self ..)))
theorem wcib {len : Nat} {a0 : Int} {w : St → List St} {mn mx : Int} (hw : ∀ x, GdS len x → a0 ≤ x.1 → RwS len x.1 (w x)) : ∀ (k : Nat) (n : Int) (x : St) (a : List (Int × St) × List St), GdS len x → a0 ≤ x.1 → RwS len a0 a.2 → RwS len a0 (onF w mn mx k n x a).2 := by
  intro k
  induction k with
  | zero => intro n x a _ _ h; exact h
  | succ k ih =>
    intro n x a hx hxa h
    have hf : ∀ (l : List St), (∀ y ∈ l, GdS len y ∧ x.1 ≤ y.1) → ∀ b : List (Int × St) × List St, RwS len a0 b.2 → RwS len a0 (l.foldl (fun b y => if y.1 ≠ x.1 ∨ n < mn then onF w mn mx k (n + 1) y b else b) b).2 := by
      intro l
      induction l with
      | nil => intro _ b hb; exact hb
      | cons y l ih2 =>
        intro hl b hb
        have hy := hl y (List.mem_cons_self ..)
        refine ih2 (fun z hz => hl z (List.mem_cons_of_mem _ hz)) _ ?_
        show RwS len a0 (if y.1 ≠ x.1 ∨ n < mn then onF w mn mx k (n + 1) y b else b).2
        split
        · exact ih _ _ _ hy.1 (by omega) hb
        · exact hb
    unfold onF
    split
    · exact h
    · simp only
      have hb : RwS len a0 (if mx < 0 ∨ n < mx then (w x).foldl (fun b y => if y.1 ≠ x.1 ∨ n < mn then onF w mn mx k (n + 1) y b else b) (a.1 ++ [keyF mn mx n x], a.2) else (a.1 ++ [keyF mn mx n x], a.2)).2 := by
        split
        · exact hf (w x) (hw x hx hxa).good _ h
        · exact h
      split
      · exact hb.add (fun y hy => by rw [List.mem_singleton] at hy; subst hy; exact ⟨hx, hxa⟩)
      · exact hb
theorem back_row {len : Nat} {s : List UInt8} (hs : s.length = len) {n : Int} (n1 : 1 ≤ n) (n3 : n ≤ 3) {x : St} (hx : GdS len x) : RwS len x.1 (weab s n x) := by
  unfold weab
  split
  · exact .nil
  rename_i h0
  split
  · exact .nil
  rename_i h1
  split
  · exact .nil
  have h := hx.sp n.toNat (by omega) (by omega)
  have hlo := hx.lo
  have hhi := hx.hi
  rcases h with h | h
  · omega
  · exact .one (hx.move (by omega) (by omega)) (by show x.1 ≤ x.1 + _; omega)
theorem wqob {len : Nat} {s : List UInt8} (hs : s.length = len) {bol : Bool} : ∀ (r : Rx), okR r = true → ∀ x, GdS len x → RwS len x.1 (wih s bol r x) := by
  refine Rx.rec (motive_1 := fun r => okR r = true → ∀ x, GdS len x → RwS len x.1 (wih s bol r x))
    (motive_2 := fun kids => okRs kids = true → (∀ r ∈ kids, ∀ x, GdS len x → RwS len x.1 (wih s bol r x))) ?_ ?_ ?_
  · intro k mn mx n set kids ih hok x hx
    rw [okR, Bool.and_eq_true] at hok
    have hk := ih hok.2
    have kid : kids ≠ [] → ∀ y, GdS len y → RwS len y.1 (kidF s bol kids y) := by
      intro hne y hy
      cases kids with
      | nil => exact absurd rfl hne
      | cons r rs => rw [kidF]; exact hk r (List.mem_cons_self ..) y hy
    rw [wih]
    have hlo := hx.lo
    split
    · split
      · rename_i h; exact .one (hx.move (by omega) (by omega)) (by show x.1 ≤ x.1 + 1; omega)
      · exact .nil
    split
    · split
      · exact .one hx (Int.le_refl _)
      · exact .nil
    split
    · split
      · exact .one hx (Int.le_refl _)
      · exact .nil
    split
    · rename_i h6
      have h := hok.1
      rw [if_neg (by omega), if_neg (by omega), if_pos h6] at h
      simp only [Bool.and_eq_true, decide_eq_true_eq] at h
      exact back_row hs h.1 h.2 hx
    split
    · rename_i h5
      have h := hok.1
      rw [if_pos h5] at h
      simp only [Bool.and_eq_true, decide_eq_true_eq] at h
      refine RwS.fold (fun y : St => [(y.1, (y.2.put (n.toNat * 2) x.1).put (n.toNat * 2 + 1) y.1)]) _ (fun z hz y hy => ?_) _ .nil
      rw [List.mem_singleton] at hy
      subst hy
      have hz := (kid h.1 x hx).good z hz
      exact ⟨hx.group hz.1 hz.2 h.2.1 h.2.2, hz.2⟩
    split
    · have alt : ∀ (l : List Rx), (∀ r ∈ l, ∀ x, GdS len x → RwS len x.1 (wih s bol r x)) → ∀ out, RwS len x.1 out → RwS len x.1 (altF s bol l x out) := by
        intro l
        induction l with
        | nil => intro _ out h; rw [altF]; exact h
        | cons r l ih =>
          intro hl out h
          rw [altF]
          exact ih (fun r hr => hl r (List.mem_cons_of_mem _ hr)) _ (h.add (hl r (List.mem_cons_self ..) x hx).good)
      exact alt kids hk [] .nil
    split
    · have cat : ∀ (l : List Rx), (∀ r ∈ l, ∀ x, GdS len x → RwS len x.1 (wih s bol r x)) → ∀ out, RwS len x.1 out → RwS len x.1 (catF s bol l out) := by
        intro l
        induction l with
        | nil => intro _ out h; rw [catF]; exact h
        | cons r l ih =>
          intro hl out h
          rw [catF]
          refine ih (fun r hr => hl r (List.mem_cons_of_mem _ hr)) _ ?_
          refine RwS.fold (fun y => wih s bol r y) _ (fun z hz y hy => ?_) _ .nil
          have h1 := h.good z hz
          have h2 := (hl r (List.mem_cons_self ..) z h1.1).good y hy
          exact ⟨h2.1, by omega⟩
      exact cat kids hk [x] (.one hx (Int.le_refl _))
    split
    · rename_i h4
      have h := hok.1
      rw [if_neg (by omega), if_pos h4] at h
      simp only [Bool.and_eq_true, decide_eq_true_eq] at h
      exact wcib (a0 := x.1) (fun y hy _ => kid h.1 y hy) 100 0 x _ hx (Int.le_refl _) .nil
    · exact .nil
  · intro _ r hr; cases hr
  · intro r rs ih1 ih2 hok
    rw [okRs, Bool.and_eq_true] at hok
    intro r' hr'
    rcases List.mem_cons.1 hr' with rfl | h
    · exact ih1 hok.1
    · exact ih2 hok.2 r' h
theorem nodup_le {α : Type} [DecidableEq α] : ∀ (l L : List α), l.Nodup → (∀ x ∈ l, x ∈ L) → l.length ≤ L.length := by
  intro l
  induction l with
  | nil => intro L _ _; exact Nat.zero_le _
  | cons a l ih =>
    intro L hn hs
    rw [List.nodup_cons] at hn
    have ha := hs a (List.mem_cons_self ..)
    have h1 := ih (L.erase a) hn.2 (fun x hx => by
      refine (List.mem_erase_of_ne ?_).2 (hs x (List.mem_cons_of_mem _ hx))
      intro h
      subst h
      exact hn.1 hx)
    rw [List.length_erase_of_mem ha] at h1
    have := List.length_pos_of_mem ha
    rw [List.length_cons]
    omega
theorem wkeb {α β : Type} {f : α → List β} {k : Nat} (h : ∀ a, (f a).length = k) (l : List α) : (l.flatMap f).length = l.length * k := by
  induction l with
  | nil => simp
  | cons a l ih => rw [List.flatMap_cons, List.length_append, h, ih, List.length_cons, Nat.add_mul]; omega
def wqk (len : Nat) : List (Int × Int) := (-1, -1) :: (List.range (len + 1)).flatMap fun (a : Nat) => (List.range (len + 1 - a)).map fun (d : Nat) => ((a : Int), ((a + d : Nat) : Int))
def allSt (len : Nat) : List St := (List.range (len + 1)).flatMap fun (a : Nat) => (wqk len).flatMap fun p => (wqk len).flatMap fun q => (wqk len).map fun r => ((a : Int), ⟨[-1, -1, p.1, p.2, q.1, q.2, r.1, r.2], rfl⟩)
theorem wdz {len : Nat} {a b : Int} (h : wcdc len a b) : (a, b) ∈ wqk len := by
  unfold wqk
  rcases h with ⟨rfl, rfl⟩ | ⟨h1, h2, h3⟩
  · exact List.mem_cons_self ..
  · refine List.mem_cons_of_mem _ (List.mem_flatMap.2 ⟨a.toNat, List.mem_range.2 (by omega), List.mem_map.2 ⟨(b - a).toNat, List.mem_range.2 (by omega), ?_⟩⟩)
    rw [Prod.mk.injEq]
    exact ⟨by omega, by omega⟩
theorem all_mem {len : Nat} {x : St} (h : GdS len x) : x ∈ allSt len := by
  obtain ⟨a, ⟨l, hl⟩⟩ := x
  match l, hl with
  | [c0, c1, c2, c3, c4, c5, c6, c7], hl =>
    obtain ⟨h1, h2, h3, h4, h5⟩ := h
    have e0 : c0 = -1 := h3
    have e1 : c1 = -1 := h4
    subst e0 e1
    have s1 := wdz (h5 1 (by omega) (by omega))
    have s2 := wdz (h5 2 (by omega) (by omega))
    have s3 := wdz (h5 3 (by omega) (by omega))
    have h1 : 0 ≤ a := h1
    have h2 : a ≤ len := h2
    refine List.mem_flatMap.2 ⟨a.toNat, List.mem_range.2 (by omega), List.mem_flatMap.2 ⟨_, s1, List.mem_flatMap.2 ⟨_, s2, List.mem_map.2 ⟨_, s3, ?_⟩⟩⟩⟩
    rw [Prod.mk.injEq]
    exact ⟨by omega, rfl⟩
theorem wddc : ∀ len : Nat, len ≤ 12 → (wqk len).length ≤ 92 := by
  intro len h
  match len, h with
  | 0, _ => decide
  | 1, _ => decide
  | 2, _ => decide
  | 3, _ => decide
  | 4, _ => decide
  | 5, _ => decide
  | 6, _ => decide
  | 7, _ => decide
  | 8, _ => decide
  | 9, _ => decide
  | 10, _ => decide
  | 11, _ => decide
  | 12, _ => decide
theorem row_len {len : Nat} {a : Int} {l : List St} (h : RwS len a l) (hl : len ≤ 12) : l.length ≤ 11000000 := by
  have h1 := nodup_le l (allSt len) h.nd (fun x hx => all_mem (h.good x hx).1)
  have h2 : (allSt len).length = (len + 1) * ((wqk len).length * ((wqk len).length * (wqk len).length)) := by
    unfold allSt
    rw [wkeb (k := (wqk len).length * ((wqk len).length * (wqk len).length)), List.length_range]
    intro a
    rw [wkeb (k := (wqk len).length * (wqk len).length)]
    intro p
    rw [wkeb (k := (wqk len).length)]
    intro q
    rw [List.length_map]
  have h3 := wddc len hl
  have h4 : (len + 1) * ((wqk len).length * ((wqk len).length * (wqk len).length)) ≤ 13 * (92 * (92 * 92)) :=
    Nat.mul_le_mul (by omega) (Nat.mul_le_mul h3 (Nat.mul_le_mul h3 h3))
  omega
end
end Go.Den
namespace Go.Proofs.Ytgpabbbibmnnlaa
set_option linter.unusedVariables false
set_option linter.unusedSimpArgs false
open Go.Den
noncomputable section
theorem wfab : KeyT Try.prog 87 stC :=
  ⟨by kernel_rfl, ⟨[.int .i64, .int .i64, .int .i64, .int .i64, .int .i64, .int .i64, .int .i64, .int .i64, .int .i64], by kernel_rfl, fun _ => wfmb⟩, fun _ _ => st_eqL, fun _ => wjcc⟩
theorem wdb (l : List St) : beqP (setK stC l) (setK stC l) = true := wvcc (fun _ => st_bq) l
theorem wol : lim Try.prog cfg (.call 102 []) (HP []) = some (.val (.pointer (some ⟨0, 0, none⟩)), HP [X [.slice none 0 0, .map (some 1)] 178 0 false, .map []]) := by
  refine wrb hc wfw (Nat.le_of_ble_eq_true rfl) (Nat.le_of_ble_eq_true rfl) ?_
  unfold wfu
  (repeat' (first | (simp -implicitDefEqProofs (maxSteps := 2000000) (disch := first | with_reducible assumption | omega | (simp only [zS, zA, seval, zD] <;> omega) | fail) only [zS, argl, insA, Go.Den.wh, wo, ww, looks, wbb, wab, idOf, riA, seval, Go.Den.wm, kK, *, zT]) | (with_reducible (first | apply z1 | apply z2 | apply z3 | apply z4) <;> intro hq <;> (try simp only [zH] at hq) <;> (try (exfalso; omega)))))
abbrev rowB (l : List St) : List ABlk := [X [FO 2 l.length (stsC l), .map (some 1)] 178 0 false, .map (setK stC l), .tok l.length 87 9]
abbrev rowC (l : List St) : List ABlk := [X [FO 1 l.length (stsC l), .map (some 2)] 178 0 false, .tok l.length 87 9, .map (setK stC l)]
abbrev rowN : List ABlk := [X [.slice none 0 0, .map (some 1)] 178 0 false, .map []]
theorem woj (xs : List St) {i : Nat} (h : i < xs.length) : xs.drop i = xs.getD i St.zero :: xs.drop (i + 1) := by
  rw [List.drop_eq_getElem_cons h, List.getD_eq_getElem?_getD, List.getElem?_eq_getElem h]; rfl
theorem wedc (xs : List St) (hx : xs.length ≤ 16000000) : ∀ (k i : Nat) (l : List St), i + k = xs.length → l ≠ [] → (addF l (xs.drop i)).length ≤ 16000000 →
    lim Try.prog cfg (.loop 103 3 (wfh 0) (SE (EJ 35 G0) [(8, .int .i64 i), (7, .int .i64 xs.length), (6, FL xs.length (stsC xs)), (0, .pointer (some ⟨0, 0, none⟩))])) (HP (rowC l)) = some (.code (.exit 0) (SE (EJ 35 G0) []), HP (rowC (addF l (xs.drop i)))) := by
  intro k
  induction k with
  | zero =>
    intro i l hi hl hn
    rw [List.drop_of_length_le (by omega)]
    refine wfb wff ?_
    unfold wbg
    (repeat' (first | (simp -implicitDefEqProofs (maxSteps := 2000000) (disch := first | with_reducible assumption | omega | (simp only [zS, zA, seval, wy, zD] <;> omega) | fail) only [zS, argl, insA, Go.Den.wh, wo, ww, looks, wbb, wab, idOf, riA, seval, Go.Den.wm, kK, wqd, wy, *, zT]) | (with_reducible (first | apply z1 | apply z2 | apply z3 | apply z4) <;> intro hq <;> (try simp only [zH] at hq) <;> (try (exfalso; omega))) | (with_reducible apply z5; (case hl => (repeat (first | exact .nil | with_reducible apply z6 | with_reducible apply z7))); (case h => kernel_rfl))))
    all_goals rfl
  | succ k ih =>
    intro i l hi hl hn
    rw [woj xs (by omega), addF] at hn ⊢
    refine wfb wff ?_
    unfold wbg
    have hn2 := Nat.le_trans (wpob _ _) hn
    by_cases hm : xs.getD i St.zero ∈ l
    · rw [if_pos hm] at hn hn2 ⊢
      (repeat' (first | (simp -implicitDefEqProofs (maxSteps := 2000000) (disch := first | with_reducible assumption | omega | (simp only [zS, zA, seval, wy, zD] <;> omega) | fail) only [zS, argl, insA, Go.Den.wh, wo, ww, looks, wbb, wab, idOf, riA, seval, Go.Den.wm, kK, wqd, wy, wze wfab, whh wfab, *, zT]) | (with_reducible (first | apply z1 | apply z2 | apply z3 | apply z4) <;> intro hq <;> (try simp only [zH] at hq) <;> (try (exfalso; omega))) | (with_reducible apply z5; (case hl => (repeat (first | exact .nil | with_reducible apply z6 | with_reducible apply z7))); (case h => kernel_rfl))))
      exact ih (i + 1) l (by omega) hl hn
    · rw [if_neg hm] at hn hn2 ⊢
      have hn3 : l.length + 1 ≤ 16000000 := by rw [List.length_append] at hn2; exact hn2
      (repeat' (first | (simp -implicitDefEqProofs (maxSteps := 2000000) (disch := first | with_reducible assumption | omega | (simp only [zS, zA, seval, wy, zD] <;> omega) | fail) only [zS, argl, insA, Go.Den.wh, wo, ww, looks, wbb, wab, idOf, riA, seval, Go.Den.wm, kK, wqd, wy, wze wfab, whh wfab, *, zT]) | (with_reducible (first | apply z1 | apply z2 | apply z3 | apply z4) <;> intro hq <;> (try simp only [zH] at hq) <;> (try (exfalso; omega))) | (with_reducible apply z5; (case hl => (repeat (first | exact .nil | with_reducible apply z6 | with_reducible apply z7))); (case h => kernel_rfl))))
      have h := ih (i + 1) (l ++ [xs.getD i St.zero]) (by omega) (by simp) hn
      unfold rowC at h
      rw [show (l ++ [xs.getD i St.zero]).length = l.length + 1 by simp, wlob] at h
      exact h
theorem wfdc (xs : List St) (hx : xs.length ≤ 16000000) : ∀ (k i : Nat) (l : List St), i + k = xs.length → l ≠ [] → (addF l (xs.drop i)).length ≤ 16000000 →
    lim Try.prog cfg (.loop 103 2 (wfh 0) (SE (EJ 35 G0) [(8, .int .i64 i), (7, .int .i64 xs.length), (6, FL xs.length (stsC xs)), (0, .pointer (some ⟨0, 0, none⟩))])) (HP (rowB l)) = some (.code (.exit 0) (SE (EJ 35 G0) []), HP (rowB (addF l (xs.drop i)))) := by
  intro k
  induction k with
  | zero =>
    intro i l hi hl hn
    rw [List.drop_of_length_le (by omega)]
    refine wfb wff ?_
    unfold wbg
    (repeat' (first | (simp -implicitDefEqProofs (maxSteps := 2000000) (disch := first | with_reducible assumption | omega | (simp only [zS, zA, seval, wy, zD] <;> omega) | fail) only [zS, argl, insA, Go.Den.wh, wo, ww, looks, wbb, wab, idOf, riA, seval, Go.Den.wm, kK, wqd, wy, *, zT]) | (with_reducible (first | apply z1 | apply z2 | apply z3 | apply z4) <;> intro hq <;> (try simp only [zH] at hq) <;> (try (exfalso; omega))) | (with_reducible apply z5; (case hl => (repeat (first | exact .nil | with_reducible apply z6 | with_reducible apply z7))); (case h => kernel_rfl))))
    all_goals rfl
  | succ k ih =>
    intro i l hi hl hn
    rw [woj xs (by omega), addF] at hn ⊢
    refine wfb wff ?_
    unfold wbg
    have hn2 := Nat.le_trans (wpob _ _) hn
    by_cases hm : xs.getD i St.zero ∈ l
    · rw [if_pos hm] at hn hn2 ⊢
      (repeat' (first | (simp -implicitDefEqProofs (maxSteps := 2000000) (disch := first | with_reducible assumption | omega | (simp only [zS, zA, seval, wy, zD] <;> omega) | fail) only [zS, argl, insA, Go.Den.wh, wo, ww, looks, wbb, wab, idOf, riA, seval, Go.Den.wm, kK, wqd, wy, wze wfab, whh wfab, *, zT]) | (with_reducible (first | apply z1 | apply z2 | apply z3 | apply z4) <;> intro hq <;> (try simp only [zH] at hq) <;> (try (exfalso; omega))) | (with_reducible apply z5; (case hl => (repeat (first | exact .nil | with_reducible apply z6 | with_reducible apply z7))); (case h => kernel_rfl))))
      exact ih (i + 1) l (by omega) hl hn
    · rw [if_neg hm] at hn hn2 ⊢
      have hn3 : l.length + 1 ≤ 16000000 := by rw [List.length_append] at hn2; exact hn2
      (repeat' (first | (simp -implicitDefEqProofs (maxSteps := 2000000) (disch := first | with_reducible assumption | omega | (simp only [zS, zA, seval, wy, zD] <;> omega) | fail) only [zS, argl, insA, Go.Den.wh, wo, ww, looks, wbb, wab, idOf, riA, seval, Go.Den.wm, kK, wqd, wy, wze wfab, whh wfab, *, zT]) | (with_reducible (first | apply z1 | apply z2 | apply z3 | apply z4) <;> intro hq <;> (try simp only [zH] at hq) <;> (try (exfalso; omega))) | (with_reducible apply z5; (case hl => (repeat (first | exact .nil | with_reducible apply z6 | with_reducible apply z7))); (case h => kernel_rfl))))
      have h := ih (i + 1) (l ++ [xs.getD i St.zero]) (by omega) (by simp) hn
      unfold rowB at h
      rw [show (l ++ [xs.getD i St.zero]).length = l.length + 1 by simp, wlob] at h
      exact h
theorem wgdc (xs : List St) (hx : xs.length ≤ 16000000) (h0 : xs ≠ []) (hn : (addF [] xs).length ≤ 16000000) :
    lim Try.prog cfg (.loop 103 2 (wfh 0) (SE (EJ 35 G0) [(8, .int .i64 0), (7, .int .i64 xs.length), (6, FL xs.length (stsC xs)), (0, .pointer (some ⟨0, 0, none⟩))])) (HP rowN) = some (.code (.exit 0) (SE (EJ 35 G0) []), HP (rowB (addF [] xs))) := by
  have hl : 0 < xs.length := List.length_pos_iff.2 h0
  have e : addF [] xs = addF [xs.getD 0 St.zero] (xs.drop 1) := by
    have h1 := woj xs hl
    rw [List.drop_zero] at h1
    conv => lhs; rw [h1]
    rw [wnl, if_neg (by simp)]
    rfl
  rw [e] at hn ⊢
  refine wfb wff ?_
  unfold wbg
  have hg := wkr (l := xs) (i := 0) hl
  rw [Nat.zero_mul] at hg
  have hm : xs.getD 0 St.zero ∉ ([] : List St) := by simp
  (repeat' (first | (simp -implicitDefEqProofs (maxSteps := 2000000) (disch := first | with_reducible assumption | omega | (simp only [zS, zA, seval, wy, zD] <;> omega) | fail) only [zS, argl, insA, Go.Den.wh, wo, ww, looks, wbb, wab, idOf, riA, seval, Go.Den.wm, kK, wqd, wy, weeb (enc := stC), wze wfab, whh wfab, *, zT]) | (with_reducible (first | apply z1 | apply z2 | apply z3 | apply z4) <;> intro hq <;> (try simp only [zH] at hq) <;> (try (exfalso; omega))) | (with_reducible apply z5; (case hl => (repeat (first | exact .nil | with_reducible apply z6 | with_reducible apply z7))); (case h => kernel_rfl))))
  have h := wfdc xs hx (xs.length - 1) 1 [xs.getD 0 St.zero] (by omega) (by simp) hn
  unfold rowB at h
  rw [show [xs.getD 0 St.zero].length = 1 from rfl, ← sts_one] at h
  exact h
theorem wmr (l xs : List St) (hl : l ≠ []) (hx : xs.length ≤ 16000000) (hn : (addF l xs).length ≤ 16000000) : lim Try.prog cfg (.call 103 [.pointer (some ⟨0, 0, none⟩), FL xs.length (stsC xs)]) (HP (rowC l)) = some (.val (.tuple ⟨[]⟩), HP (rowC (addF l xs))) := by
  refine wrb hc wvk (Nat.le_of_ble_eq_true rfl) (Nat.le_of_ble_eq_true rfl) ?_
  unfold wdl
  have h := wedc xs hx xs.length 0 l (by omega) hl hn
  rw [List.drop_zero, show ((0 : Nat) : Int) = 0 from rfl] at h
  (repeat' (first | (simp -implicitDefEqProofs (maxSteps := 2000000) (disch := first | with_reducible assumption | omega | (simp only [zS, zA, seval, wy, zD] <;> omega) | fail) only [zS, argl, insA, Go.Den.wh, wo, ww, looks, wbb, wab, idOf, riA, seval, Go.Den.wm, kK, wqd, wy, *, zT]) | (with_reducible (first | apply z1 | apply z2 | apply z3 | apply z4) <;> intro hq <;> (try simp only [zH] at hq) <;> (try (exfalso; omega)))))
theorem wiu (xs : List St) (h0 : xs ≠ []) (hx : xs.length ≤ 16000000) (hn : (addF [] xs).length ≤ 16000000) : lim Try.prog cfg (.call 103 [.pointer (some ⟨0, 0, none⟩), FL xs.length (stsC xs)]) (HP rowN) = some (.val (.tuple ⟨[]⟩), HP (rowB (addF [] xs))) := by
  refine wrb hc wvk (Nat.le_of_ble_eq_true rfl) (Nat.le_of_ble_eq_true rfl) ?_
  unfold wdl
  have h := wgdc xs hx h0 hn
  (repeat' (first | (simp -implicitDefEqProofs (maxSteps := 2000000) (disch := first | with_reducible assumption | omega | (simp only [zS, zA, seval, wy, zD] <;> omega) | fail) only [zS, argl, insA, Go.Den.wh, wo, ww, looks, wbb, wab, idOf, riA, seval, Go.Den.wm, kK, wqd, wy, *, zT]) | (with_reducible (first | apply z1 | apply z2 | apply z3 | apply z4) <;> intro hq <;> (try simp only [zH] at hq) <;> (try (exfalso; omega)))))
theorem wrob : lim Try.prog cfg (.call 103 [.pointer (some ⟨0, 0, none⟩), FL 0 []]) (HP rowN) = some (.val (.tuple ⟨[]⟩), HP rowN) := by
  refine wrb hc wvk (Nat.le_of_ble_eq_true rfl) (Nat.le_of_ble_eq_true rfl) ?_
  unfold wdl
  have h : lim Try.prog cfg (.loop 103 2 (wfh 0) (SE (EJ 35 G0) [(8, .int .i64 0), (7, .int .i64 0), (6, FL 0 []), (0, .pointer (some ⟨0, 0, none⟩))])) (HP rowN) = some (.code (.exit 0) (SE (EJ 35 G0) []), HP rowN) := by
    refine wfb wff ?_
    unfold wbg
    (repeat' (first | (simp -implicitDefEqProofs (maxSteps := 2000000) (disch := first | with_reducible assumption | omega | (simp only [zS, zA, seval, zD] <;> omega) | fail) only [zS, argl, insA, Go.Den.wh, wo, ww, looks, wbb, wab, idOf, riA, seval, Go.Den.wm, kK, wqd, *, zT]) | (with_reducible (first | apply z1 | apply z2 | apply z3 | apply z4) <;> intro hq <;> (try simp only [zH] at hq) <;> (try (exfalso; omega))) | (with_reducible apply z5; (case hl => (repeat (first | exact .nil | with_reducible apply z6 | with_reducible apply z7))); (case h => kernel_rfl))))
  (repeat' (first | (simp -implicitDefEqProofs (maxSteps := 2000000) (disch := first | with_reducible assumption | omega | (simp only [zS, zA, seval, zD] <;> omega) | fail) only [zS, argl, insA, Go.Den.wh, wo, ww, looks, wbb, wab, idOf, riA, seval, Go.Den.wm, kK, wqd, Int.natCast_zero, *, zT]) | (with_reducible (first | apply z1 | apply z2 | apply z3 | apply z4) <;> intro hq <;> (try simp only [zH] at hq) <;> (try (exfalso; omega))) | (with_reducible apply z5; (case hl => (repeat (first | exact .nil | with_reducible apply z6 | with_reducible apply z7))); (case h => kernel_rfl))))
end
end Go.Proofs.Ytgpabbbibmnnlaa
namespace Go.Proofs.Ytgpabbbibmnnlaa
set_option linter.unusedVariables false
set_option linter.unusedSimpArgs false
open Go.Den
noncomputable section
theorem ev_back (s : List UInt8) (hs : s.length ≤ 1000) (bol : Bool) (n : Int) (n1 : 1 ≤ n) (n3 : n ≤ 3) (x : St) (hx : GdS s.length x) :
    lim Try.prog cfg (.call 101 [.agg ⟨[str s, .bool bol]⟩, .int .i64 n, .agg ⟨stC x⟩]) (HP []) = some (.val (FL (weab s n x).length (stsC (weab s n x))), HP []) := by
  refine wrb hc wss (Nat.le_of_ble_eq_true rfl) (Nat.le_of_ble_eq_true rfl) ?_
  unfold wdp
  have h := hx.sp n.toNat (by omega) (by omega)
  have hlo := hx.lo
  have hhi := hx.hi
  unfold weab
  obtain ⟨f, hf⟩ : ∃ f, x.2.at (n.toNat * 2) = f := ⟨_, rfl⟩
  obtain ⟨t, ht⟩ : ∃ t, x.2.at (n.toNat * 2 + 1) = t := ⟨_, rfl⟩
  rw [hf, ht] at h ⊢
  rcases h with ⟨rfl, rfl⟩ | ⟨h1, h2, h3⟩
  · (repeat' (first | (simp -implicitDefEqProofs (maxSteps := 2000000) (disch := first | with_reducible assumption | omega | (simp only [zS, zA, seval, zD] <;> omega) | fail) only [zS, argl, insA, Go.Den.wh, wo, ww, looks, wbb, wab, idOf, riA, seval, Go.Den.wm, kK, *, zT]) | (with_reducible (first | apply z1 | apply z2 | apply z3 | apply z4) <;> intro hq <;> (try simp only [zH] at hq) <;> (try (exfalso; omega))) | (with_reducible apply z5; (case hl => (repeat (first | exact .nil | with_reducible apply z6 | with_reducible apply z7))); (case h => kernel_rfl))))
  · have h0 : ¬ f < 0 := by omega
    (repeat' (first | (simp -implicitDefEqProofs (maxSteps := 2000000) (disch := first | with_reducible assumption | omega | (simp only [zS, zA, seval, zD] <;> omega) | fail) only [zS, argl, insA, Go.Den.wh, wo, ww, looks, wbb, wab, idOf, riA, seval, Go.Den.wm, kK, *, zT]) | (with_reducible (first | apply z1 | apply z2 | apply z3 | apply z4) <;> intro hq <;> (try simp only [zH] at hq) <;> (try (exfalso; omega))) | (with_reducible apply z5; (case hl => (repeat (first | exact .nil | with_reducible apply z6 | with_reducible apply z7))); (case h => kernel_rfl))))
    all_goals simp_all [wii, wceb]
def wju (w : St → List St) (l : List St) (out : List St) : List St := l.foldl (fun out y => addF out (w y)) out
theorem wjv (w : St → List St) (y : St) (l out : List St) : wju w (y :: l) out = wju w l (addF out (w y)) := rfl
abbrev frC (s : List UInt8) (bol : Bool) (r : Rx) (l : List St) : List ABlk := [X [str s, .bool bol] 138 0 true, X (rxC r) 47 0 true, X [FO 3 l.length (stsC l), .map (some 4)] 178 0 false, .tok l.length 87 9, .map (setK stC l)]
abbrev frN (s : List UInt8) (bol : Bool) (r : Rx) : List ABlk := [X [str s, .bool bol] 138 0 true, X (rxC r) 47 0 true, X [.slice none 0 0, .map (some 3)] 178 0 false, .map []]
theorem wsob (w : St → List St) : ∀ (l out : List St), out ≠ [] → wju w l out ≠ [] := by
  intro l
  induction l with
  | nil => intro out h; exact h
  | cons y l ih => intro out h; exact ih _ (wxj (.inl h))
def rowO (l : List St) : List ABlk := if l = [] then rowN else rowC l
theorem wttb (s : List UInt8) (hs : s.length ≤ 12) (bol : Bool) (r : Rx) (w : St → List St) (a : Int) (l : List St) (hll : l.length ≤ 16000000) (hl : ∀ y ∈ l, GdS s.length y ∧ a ≤ y.1) (hw : ∀ y, GdS s.length y → RwS s.length y.1 (w y) ∧ lim Try.prog cfg (.call 75 [.agg ⟨[str s, .bool bol]⟩, .agg ⟨rxC r⟩, .agg ⟨stC y⟩]) (HP []) = some (.val (FL (w y).length (stsC (w y))), HP [])) :
    ∀ (k i : Nat) (out : List St), i + k = l.length → out ≠ [] → RwS s.length a out →
    lim Try.prog cfg (.loop 104 0 (whi 0) (SE (EJ 28 G0) [(13, .int .i64 i), (12, .int .i64 l.length), (11, FL l.length (stsC l)), (7, .pointer (some ⟨2, 0, none⟩)), (4, .pointer (some ⟨1, 0, none⟩)), (3, .pointer (some ⟨0, 0, none⟩))])) (HP (frC s bol r out)) = some (.code (.exit 0) (SE (EJ 28 G0) [(7, .pointer (some ⟨0, 0, none⟩))]), HP (rowC (wju w (l.drop i) out))) := by
  intro k
  induction k with
  | zero =>
    intro i out hi ho hr
    rw [List.drop_of_length_le (by omega)]
    refine wfb wah ?_
    unfold wzg
    (repeat' (first | (simp -implicitDefEqProofs (maxSteps := 2000000) (disch := first | with_reducible assumption | omega | (simp only [zS, zA, seval, wy, zD] <;> omega) | fail) only [zS, argl, insA, Go.Den.wh, wo, ww, looks, wbb, wab, idOf, riA, seval, Go.Den.wm, kK, wbf, wy, *, zT]) | (with_reducible (first | apply z1 | apply z2 | apply z3 | apply z4) <;> intro hq <;> (try simp only [zH] at hq) <;> (try (exfalso; omega)))))
    all_goals rfl
  | succ k ih =>
    intro i out hi ho hr
    rw [woj l (by omega), wjv]
    have hy := hl (l.getD i St.zero) (by rw [List.getD_eq_getElem?_getD, List.getElem?_eq_getElem (by omega)]; exact List.getElem_mem _)
    have ⟨h1, h2⟩ := hw _ hy.1
    have h3 : RwS s.length a (addF out (w (l.getD i St.zero))) := hr.add (fun z hz => ⟨(h1.good z hz).1, by have := (h1.good z hz).2; omega⟩)
    have h4 := row_len h1 hs
    have h5 := row_len h3 hs
    have h6 := wmr out (w (l.getD i St.zero)) ho (by omega) (by omega)
    refine wfb wah ?_
    unfold wzg
    (repeat' (first | (simp -implicitDefEqProofs (maxSteps := 2000000) (disch := first | with_reducible assumption | omega | (simp only [zS, zA, seval, wy, zD] <;> omega) | fail) only [zS, argl, insA, Go.Den.wh, wo, ww, looks, wbb, wab, idOf, riA, seval, Go.Den.wm, kK, wbf, wy, wdb, *, zT]) | (with_reducible (first | apply z1 | apply z2 | apply z3 | apply z4) <;> intro hq <;> (try simp only [zH] at hq) <;> (try (exfalso; omega)))))
    exact ih (i + 1) _ (by omega) (wxj (.inl ho)) h3
theorem wutb (s : List UInt8) (hs : s.length ≤ 12) (bol : Bool) (r : Rx) (w : St → List St) (a : Int) (l : List St) (hll : l.length ≤ 16000000) (hl : ∀ y ∈ l, GdS s.length y ∧ a ≤ y.1) (hw : ∀ y, GdS s.length y → RwS s.length y.1 (w y) ∧ lim Try.prog cfg (.call 75 [.agg ⟨[str s, .bool bol]⟩, .agg ⟨rxC r⟩, .agg ⟨stC y⟩]) (HP []) = some (.val (FL (w y).length (stsC (w y))), HP [])) :
    ∀ (k i : Nat), i + k = l.length →
    lim Try.prog cfg (.loop 104 0 (whi 0) (SE (EJ 28 G0) [(13, .int .i64 i), (12, .int .i64 l.length), (11, FL l.length (stsC l)), (7, .pointer (some ⟨2, 0, none⟩)), (4, .pointer (some ⟨1, 0, none⟩)), (3, .pointer (some ⟨0, 0, none⟩))])) (HP (frN s bol r)) = some (.code (.exit 0) (SE (EJ 28 G0) [(7, .pointer (some ⟨0, 0, none⟩))]), HP (rowO (wju w (l.drop i) []))) := by
  intro k
  induction k with
  | zero =>
    intro i hi
    rw [List.drop_of_length_le (by omega)]
    refine wfb wah ?_
    unfold wzg
    (repeat' (first | (simp -implicitDefEqProofs (maxSteps := 2000000) (disch := first | with_reducible assumption | omega | (simp only [zS, zA, seval, wy, zD] <;> omega) | fail) only [zS, argl, insA, Go.Den.wh, wo, ww, looks, wbb, wab, idOf, riA, seval, Go.Den.wm, kK, wbf, wy, *, zT]) | (with_reducible (first | apply z1 | apply z2 | apply z3 | apply z4) <;> intro hq <;> (try simp only [zH] at hq) <;> (try (exfalso; omega)))))
    all_goals rfl
  | succ k ih =>
    intro i hi
    have hd := woj l (show i < l.length by omega)
    rw [hd, wjv]
    have hy := hl (l.getD i St.zero) (by rw [List.getD_eq_getElem?_getD, List.getElem?_eq_getElem (by omega)]; exact List.getElem_mem _)
    have ⟨h1, h2⟩ := hw _ hy.1
    have h3 : RwS s.length a (addF [] (w (l.getD i St.zero))) := RwS.nil.add (fun z hz => ⟨(h1.good z hz).1, by have := (h1.good z hz).2; omega⟩)
    have h4 := row_len h1 hs
    have h5 := row_len h3 hs
    have h7 := ih (i + 1) (by omega)
    refine wfb wah ?_
    unfold wzg
    by_cases hz : w (l.getD i St.zero) = []
    · rw [hz] at h2 ⊢
      clear h1 h3 h4 h5
      rw [List.length_nil, wceb] at h2
      (repeat' (first | (simp -implicitDefEqProofs (maxSteps := 2000000) (disch := first | with_reducible assumption | omega | (simp only [zS, zA, seval, wy, zD] <;> omega) | fail) only [zS, argl, insA, Go.Den.wh, wo, ww, looks, wbb, wab, idOf, riA, seval, Go.Den.wm, kK, wbf, wy, wdb, wrob, *, zT]) | (with_reducible (first | apply z1 | apply z2 | apply z3 | apply z4) <;> intro hq <;> (try simp only [zH] at hq) <;> (try (exfalso; omega)))))
      exact h7
    · have h6 := wiu (w (l.getD i St.zero)) hz (by omega) (by omega)
      have h8 := wttb s hs bol r w a l hll hl hw k (i + 1) (addF [] (w (l.getD i St.zero))) (by omega) (wxj (.inr hz)) h3
      rw [rowO, if_neg (wsob w _ _ (wxj (.inr hz)))]
      clear h7
      (repeat' (first | (simp -implicitDefEqProofs (maxSteps := 2000000) (disch := first | with_reducible assumption | omega | (simp only [zS, zA, seval, wy, zD] <;> omega) | fail) only [zS, argl, insA, Go.Den.wh, wo, ww, looks, wbb, wab, idOf, riA, seval, Go.Den.wm, kK, wbf, wy, wdb, *, zT]) | (with_reducible (first | apply z1 | apply z2 | apply z3 | apply z4) <;> intro hq <;> (try simp only [zH] at hq) <;> (try (exfalso; omega)))))
      exact h8
theorem whdc (s : List UInt8) (hs : s.length ≤ 12) (bol : Bool) (r : Rx) (w : St → List St) (a : Int) (l : List St) (hll : l.length ≤ 16000000) (hl : ∀ y ∈ l, GdS s.length y ∧ a ≤ y.1) (hw : ∀ y, GdS s.length y → RwS s.length y.1 (w y) ∧ lim Try.prog cfg (.call 75 [.agg ⟨[str s, .bool bol]⟩, .agg ⟨rxC r⟩, .agg ⟨stC y⟩]) (HP []) = some (.val (FL (w y).length (stsC (w y))), HP [])) :
    lim Try.prog cfg (.call 104 [.agg ⟨[str s, .bool bol]⟩, .agg ⟨rxC r⟩, FL l.length (stsC l)]) (HP []) = some (.val (FL (wjeb w l).length (stsC (wjeb w l))), HP []) := by
  refine wrb hc wts (Nat.le_of_ble_eq_true rfl) (Nat.le_of_ble_eq_true rfl) ?_
  unfold wep
  have h := wutb s hs bol r w a l hll hl hw l.length 0 (by omega)
  rw [List.drop_zero, show ((0 : Nat) : Int) = 0 from rfl] at h
  show _ = some (Out.val (FL (wju w l []).length (stsC (wju w l []))), HP [])
  clear hw
  by_cases hz : wju w l [] = []
  · rw [rowO, if_pos hz] at h
    rw [hz]
    (repeat' (first | (simp -implicitDefEqProofs (maxSteps := 2000000) (disch := first | with_reducible assumption | omega | (simp only [zS, zA, seval, wy, zD] <;> omega) | fail) only [zS, argl, insA, Go.Den.wh, wo, ww, looks, wbb, wab, idOf, riA, seval, Go.Den.wm, kK, wbf, wy, wol, *, zT]) | (with_reducible (first | apply z1 | apply z2 | apply z3 | apply z4) <;> intro hq <;> (try simp only [zH] at hq) <;> (try (exfalso; omega)))))
  · rw [rowO, if_neg hz] at h
    (repeat' (first | (simp -implicitDefEqProofs (maxSteps := 2000000) (disch := first | with_reducible assumption | omega | (simp only [zS, zA, seval, wy, zD] <;> omega) | fail) only [zS, argl, insA, Go.Den.wh, wo, ww, looks, wbb, wab, idOf, riA, seval, Go.Den.wm, kK, wbf, wy, wol, *, zT]) | (with_reducible (first | apply z1 | apply z2 | apply z3 | apply z4) <;> intro hq <;> (try simp only [zH] at hq) <;> (try (exfalso; omega)))))
end
end Go.Proofs.Ytgpabbbibmnnlaa
namespace Go.Proofs.Ytgpabbbibmnnlaa
set_option linter.unusedVariables false
set_option linter.unusedSimpArgs false
open Go.Den
noncomputable section
abbrev Turn := Int × St
def trC (p : Turn) : List Value := .int .i64 p.1 :: stC p.2
theorem wdib {p : Turn} : (trC p).length = 10 := by rw [trC, List.length_cons, wwhb]
theorem tr_atom {p : Turn} : wlh (trC p) = true := by rw [trC, wiv, wemb]; rfl
theorem wmh (p : Turn) : FzL (trC p) := fzl tr_atom
theorem wei {p : Turn} : wgn (trC p) = true := by rw [trC, wjr, wjcc]; rfl
theorem tr_bq {p : Turn} : beqL (trC p) (trC p) = true := by rw [trC, wrj, weu, st_bq]; rfl
theorem tr_fits {p : Turn} : wkh [.int .i64, .int .i64, .int .i64, .int .i64, .int .i64, .int .i64, .int .i64, .int .i64, .int .i64, .int .i64] (trC p) = true := by
  rw [trC]; show (true && wkh _ (stC p.2)) = true; rw [wfmb]; rfl
theorem tr_eqL {p q : Turn} : eqL (trC p) (trC q) = decide (p = q) := by
  obtain ⟨a, m⟩ := p
  obtain ⟨b, n⟩ := q
  show ((a == b) && eqL (stC m) (stC n)) = _
  rw [st_eqL]
  by_cases h1 : a = b <;> by_cases h2 : m = n <;> simp [h1, h2]
theorem widc {n : Int} {x : St} : (Value.int .i64 n :: stC x) = trC (n, x) := rfl
theorem wtob {p : Turn} : slotsOf (trC p) 0 10 = trC p := wmq wdib
theorem wzi : KeyT Try.prog 202 trC :=
  ⟨by kernel_rfl, ⟨[.int .i64, .int .i64, .int .i64, .int .i64, .int .i64, .int .i64, .int .i64, .int .i64, .int .i64, .int .i64], by kernel_rfl, fun _ => tr_fits⟩, fun _ _ => tr_eqL, fun _ => wei⟩
theorem wmb (l : List Turn) : beqP (setK trC l) (setK trC l) = true := wvcc (fun _ => tr_bq) l
section
variable (s : List UInt8) (bol : Bool) (mn mx nn : Int) (set : BitVec 256) (kids : List Rx)
abbrev repB : ABlk := X [str s, .bool bol, .int .i64 4, .int .i64 mn, .int .i64 mx, .int .i64 nn, wdV set 0, wdV set 1, wdV set 2, wdV set 3, FL kids.length (rxsC kids), .pointer (some ⟨1, 0, none⟩), .map (some 2)] 183 0 false
abbrev reN (met : List Turn) : List ABlk := [repB s bol mn mx nn set kids, X [.slice none 0 0, .map (some 3)] 178 0 false, .map (setK trC met), .map []]
abbrev reC (met : List Turn) (out : List St) : List ABlk := [repB s bol mn mx nn set kids, X [FO 3 out.length (stsC out), .map (some 4)] 178 0 false, .map (setK trC met), .tok out.length 87 9, .map (setK stC out)]
abbrev reE (met : List Turn) (out : List St) : List ABlk := [repB s bol mn mx nn set kids, X [FO 4 out.length (stsC out), .map (some 3)] 178 0 false, .map (setK trC met), .map (setK stC out), .tok out.length 87 9]
theorem ev_key_N (met : List Turn) (n : Int) (x : St) : lim Try.prog cfg (.call 125 [.pointer (some ⟨0, 0, none⟩), .int .i64 n, .agg ⟨stC x⟩]) (HP (reN s bol mn mx nn set kids met)) = some (.val (.agg ⟨trC (keyF mn mx n x)⟩), HP (reN s bol mn mx nn set kids met)) := by
  refine wrb hc wok (Nat.le_of_ble_eq_true rfl) (Nat.le_of_ble_eq_true rfl) ?_
  unfold wuj keyF
  (repeat' (first | (simp -implicitDefEqProofs (maxSteps := 2000000) (disch := first | with_reducible assumption | omega | (simp only [zS, zA, seval, wy, wdib, wmh, zD] <;> omega) | fail) only [zS, argl, insA, Go.Den.wh, wo, ww, looks, wbb, wab, idOf, riA, seval, Go.Den.wm, kK, wy, widc, wtob, wdib, wmh, *, zT]) | (with_reducible (first | apply z1 | apply z2 | apply z3 | apply z4) <;> intro hq <;> (try simp only [zH] at hq) <;> (try (exfalso; omega)))))
theorem ev_key_C (met : List Turn) (out : List St) (n : Int) (x : St) : lim Try.prog cfg (.call 125 [.pointer (some ⟨0, 0, none⟩), .int .i64 n, .agg ⟨stC x⟩]) (HP (reC s bol mn mx nn set kids met out)) = some (.val (.agg ⟨trC (keyF mn mx n x)⟩), HP (reC s bol mn mx nn set kids met out)) := by
  refine wrb hc wok (Nat.le_of_ble_eq_true rfl) (Nat.le_of_ble_eq_true rfl) ?_
  unfold wuj keyF
  (repeat' (first | (simp -implicitDefEqProofs (maxSteps := 2000000) (disch := first | with_reducible assumption | omega | (simp only [zS, zA, seval, wy, wdib, wmh, zD] <;> omega) | fail) only [zS, argl, insA, Go.Den.wh, wo, ww, looks, wbb, wab, idOf, riA, seval, Go.Den.wm, kK, wy, widc, wtob, wdib, wmh, *, zT]) | (with_reducible (first | apply z1 | apply z2 | apply z3 | apply z4) <;> intro hq <;> (try simp only [zH] at hq) <;> (try (exfalso; omega)))))
def muF (mn mx : Int) (len : Nat) (n : Int) (x : St) : Nat := if mx < 0 then (mn - n).toNat + ((len : Int) - x.1).toNat else (mx - n).toNat
def KidOk (s : List UInt8) (bol : Bool) (kids : List Rx) (w : St → List St) : Prop :=
  ∃ kid, slotsOf (rxsC kids) 0 9 = rxC kid ∧ 0 < kids.length ∧ ∀ y, GdS s.length y → RwS s.length y.1 (w y) ∧ lim Try.prog cfg (.call 75 [.agg ⟨[str s, .bool bol]⟩, .agg ⟨rxC kid⟩, .agg ⟨stC y⟩]) (HP []) = some (.val (FL (w y).length (stsC (w y))), HP [])
def OnC (w : St → List St) (a : Int) (k : Nat) : Prop := ∀ (n : Int) (x : St) (met : List Turn) (out : List St), 0 ≤ n → n + k ≤ 1000 → GdS s.length x → a ≤ x.1 → muF mn mx s.length n x < k → out ≠ [] → RwS s.length a out →
  lim Try.prog cfg (.call 105 [.pointer (some ⟨0, 0, none⟩), .int .i64 n, .agg ⟨stC x⟩]) (HP (reC s bol mn mx nn set kids met out)) = some (.val (.tuple ⟨[]⟩), HP (reC s bol mn mx nn set kids (onF w mn mx k n x (met, out)).1 (onF w mn mx k n x (met, out)).2))
theorem on_ne {w : St → List St} {mn mx : Int} : ∀ (k : Nat) (n : Int) (x : St) (a : List Turn × List St), a.2 ≠ [] → (onF w mn mx k n x a).2 ≠ [] := by
  intro k
  induction k with
  | zero => intro n x a h; exact h
  | succ k ih =>
    intro n x a h
    have hf : ∀ (l : List St) (b : List Turn × List St), b.2 ≠ [] → (l.foldl (fun b y => if y.1 ≠ x.1 ∨ n < mn then onF w mn mx k (n + 1) y b else b) b).2 ≠ [] := by
      intro l
      induction l with
      | nil => intro b hb; exact hb
      | cons y l ih2 =>
        intro b hb
        refine ih2 _ ?_
        show (if y.1 ≠ x.1 ∨ n < mn then onF w mn mx k (n + 1) y b else b).2 ≠ []
        split
        · exact ih _ _ _ hb
        · exact hb
    unfold onF
    split
    · exact h
    · simp only
      have hb : (if mx < 0 ∨ n < mx then (w x).foldl (fun b y => if y.1 ≠ x.1 ∨ n < mn then onF w mn mx k (n + 1) y b else b) (a.1 ++ [keyF mn mx n x], a.2) else (a.1 ++ [keyF mn mx n x], a.2)).2 ≠ [] := by
        split
        · exact hf _ _ h
        · exact h
      split
      · exact wxj (.inl hb)
      · exact hb
def whw (w : St → List St) (mn mx : Int) (k : Nat) (n : Int) (x : St) (l : List St) (b : List Turn × List St) : List Turn × List St := l.foldl (fun b y => if y.1 ≠ x.1 ∨ n < mn then onF w mn mx k (n + 1) y b else b) b
theorem wao {w : St → List St} {mn mx : Int} {k : Nat} {n : Int} {x y : St} {l : List St} {b : List Turn × List St} : whw w mn mx k n x (y :: l) b = whw w mn mx k n x l (if y.1 ≠ x.1 ∨ n < mn then onF w mn mx k (n + 1) y b else b) := rfl
set_option maxHeartbeats 4000000 in
theorem on_loopC (hs : s.length ≤ 12) (hmn : 0 ≤ mn ∧ mn ≤ 20) (hmx : mx ≤ 20) (w : St → List St) (a : Int) (hk : ∀ y, GdS s.length y → RwS s.length y.1 (w y)) (k : Nat) (IH : OnC s bol mn mx nn set kids w a k) (n : Int) (hn : 0 ≤ n ∧ n + k < 1000) (hnm : mx < 0 ∨ n < mx) (x : St) (hx : GdS s.length x) (hxa : a ≤ x.1) (hmu : muF mn mx s.length n x < k + 1) (l : List St) (hll : l.length ≤ 16000000) (hl : ∀ y ∈ l, GdS s.length y ∧ x.1 ≤ y.1) :
    ∀ (j i : Nat) (met : List Turn) (out : List St), i + j = l.length → out ≠ [] → RwS s.length a out →
    lim Try.prog cfg (.loop 105 5 (wyf 0) (SE (EJ 92 G0) [(54, .int .i64 i), (53, .int .i64 l.length), (52, FL l.length (stsC l)), (5, .pointer (some ⟨5, 0, none⟩)), (1, .int .i64 n), (0, .pointer (some ⟨0, 0, none⟩))])) (HP (reC s bol mn mx nn set kids met out ++ [X (stC x) 87 0 true])) = some (.code (.exit 0) (SE (EJ 92 G0) [(5, .pointer (some ⟨5, 0, none⟩)), (1, .int .i64 n), (0, .pointer (some ⟨0, 0, none⟩))]), HP (reC s bol mn mx nn set kids (whw w mn mx k n x (l.drop i) (met, out)).1 (whw w mn mx k n x (l.drop i) (met, out)).2 ++ [X (stC x) 87 0 true])) := by
  intro j
  induction j with
  | zero =>
    intro i met out hi ho hr
    rw [List.drop_of_length_le (by omega)]
    refine wfb wzd ?_
    unfold wde
    clear IH hk hl
    (repeat' (first | (simp -implicitDefEqProofs (maxSteps := 2000000) (disch := first | with_reducible assumption | omega | (simp only [zS, zA, seval, wy, zD] <;> omega) | fail) only [zS, argl, insA, Go.Den.wh, wo, ww, looks, wbb, wab, idOf, riA, seval, Go.Den.wm, kK, wz, wy, *, zT]) | (with_reducible (first | apply z1 | apply z2 | apply z3 | apply z4) <;> intro hq <;> (try simp only [zH] at hq) <;> (try (exfalso; omega)))))
    all_goals rfl
  | succ j ih =>
    intro i met out hi ho hr
    rw [woj l (by omega), wao]
    have hy := hl (l.getD i St.zero) (by rw [List.getD_eq_getElem?_getD, List.getElem?_eq_getElem (by omega)]; exact List.getElem_mem _)
    refine wfb wzd ?_
    unfold wde
    by_cases hc : (l.getD i St.zero).1 ≠ x.1 ∨ n < mn
    · have hmu2 : muF mn mx s.length (n + 1) (l.getD i St.zero) < k := by
        have h1 := hy.1.hi
        have h2 := hx.hi
        unfold muF at hmu ⊢
        split at hmu
        · rw [if_pos (by omega)]; omega
        · rw [if_neg (by omega)]; omega
      have h1 := IH (n + 1) (l.getD i St.zero) met out (by omega) (by omega) hy.1 (by omega) hmu2 ho hr
      have h2 := ih (i + 1) (onF w mn mx k (n + 1) (l.getD i St.zero) (met, out)).1 (onF w mn mx k (n + 1) (l.getD i St.zero) (met, out)).2 (by omega) (on_ne _ _ _ _ ho) (wcib (fun y hy _ => hk y hy) _ _ _ _ hy.1 (by omega) hr)
      rw [if_pos hc]
      clear IH ih hk
      by_cases hc1 : (l.getD i St.zero).1 = x.1
      · have hc2 : n < mn := by omega
        (repeat' (first | (simp -implicitDefEqProofs (maxSteps := 2000000) (disch := first | with_reducible assumption | omega | (simp only [zS, zA, seval, wy, zD] <;> omega) | fail) only [zS, argl, insA, Go.Den.wh, wo, ww, looks, wbb, wab, idOf, riA, seval, Go.Den.wm, kK, wz, wy, wdb, wmb, *, zT]) | (with_reducible (first | apply z1 | apply z2 | apply z3 | apply z4) <;> intro hq <;> (try simp only [zH] at hq) <;> (try (exfalso; omega)))))
        exact h2
      · (repeat' (first | (simp -implicitDefEqProofs (maxSteps := 2000000) (disch := first | with_reducible assumption | omega | (simp only [zS, zA, seval, wy, zD] <;> omega) | fail) only [zS, argl, insA, Go.Den.wh, wo, ww, looks, wbb, wab, idOf, riA, seval, Go.Den.wm, kK, wz, wy, wdb, wmb, *, zT]) | (with_reducible (first | apply z1 | apply z2 | apply z3 | apply z4) <;> intro hq <;> (try simp only [zH] at hq) <;> (try (exfalso; omega)))))
        exact h2
    · have h2 := ih (i + 1) met out (by omega) ho hr
      rw [if_neg hc]
      have hc1 : (l.getD i St.zero).1 = x.1 := by omega
      have hc2 : ¬ n < mn := by omega
      clear IH ih hk
      (repeat' (first | (simp -implicitDefEqProofs (maxSteps := 2000000) (disch := first | with_reducible assumption | omega | (simp only [zS, zA, seval, wy, zD] <;> omega) | fail) only [zS, argl, insA, Go.Den.wh, wo, ww, looks, wbb, wab, idOf, riA, seval, Go.Den.wm, kK, wz, wy, wdb, wmb, *, zT]) | (with_reducible (first | apply z1 | apply z2 | apply z3 | apply z4) <;> intro hq <;> (try simp only [zH] at hq) <;> (try (exfalso; omega)))))
      exact h2
end
end
end Go.Proofs.Ytgpabbbibmnnlaa
namespace Go.Proofs.Ytgpabbbibmnnlaa
set_option linter.unusedVariables false
set_option linter.unusedSimpArgs false
open Go.Den
noncomputable section
theorem wuob {w : St → List St} {mn mx : Int} {k : Nat} {n : Int} {x : St} : ∀ (l : List St) (b : List Turn × List St), b.2 ≠ [] → (whw w mn mx k n x l b).2 ≠ [] := by
  intro l
  induction l with
  | nil => intro b hb; exact hb
  | cons y l ih =>
    intro b hb
    rw [wao]
    refine ih _ ?_
    split
    · exact on_ne _ _ _ _ hb
    · exact hb
theorem weib {len : Nat} {a : Int} {w : St → List St} {mn mx : Int} (hw : ∀ x, GdS len x → RwS len x.1 (w x)) {k : Nat} {n : Int} {x : St} : ∀ (l : List St) (b : List Turn × List St), (∀ y ∈ l, GdS len y ∧ a ≤ y.1) → RwS len a b.2 → RwS len a (whw w mn mx k n x l b).2 := by
  intro l
  induction l with
  | nil => intro b _ hb; exact hb
  | cons y l ih =>
    intro b hl hb
    rw [wao]
    have hy := hl y (List.mem_cons_self ..)
    refine ih _ (fun z hz => hl z (List.mem_cons_of_mem _ hz)) ?_
    split
    · exact wcib (fun y hy _ => hw y hy) _ _ _ _ hy.1 hy.2 hb
    · exact hb
section
variable (s : List UInt8) (bol : Bool) (mn mx nn : Int) (set : BitVec 256) (kids : List Rx)
abbrev feN (met : List Turn) (x : St) : List ABlk := [repB s bol mn mx nn set kids, X [.slice none 0 0, .map (some 3)] 178 0 false, .map (setK trC met), .map [], X (stC x) 87 0 true]
abbrev feE (met : List Turn) (out : List St) (x : St) : List ABlk := [repB s bol mn mx nn set kids, X [FO 5 out.length (stsC out), .map (some 3)] 178 0 false, .map (setK trC met), .map (setK stC out), X (stC x) 87 0 true, .tok out.length 87 9]
def reO (p : List Turn × List St) : List ABlk := if p.2 = [] then reN s bol mn mx nn set kids p.1 else reE s bol mn mx nn set kids p.1 p.2
def feO (p : List Turn × List St) (x : St) : List ABlk := if p.2 = [] then feN s bol mn mx nn set kids p.1 x else feE s bol mn mx nn set kids p.1 p.2 x
def OnN (w : St → List St) (a : Int) (k : Nat) : Prop := ∀ (n : Int) (x : St) (met : List Turn), 0 ≤ n → n + k ≤ 1000 → GdS s.length x → a ≤ x.1 → muF mn mx s.length n x < k →
  lim Try.prog cfg (.call 105 [.pointer (some ⟨0, 0, none⟩), .int .i64 n, .agg ⟨stC x⟩]) (HP (reN s bol mn mx nn set kids met)) = some (.val (.tuple ⟨[]⟩), HP (reO s bol mn mx nn set kids (onF w mn mx k n x (met, []))))
theorem wjdc {mn mx : Int} {len : Nat} {n : Int} {x y : St} {k : Nat} (hx : GdS len x) (hy : GdS len y) (hxy : x.1 ≤ y.1) (hnm : mx < 0 ∨ n < mx) (hc : y.1 ≠ x.1 ∨ n < mn) (hmu : muF mn mx len n x < k + 1) : muF mn mx len (n + 1) y < k := by
  have h1 := hy.hi
  have h2 := hx.hi
  unfold muF at hmu ⊢
  split at hmu
  · rw [if_pos (by omega)]; omega
  · rw [if_neg (by omega)]; omega
set_option maxHeartbeats 4000000 in
theorem on_loopE (hs : s.length ≤ 12) (hmn : 0 ≤ mn ∧ mn ≤ 20) (hmx : mx ≤ 20) (w : St → List St) (a : Int) (hk : ∀ y, GdS s.length y → RwS s.length y.1 (w y)) (k : Nat) (IH : OnC s bol mn mx nn set kids w a k) (n : Int) (hn : 0 ≤ n ∧ n + k < 1000) (hnm : mx < 0 ∨ n < mx) (x : St) (hx : GdS s.length x) (hxa : a ≤ x.1) (hmu : muF mn mx s.length n x < k + 1) (l : List St) (hll : l.length ≤ 16000000) (hl : ∀ y ∈ l, GdS s.length y ∧ x.1 ≤ y.1) :
    ∀ (j i : Nat) (met : List Turn) (out : List St), i + j = l.length → out ≠ [] → RwS s.length a out →
    lim Try.prog cfg (.loop 105 4 (wyf 0) (SE (EJ 92 G0) [(54, .int .i64 i), (53, .int .i64 l.length), (52, FL l.length (stsC l)), (5, .pointer (some ⟨4, 0, none⟩)), (1, .int .i64 n), (0, .pointer (some ⟨0, 0, none⟩))])) (HP (feE s bol mn mx nn set kids met out x)) = some (.code (.exit 0) (SE (EJ 92 G0) [(5, .pointer (some ⟨4, 0, none⟩)), (1, .int .i64 n), (0, .pointer (some ⟨0, 0, none⟩))]), HP (feE s bol mn mx nn set kids (whw w mn mx k n x (l.drop i) (met, out)).1 (whw w mn mx k n x (l.drop i) (met, out)).2 x)) := by
  intro j
  induction j with
  | zero =>
    intro i met out hi ho hr
    rw [List.drop_of_length_le (by omega)]
    refine wfb wzd ?_
    unfold wde
    clear IH hk hl
    (repeat' (first | (simp -implicitDefEqProofs (maxSteps := 2000000) (disch := first | with_reducible assumption | omega | (simp only [zS, zA, seval, wy, zD] <;> omega) | fail) only [zS, argl, insA, Go.Den.wh, wo, ww, looks, wbb, wab, idOf, riA, seval, Go.Den.wm, kK, wz, wy, *, zT]) | (with_reducible (first | apply z1 | apply z2 | apply z3 | apply z4) <;> intro hq <;> (try simp only [zH] at hq) <;> (try (exfalso; omega)))))
    all_goals rfl
  | succ j ih =>
    intro i met out hi ho hr
    rw [woj l (by omega), wao]
    have hy := hl (l.getD i St.zero) (by rw [List.getD_eq_getElem?_getD, List.getElem?_eq_getElem (by omega)]; exact List.getElem_mem _)
    refine wfb wzd ?_
    unfold wde
    by_cases hc : (l.getD i St.zero).1 ≠ x.1 ∨ n < mn
    · have h1 := IH (n + 1) (l.getD i St.zero) met out (by omega) (by omega) hy.1 (by omega) (wjdc hx hy.1 hy.2 hnm hc hmu) ho hr
      have h2 := ih (i + 1) (onF w mn mx k (n + 1) (l.getD i St.zero) (met, out)).1 (onF w mn mx k (n + 1) (l.getD i St.zero) (met, out)).2 (by omega) (on_ne _ _ _ _ ho) (wcib (fun y hy _ => hk y hy) _ _ _ _ hy.1 (by omega) hr)
      rw [if_pos hc]
      clear IH ih hk
      by_cases hc1 : (l.getD i St.zero).1 = x.1
      · have hc2 : n < mn := by omega
        (repeat' (first | (simp -implicitDefEqProofs (maxSteps := 2000000) (disch := first | with_reducible assumption | omega | (simp only [zS, zA, seval, wy, zD] <;> omega) | fail) only [zS, argl, insA, Go.Den.wh, wo, ww, looks, wbb, wab, idOf, riA, seval, Go.Den.wm, kK, wz, wy, wdb, wmb, *, zT]) | (with_reducible (first | apply z1 | apply z2 | apply z3 | apply z4) <;> intro hq <;> (try simp only [zH] at hq) <;> (try (exfalso; omega)))))
        exact h2
      · (repeat' (first | (simp -implicitDefEqProofs (maxSteps := 2000000) (disch := first | with_reducible assumption | omega | (simp only [zS, zA, seval, wy, zD] <;> omega) | fail) only [zS, argl, insA, Go.Den.wh, wo, ww, looks, wbb, wab, idOf, riA, seval, Go.Den.wm, kK, wz, wy, wdb, wmb, *, zT]) | (with_reducible (first | apply z1 | apply z2 | apply z3 | apply z4) <;> intro hq <;> (try simp only [zH] at hq) <;> (try (exfalso; omega)))))
        exact h2
    · have h2 := ih (i + 1) met out (by omega) ho hr
      rw [if_neg hc]
      have hc1 : (l.getD i St.zero).1 = x.1 := by omega
      have hc2 : ¬ n < mn := by omega
      clear IH ih hk
      (repeat' (first | (simp -implicitDefEqProofs (maxSteps := 2000000) (disch := first | with_reducible assumption | omega | (simp only [zS, zA, seval, wy, zD] <;> omega) | fail) only [zS, argl, insA, Go.Den.wh, wo, ww, looks, wbb, wab, idOf, riA, seval, Go.Den.wm, kK, wz, wy, wdb, wmb, *, zT]) | (with_reducible (first | apply z1 | apply z2 | apply z3 | apply z4) <;> intro hq <;> (try simp only [zH] at hq) <;> (try (exfalso; omega)))))
      exact h2
set_option maxHeartbeats 4000000 in
theorem on_loopN (hs : s.length ≤ 12) (hmn : 0 ≤ mn ∧ mn ≤ 20) (hmx : mx ≤ 20) (w : St → List St) (a : Int) (hk : ∀ y, GdS s.length y → RwS s.length y.1 (w y)) (k : Nat) (IHC : OnC s bol mn mx nn set kids w a k) (IH : OnN s bol mn mx nn set kids w a k) (n : Int) (hn : 0 ≤ n ∧ n + k < 1000) (hnm : mx < 0 ∨ n < mx) (x : St) (hx : GdS s.length x) (hxa : a ≤ x.1) (hmu : muF mn mx s.length n x < k + 1) (l : List St) (hll : l.length ≤ 16000000) (hl : ∀ y ∈ l, GdS s.length y ∧ x.1 ≤ y.1) :
    ∀ (j i : Nat) (met : List Turn), i + j = l.length →
    lim Try.prog cfg (.loop 105 4 (wyf 0) (SE (EJ 92 G0) [(54, .int .i64 i), (53, .int .i64 l.length), (52, FL l.length (stsC l)), (5, .pointer (some ⟨4, 0, none⟩)), (1, .int .i64 n), (0, .pointer (some ⟨0, 0, none⟩))])) (HP (feN s bol mn mx nn set kids met x)) = some (.code (.exit 0) (SE (EJ 92 G0) [(5, .pointer (some ⟨4, 0, none⟩)), (1, .int .i64 n), (0, .pointer (some ⟨0, 0, none⟩))]), HP (feO s bol mn mx nn set kids (whw w mn mx k n x (l.drop i) (met, [])) x)) := by
  intro j
  induction j with
  | zero =>
    intro i met hi
    rw [List.drop_of_length_le (by omega)]
    refine wfb wzd ?_
    unfold wde
    clear IH IHC hk hl
    (repeat' (first | (simp -implicitDefEqProofs (maxSteps := 2000000) (disch := first | with_reducible assumption | omega | (simp only [zS, zA, seval, wy, zD] <;> omega) | fail) only [zS, argl, insA, Go.Den.wh, wo, ww, looks, wbb, wab, idOf, riA, seval, Go.Den.wm, kK, wz, wy, *, zT]) | (with_reducible (first | apply z1 | apply z2 | apply z3 | apply z4) <;> intro hq <;> (try simp only [zH] at hq) <;> (try (exfalso; omega)))))
    all_goals rfl
  | succ j ih =>
    intro i met hi
    rw [woj l (by omega), wao]
    have hy := hl (l.getD i St.zero) (by rw [List.getD_eq_getElem?_getD, List.getElem?_eq_getElem (by omega)]; exact List.getElem_mem _)
    refine wfb wzd ?_
    unfold wde
    by_cases hc : (l.getD i St.zero).1 ≠ x.1 ∨ n < mn
    · have h1 := IH (n + 1) (l.getD i St.zero) met (by omega) (by omega) hy.1 (by omega) (wjdc hx hy.1 hy.2 hnm hc hmu)
      rw [if_pos hc]
      have hr := wcib (a0 := a) (mn := mn) (mx := mx) (fun y hy _ => hk y hy) k (n + 1) (l.getD i St.zero) (met, []) hy.1 (by omega) .nil
      rcases hq : onF w mn mx k (n + 1) (l.getD i St.zero) (met, []) with ⟨met2, out2⟩
      rw [hq] at h1 hr
      unfold reO at h1
      by_cases ho : out2 = []
      · subst ho
        rw [if_pos rfl] at h1
        have h2 := ih (i + 1) met2 (by omega)
        clear IH IHC ih hk
        by_cases hc1 : (l.getD i St.zero).1 = x.1
        · have hc2 : n < mn := by omega
          (repeat' (first | (simp -implicitDefEqProofs (maxSteps := 2000000) (disch := first | with_reducible assumption | omega | (simp only [zS, zA, seval, wy, zD] <;> omega) | fail) only [zS, argl, insA, Go.Den.wh, wo, ww, looks, wbb, wab, idOf, riA, seval, Go.Den.wm, kK, wz, wy, wdb, wmb, *, zT]) | (with_reducible (first | apply z1 | apply z2 | apply z3 | apply z4) <;> intro hq <;> (try simp only [zH] at hq) <;> (try (exfalso; omega)))))
          exact h2
        · (repeat' (first | (simp -implicitDefEqProofs (maxSteps := 2000000) (disch := first | with_reducible assumption | omega | (simp only [zS, zA, seval, wy, zD] <;> omega) | fail) only [zS, argl, insA, Go.Den.wh, wo, ww, looks, wbb, wab, idOf, riA, seval, Go.Den.wm, kK, wz, wy, wdb, wmb, *, zT]) | (with_reducible (first | apply z1 | apply z2 | apply z3 | apply z4) <;> intro hq <;> (try simp only [zH] at hq) <;> (try (exfalso; omega)))))
          exact h2
      · rw [if_neg ho] at h1
        have h2 := on_loopE s bol mn mx nn set kids hs hmn hmx w a hk k IHC n hn hnm x hx hxa hmu l hll hl j (i + 1) met2 out2 (by omega) ho hr
        rw [feO, if_neg (wuob _ _ ho)]
        clear IH IHC ih hk
        by_cases hc1 : (l.getD i St.zero).1 = x.1
        · have hc2 : n < mn := by omega
          (repeat' (first | (simp -implicitDefEqProofs (maxSteps := 2000000) (disch := first | with_reducible assumption | omega | (simp only [zS, zA, seval, wy, zD] <;> omega) | fail) only [zS, argl, insA, Go.Den.wh, wo, ww, looks, wbb, wab, idOf, riA, seval, Go.Den.wm, kK, wz, wy, wdb, wmb, *, zT]) | (with_reducible (first | apply z1 | apply z2 | apply z3 | apply z4) <;> intro hq <;> (try simp only [zH] at hq) <;> (try (exfalso; omega)))))
          exact h2
        · (repeat' (first | (simp -implicitDefEqProofs (maxSteps := 2000000) (disch := first | with_reducible assumption | omega | (simp only [zS, zA, seval, wy, zD] <;> omega) | fail) only [zS, argl, insA, Go.Den.wh, wo, ww, looks, wbb, wab, idOf, riA, seval, Go.Den.wm, kK, wz, wy, wdb, wmb, *, zT]) | (with_reducible (first | apply z1 | apply z2 | apply z3 | apply z4) <;> intro hq <;> (try simp only [zH] at hq) <;> (try (exfalso; omega)))))
          exact h2
    · have h2 := ih (i + 1) met (by omega)
      rw [if_neg hc]
      have hc1 : (l.getD i St.zero).1 = x.1 := by omega
      have hc2 : ¬ n < mn := by omega
      clear IH IHC ih hk
      (repeat' (first | (simp -implicitDefEqProofs (maxSteps := 2000000) (disch := first | with_reducible assumption | omega | (simp only [zS, zA, seval, wy, zD] <;> omega) | fail) only [zS, argl, insA, Go.Den.wh, wo, ww, looks, wbb, wab, idOf, riA, seval, Go.Den.wm, kK, wz, wy, wdb, wmb, *, zT]) | (with_reducible (first | apply z1 | apply z2 | apply z3 | apply z4) <;> intro hq <;> (try simp only [zH] at hq) <;> (try (exfalso; omega)))))
      exact h2
end
end
end Go.Proofs.Ytgpabbbibmnnlaa
