/-
  PARTS OF A PROOF, joined by a program (6 of 8): a proved reckoner of the model, and what the functions come to.
-/
import Derived.Test.YtjihbfdbgamcdaaQWayTimes5
import Derived.Test.YtjihbfdbgamcdaaProg
import Derived.KernelRfl
set_option linter.unusedVariables false
set_option linter.unusedSimpArgs false
namespace Go.Proofs.Ytjihbfdbgamcdaa
open Go.Den
@[reducible] def Mv (d n : Nat) : RO := ⟨some d, none, .ins (.mv (.tmp n))⟩
@[reducible] def Op (d : Nat) (i : RI) : RO := ⟨some d, none, i⟩
@[reducible] def Oi (d : Nat) (i : Ins) : RO := ⟨some d, none, .ins i⟩
@[reducible] def On (i : Ins) : RO := ⟨none, none, .ins i⟩
@[reducible] def Ot (d g : Nat) (i : RI) : RO := ⟨some d, some (some g, true), i⟩
@[reducible] def Of (d g : Nat) (i : RI) : RO := ⟨some d, some (some g, false), i⟩
@[reducible] def Tm (n : Nat) : Operand := .tmp n
@[reducible] def Kn (n : Int) : Operand := .const (.int .i64 n)
@[reducible] def Kb (b : Bool) : Operand := .const (.bool b)
noncomputable def wzm : RF := ⟨24, (.seq (.ops [Oi 6 (.mv (Kn 0))]) (.seq (.ops [Mv 7 0, Mv 8 2, Mv 9 1, Op 10 (.int2 .sub .i64 (Tm 8) (Tm 9)), Op 11 (.int2 .add .i64 (Tm 10) (Kn 1)), Op 12 (.int2 .rem .i64 (Tm 7) (Tm 11)), Mv 0 12]) (.seq (.seq (.ops [Mv 13 0, Op 14 (.int2 .lss .i64 (Tm 13) (Kn 0))]) (.cond (Tm 14) (.ops [Mv 15 0, Mv 16 2, Op 17 (.int2 .add .i64 (Tm 15) (Tm 16)), Mv 18 1, Op 19 (.int2 .sub .i64 (Tm 17) (Tm 18)), Op 20 (.int2 .add .i64 (Tm 19) (Kn 1)), Mv 0 20]) .skip)) (.seq (.ops [Mv 21 1, Mv 22 0, Op 23 (.int2 .add .i64 (Tm 21) (Tm 22)), Mv 6 23]) .ret)))), [(.tmp 6)]⟩
theorem wvp : trF Try.prog 10 = some wzm := by kernel_rfl
noncomputable def wyo (i : Nat) : Code := lp Try.prog 32 i
noncomputable def wzo : RC := (.seq (.ops [Op 4 (.int2 .lss .i64 (Tm 3) (Kn 4))]) (.seq (.cond (Tm 4) .skip (.exit 0)) (.seq (.block 1 (.seq (.ops [Mv 5 3, Mv 2 5]) (.ops [Mv 6 2, Oi 7 (.build [(.int .i64 0), (.int .i64 0)] [(0, (1, (Kn (-1)))), (1, (1, (Kn (-1))))]), Oi 8 (.iaddrA 4 2 (Tm 1) (Tm 6)), On (.store 2 (Tm 8) (Tm 7))]))) (.ops [Op 9 (.int2 .add .i64 (Tm 3) (Kn 1)), Mv 3 9]))))
theorem wip : trC Try.prog (wyo 0) = wzo := by kernel_rfl
noncomputable def whz : RF := ⟨11, (.seq (.ops [Oi 0 (.new [(.int .i64 0), (.int .i64 0), (.int .i64 0), (.int .i64 0), (.int .i64 0), (.int .i64 0), (.int .i64 0), (.int .i64 0)] 52)]) (.seq (.ops [Oi 1 (.new [(.int .i64 0), (.int .i64 0), (.int .i64 0), (.int .i64 0), (.int .i64 0), (.int .i64 0), (.int .i64 0), (.int .i64 0)] 52)]) (.seq (.seq (.ops [Oi 3 (.mv (Kn 0))]) (.block 0 (.loop (wyo 0)))) (.seq (.ops [Oi 10 (.loadN 8 (Tm 1)), On (.store 8 (Tm 0) (Tm 10))]) .ret)))), [(.cellN 0 8)]⟩
theorem wnab : trF Try.prog 32 = some whz := by kernel_rfl
noncomputable def wzb (i : Nat) : Code := lp Try.prog 67 i
noncomputable def wfh : RC := (.seq (.ops [Op 83 (.int2 .lss .i64 (Tm 82) (Tm 81))]) (.seq (.cond (Tm 83) .skip (.exit 1)) (.seq (.block 2 (.seq (.ops [Oi 84 (.iaddrS 9 (Tm 80) (Tm 82)), Oi 85 (.loadN 9 (Tm 84)), Oi 10 (.new [(.int .i64 0), (.int .i64 0), (.int .i64 0), (.int .i64 0), (.int .i64 0), (.int .i64 0), (.int .i64 0), (.int .i64 0), (.int .i64 0)] 81), On (.store 9 (Tm 10) (Tm 85))]) (.seq (.ops [Oi 86 (.faddr 3 (Tm 4)), Oi 87 (.load1 (Tm 86)), Oi 88 (.faddr 0 (Tm 5)), Oi 89 (.load1 (Tm 88)), Oi 90 (.faddr 0 (Tm 10)), Oi 91 (.load1 (Tm 90)), Oi 92 (.build [(.int .i64 0), (.int .i64 0)] [(0, (1, (Tm 89))), (1, (1, (Tm 91)))]), Oi 93 (.faddr 1 (Tm 10)), Oi 94 (.iaddrA 4 2 (Tm 93) (Tm 87)), On (.store 2 (Tm 94) (Tm 92))]) (.ops [Mv 95 8, Oi 96 (.loadN 9 (Tm 10)), Oi 97 (.bslice 81 1 [(.int .i64 0), (.int .i64 0), (.int .i64 0), (.int .i64 0), (.int .i64 0), (.int .i64 0), (.int .i64 0), (.int .i64 0), (.int .i64 0)] [(0, (9, (Tm 96)))]), Oi 98 (.call 96 [(Tm 95), (Tm 97)])])))) (.ops [Op 99 (.int2 .add .i64 (Tm 82) (Kn 1)), Mv 82 99]))))
theorem wgh : trC Try.prog (wzb 0) = wfh := by kernel_rfl
noncomputable def wgg : RC := (.seq (.ops [Op 111 (.int2 .lss .i64 (Tm 110) (Tm 109))]) (.seq (.cond (Tm 111) .skip (.exit 3)) (.seq (.block 4 (.seq (.ops [Oi 112 (.iaddrS 9 (Tm 108) (Tm 110)), Oi 113 (.loadN 9 (Tm 112)), Oi 13 (.new [(.int .i64 0), (.int .i64 0), (.int .i64 0), (.int .i64 0), (.int .u64 0), (.int .u64 0), (.int .u64 0), (.int .u64 0), (.slice none 0 0)] 46), On (.store 9 (Tm 13) (Tm 113))]) (.ops [Mv 114 11, Oi 115 (.loadN 2 (Tm 3)), Oi 116 (.loadN 9 (Tm 13)), Oi 117 (.loadN 9 (Tm 5)), Oi 118 (.call 67 [(Tm 115), (Tm 116), (Tm 117)]), Oi 119 (.call 96 [(Tm 114), (Tm 118)])]))) (.ops [Op 120 (.int2 .add .i64 (Tm 110) (Kn 1)), Mv 110 120]))))
theorem wqf : trC Try.prog (wzb 1) = wgg := by kernel_rfl
noncomputable def whh : RC := (.seq (.ops [Op 131 (.int2 .lss .i64 (Tm 130) (Tm 129))]) (.seq (.cond (Tm 131) .skip (.exit 5)) (.seq (.block 6 (.seq (.ops [Oi 132 (.iaddrS 9 (Tm 128) (Tm 130)), Oi 133 (.loadN 9 (Tm 132)), Oi 15 (.new [(.int .i64 0), (.int .i64 0), (.int .i64 0), (.int .i64 0), (.int .u64 0), (.int .u64 0), (.int .u64 0), (.int .u64 0), (.slice none 0 0)] 46), On (.store 9 (Tm 15) (Tm 133))]) (.ops [Oi 134 (.loadN 2 (Tm 3)), Oi 135 (.loadN 9 (Tm 15)), Mv 136 7, Oi 137 (.call 97 [(Tm 134), (Tm 135), (Tm 136)]), Mv 7 137]))) (.ops [Op 138 (.int2 .add .i64 (Tm 130) (Kn 1)), Mv 130 138]))))
theorem wih : trC Try.prog (wzb 2) = whh := by kernel_rfl
noncomputable def wjp : RF := ⟨158, (.seq (.ops [Oi 3 (.box 129 (Tm 0)), Oi 4 (.box 46 (Tm 1)), Oi 5 (.box 81 (Tm 2)), Oi 6 (.mv (.const (.slice none 0 0)))]) (.seq (.ops [Oi 17 (.loadN 9 (Tm 5)), Oi 18 (.bslice 81 1 [(.int .i64 0), (.int .i64 0), (.int .i64 0), (.int .i64 0), (.int .i64 0), (.int .i64 0), (.int .i64 0), (.int .i64 0), (.int .i64 0)] [(0, (9, (Tm 17)))]), Mv 7 18]) (.seq (.seq (.ops [Oi 19 (.faddr 0 (Tm 4)), Oi 20 (.load1 (Tm 19))]) (.block 0 (.seq (.ops [Op 22 (.int2 .eql .i64 (Tm 20) (Kn 1)), Mv 21 22]) (.cond (Tm 21) (.seq (.draw #[0, 1, 0, 4, 12, 31, 63, 127, 255, 127, 639, 127, 2175, 7807, 16383, 32767] [Oi 23 (.faddr 0 (Tm 5)), Oi 24 (.load1 (Tm 23)), Oi 25 (.faddr 0 (Tm 3)), Oi 26 (.load1 (Tm 25)), Op 27 (.slen (Tm 26)), Op 28 (.int2 .lss .i64 (Tm 24) (Tm 27)), Mv 29 28, Ot 30 29 (.ins (.faddr 4 (Tm 4))), Ot 31 29 (.ins (.loadN 4 (Tm 30))), Ot 32 29 (.ins (.faddr 0 (Tm 3))), Ot 33 29 (.ins (.load1 (Tm 32))), Ot 34 29 (.ins (.faddr 0 (Tm 5))), Ot 35 29 (.ins (.load1 (Tm 34))), Ot 36 29 (.sidx (Tm 33) (Tm 35)), Ot 37 29 (.ins (.call 46 [(Tm 31), (Tm 36)])), Oi 38 (.pick (Tm 29) (Tm 37) (Kb false))]) (.cond (Tm 38) (.seq (.ops [Oi 39 (.faddr 0 (Tm 5)), Oi 40 (.load1 (Tm 39)), Op 41 (.int2 .add .i64 (Tm 40) (Kn 1)), Oi 42 (.faddr 0 (Tm 5)), On (.store 1 (Tm 42) (Tm 41))]) (.seq (.ops [Oi 43 (.loadN 9 (Tm 5)), Oi 44 (.bslice 81 1 [(.int .i64 0), (.int .i64 0), (.int .i64 0), (.int .i64 0), (.int .i64 0), (.int .i64 0), (.int .i64 0), (.int .i64 0), (.int .i64 0)] [(0, (9, (Tm 43)))]), Mv 6 44]) .ret)) .skip)) (.seq (.ops [Op 46 (.int2 .eql .i64 (Tm 20) (Kn 7)), Mv 45 46]) (.cond (Tm 45) (.seq (.ops [Oi 47 (.faddr 0 (Tm 5)), Oi 48 (.load1 (Tm 47)), Op 49 (.int2 .eql .i64 (Tm 48) (Kn 0)), Mv 50 49, Ot 51 50 (.ins (.faddr 1 (Tm 3))), Ot 52 50 (.ins (.load1 (Tm 51))), Oi 53 (.pick (Tm 50) (Tm 52) (Kb false))]) (.cond (Tm 53) (.seq (.ops [Mv 54 7, Mv 6 54]) .ret) .skip)) (.seq (.ops [Op 56 (.int2 .eql .i64 (Tm 20) (Kn 8)), Mv 55 56]) (.cond (Tm 55) (.seq (.ops [Oi 57 (.faddr 0 (Tm 5)), Oi 58 (.load1 (Tm 57)), Oi 59 (.faddr 0 (Tm 3)), Oi 60 (.load1 (Tm 59)), Op 61 (.slen (Tm 60)), Op 62 (.int2 .eql .i64 (Tm 58) (Tm 61))]) (.cond (Tm 62) (.seq (.ops [Mv 63 7, Mv 6 63]) .ret) .skip)) (.seq (.ops [Op 65 (.int2 .eql .i64 (Tm 20) (Kn 6)), Mv 64 65]) (.cond (Tm 64) (.seq (.ops [Oi 66 (.loadN 2 (Tm 3)), Oi 67 (.faddr 3 (Tm 4)), Oi 68 (.load1 (Tm 67)), Oi 69 (.loadN 9 (Tm 5)), Oi 70 (.call 94 [(Tm 66), (Tm 68), (Tm 69)]), Mv 6 70]) .ret) (.seq (.ops [Op 72 (.int2 .eql .i64 (Tm 20) (Kn 5)), Mv 71 72]) (.cond (Tm 71) (.seq (.ops [Oi 73 (.call 95 []), Mv 8 73]) (.seq (.seq (.draw #[0, 0, 2, 6, 14, 0, 63, 127, 0] [Oi 74 (.loadN 2 (Tm 3)), Oi 75 (.faddr 8 (Tm 4)), Oi 76 (.load1 (Tm 75)), Oi 77 (.iaddrS 9 (Tm 76) (Kn 0)), Oi 78 (.loadN 9 (Tm 77)), Oi 79 (.loadN 9 (Tm 5)), Oi 80 (.call 67 [(Tm 74), (Tm 78), (Tm 79)]), Op 81 (.lenS (Tm 80)), Oi 82 (.mv (Kn 0))]) (.block 1 (.loop (wzb 0)))) (.seq (.ops [Mv 100 8, Oi 101 (.nilc (Tm 100)), Oi 102 (.faddr 0 (Tm 101)), Oi 103 (.load1 (Tm 102)), Mv 6 103]) .ret))) (.seq (.ops [Op 105 (.int2 .eql .i64 (Tm 20) (Kn 3)), Mv 104 105]) (.cond (Tm 104) (.seq (.ops [Oi 106 (.call 95 []), Mv 11 106]) (.seq (.seq (.ops [Oi 107 (.faddr 8 (Tm 4)), Oi 108 (.load1 (Tm 107)), Op 109 (.lenS (Tm 108)), Oi 110 (.mv (Kn 0))]) (.block 3 (.loop (wzb 1)))) (.seq (.ops [Mv 121 11, Oi 122 (.nilc (Tm 121)), Oi 123 (.faddr 0 (Tm 122)), Oi 124 (.load1 (Tm 123)), Mv 6 124]) .ret))) (.seq (.ops [Op 126 (.int2 .eql .i64 (Tm 20) (Kn 2)), Mv 125 126]) (.cond (Tm 125) (.seq (.seq (.ops [Oi 127 (.faddr 8 (Tm 4)), Oi 128 (.load1 (Tm 127)), Op 129 (.lenS (Tm 128)), Oi 130 (.mv (Kn 0))]) (.block 5 (.loop (wzb 2)))) (.seq (.ops [Mv 139 7, Mv 6 139]) .ret)) (.seq (.ops [Op 141 (.int2 .eql .i64 (Tm 20) (Kn 4)), Mv 140 141]) (.cond (Tm 140) (.seq (.draw #[0, 0, 0, 0, 15, 31, 63] [Oi 142 (.loadN 2 (Tm 3)), Oi 143 (.loadN 9 (Tm 4)), Oi 144 (.call 95 []), Oi 145 .mkmap, Oi 146 (.build [(str []), (.bool false), (.int .i64 0), (.int .i64 0), (.int .i64 0), (.int .i64 0), (.int .u64 0), (.int .u64 0), (.int .u64 0), (.int .u64 0), (.slice none 0 0), (.pointer none), (.map none)] [(0, (2, (Tm 142))), (2, (9, (Tm 143))), (11, (1, (Tm 144))), (12, (1, (Tm 145)))]), Oi 147 (.box 178 (Tm 146)), Mv 16 147]) (.seq (.ops [Mv 148 16, Oi 149 (.loadN 9 (Tm 5)), Oi 150 (.call 98 [(Tm 148), (Kn 0), (Tm 149)])]) (.seq (.ops [Mv 151 16, Oi 152 (.nilc (Tm 151)), Oi 153 (.faddr 11 (Tm 152)), Oi 154 (.load1 (Tm 153)), Oi 155 (.nilc (Tm 154)), Oi 156 (.faddr 0 (Tm 155)), Oi 157 (.load1 (Tm 156)), Mv 6 157]) .ret))) .skip)))))))))))))))))) (.seq (.ops [Oi 6 (.mv (.const (.slice none 0 0)))]) .ret)))), [(.tmp 6)]⟩
theorem wbt : trF Try.prog 67 = some wjp := by kernel_rfl
noncomputable def wkp : RF := ⟨55, (.seq (.ops [Oi 3 (.box 129 (Tm 0)), Oi 5 (.box 81 (Tm 2)), Oi 6 (.mv (.const (.slice none 0 0)))]) (.seq (.ops [Mv 9 1, Oi 10 (.faddr 1 (Tm 5)), Oi 11 (.iaddrA 4 2 (Tm 10) (Tm 9)), Oi 12 (.loadN 2 (Tm 11)), Oi 7 (.new [(.int .i64 0), (.int .i64 0)] 50), On (.store 2 (Tm 7) (Tm 12))]) (.seq (.seq (.ops [Oi 13 (.faddr 0 (Tm 7)), Oi 14 (.load1 (Tm 13)), Op 15 (.int2 .lss .i64 (Tm 14) (Kn 0))]) (.cond (Tm 15) (.seq (.ops [Oi 6 (.mv (.const (.slice none 0 0)))]) .ret) .skip)) (.seq (.ops [Oi 16 (.faddr 1 (Tm 7)), Oi 17 (.load1 (Tm 16)), Oi 18 (.faddr 0 (Tm 7)), Oi 19 (.load1 (Tm 18)), Op 20 (.int2 .sub .i64 (Tm 17) (Tm 19)), Mv 8 20]) (.seq (.seq (.draw #[0, 0, 2, 6, 0, 16, 62, 127, 255, 511, 1023, 511, 2559, 511, 8703, 32767, 511, 66047, 511, 262655, 511, 1049087, 511, 7340543, 16712191, 33554431, 67108863] [Mv 21 8, Oi 22 (.faddr 0 (Tm 3)), Oi 23 (.load1 (Tm 22)), Op 24 (.slen (Tm 23)), Oi 25 (.faddr 0 (Tm 5)), Oi 26 (.load1 (Tm 25)), Op 27 (.int2 .sub .i64 (Tm 24) (Tm 26)), Op 28 (.int2 .gtr .i64 (Tm 21) (Tm 27)), Mv 29 28, Of 30 29 (.ins (.faddr 0 (Tm 3))), Of 31 29 (.ins (.load1 (Tm 30))), Of 32 29 (.ins (.faddr 0 (Tm 7))), Of 33 29 (.ins (.load1 (Tm 32))), Of 34 29 (.ins (.faddr 1 (Tm 7))), Of 35 29 (.ins (.load1 (Tm 34))), Of 36 29 (.ssl (Tm 31) (some (Tm 33)) (some (Tm 35))), Of 37 29 (.ins (.faddr 0 (Tm 3))), Of 38 29 (.ins (.load1 (Tm 37))), Of 39 29 (.ins (.faddr 0 (Tm 5))), Of 40 29 (.ins (.load1 (Tm 39))), Of 41 29 (.ins (.faddr 0 (Tm 5))), Of 42 29 (.ins (.load1 (Tm 41))), Of 43 29 (.ins (.mv (Tm 8))), Of 44 29 (.int2 .add .i64 (Tm 42) (Tm 43)), Of 45 29 (.ssl (Tm 38) (some (Tm 40)) (some (Tm 44))), Of 46 29 (.str2 .neq (Tm 36) (Tm 45)), Oi 47 (.pick (Tm 29) (Kb true) (Tm 46))]) (.cond (Tm 47) (.seq (.ops [Oi 6 (.mv (.const (.slice none 0 0)))]) .ret) .skip)) (.seq (.ops [Oi 48 (.faddr 0 (Tm 5)), Oi 49 (.load1 (Tm 48)), Mv 50 8, Op 51 (.int2 .add .i64 (Tm 49) (Tm 50)), Oi 52 (.faddr 0 (Tm 5)), On (.store 1 (Tm 52) (Tm 51))]) (.seq (.ops [Oi 53 (.loadN 9 (Tm 5)), Oi 54 (.bslice 81 1 [(.int .i64 0), (.int .i64 0), (.int .i64 0), (.int .i64 0), (.int .i64 0), (.int .i64 0), (.int .i64 0), (.int .i64 0), (.int .i64 0)] [(0, (9, (Tm 53)))]), Mv 6 54]) .ret))))))), [(.tmp 6)]⟩
theorem wct : trF Try.prog 94 = some wkp := by kernel_rfl
noncomputable def wtu : RF := ⟨4, (.seq (.ops [Oi 0 (.mv (.const (.pointer none)))]) (.seq (.ops [Oi 1 .mkmap, Oi 2 (.build [(.slice none 0 0), (.map none)] [(1, (1, (Tm 1)))]), Oi 3 (.box 173 (Tm 2)), Mv 0 3]) .ret)), [(.tmp 0)]⟩
theorem wxw : trF Try.prog 95 = some wtu := by kernel_rfl
noncomputable def wph (i : Nat) : Code := lp Try.prog 96 i
noncomputable def wkg : RC := (.seq (.ops [Op 9 (.int2 .lss .i64 (Tm 8) (Tm 7))]) (.seq (.cond (Tm 9) .skip (.exit 0)) (.seq (.block 1 (.seq (.ops [Oi 10 (.iaddrS 9 (Tm 6) (Tm 8)), Oi 11 (.loadN 9 (Tm 10)), Oi 5 (.new [(.int .i64 0), (.int .i64 0), (.int .i64 0), (.int .i64 0), (.int .i64 0), (.int .i64 0), (.int .i64 0), (.int .i64 0), (.int .i64 0)] 81), On (.store 9 (Tm 5) (Tm 11))]) (.seq (.draw #[0, 1, 3, 7, 0, 31, 63] [Mv 12 0, Oi 13 (.nilc (Tm 12)), Oi 14 (.faddr 1 (Tm 13)), Oi 15 (.load1 (Tm 14)), Oi 16 (.loadN 9 (Tm 5)), Op 17 (.look 81 (.bool false) false (Tm 15) (Tm 16)), Op 18 (.un .not (Tm 17))]) (.cond (Tm 18) (.seq (.draw #[0, 1, 3, 7, 0, 31] [Mv 19 0, Oi 20 (.nilc (Tm 19)), Oi 21 (.faddr 1 (Tm 20)), Oi 22 (.load1 (Tm 21)), Oi 23 (.loadN 9 (Tm 5)), On (.upd 81 (Tm 22) (Tm 23) (Kb true))]) (.draw #[0, 0, 2, 6, 14, 0, 32, 126, 255, 511, 1023] [Mv 24 0, Mv 25 0, Oi 26 (.nilc (Tm 25)), Oi 27 (.faddr 0 (Tm 26)), Oi 28 (.load1 (Tm 27)), Oi 29 (.loadN 9 (Tm 5)), Oi 30 (.bslice 81 1 [(.int .i64 0), (.int .i64 0), (.int .i64 0), (.int .i64 0), (.int .i64 0), (.int .i64 0), (.int .i64 0), (.int .i64 0), (.int .i64 0)] [(0, (9, (Tm 29)))]), Oi 31 (.app 81 9 72 (Tm 28) (Tm 30)), Oi 32 (.nilc (Tm 24)), Oi 33 (.faddr 0 (Tm 32)), On (.store 1 (Tm 33) (Tm 31))])) .skip)))) (.ops [Op 34 (.int2 .add .i64 (Tm 8) (Kn 1)), Mv 8 34]))))
theorem wmf : trC Try.prog (wph 0) = wkg := by kernel_rfl
noncomputable def wil : RF := ⟨35, (.seq (.ops [Mv 6 1, Op 7 (.lenS (Tm 6)), Oi 8 (.mv (Kn 0))]) (.block 0 (.loop (wph 0)))), []⟩
theorem wbl : trF Try.prog 96 = some wil := by kernel_rfl
noncomputable def wpi (i : Nat) : Code := lp Try.prog 97 i
noncomputable def wjh : RC := (.seq (.ops [Op 14 (.int2 .lss .i64 (Tm 13) (Tm 12))]) (.seq (.cond (Tm 14) .skip (.exit 0)) (.seq (.block 1 (.seq (.ops [Oi 15 (.iaddrS 9 (Tm 11) (Tm 13)), Oi 16 (.loadN 9 (Tm 15)), Oi 9 (.new [(.int .i64 0), (.int .i64 0), (.int .i64 0), (.int .i64 0), (.int .i64 0), (.int .i64 0), (.int .i64 0), (.int .i64 0), (.int .i64 0)] 81), On (.store 9 (Tm 9) (Tm 16))]) (.ops [Mv 17 7, Oi 18 (.loadN 2 (Tm 3)), Oi 19 (.loadN 9 (Tm 4)), Oi 20 (.loadN 9 (Tm 9)), Oi 21 (.call 67 [(Tm 18), (Tm 19), (Tm 20)]), Oi 22 (.call 96 [(Tm 17), (Tm 21)])]))) (.ops [Op 23 (.int2 .add .i64 (Tm 13) (Kn 1)), Mv 13 23]))))
theorem wkh : trC Try.prog (wpi 0) = wjh := by kernel_rfl
noncomputable def wlp : RF := ⟨28, (.seq (.ops [Oi 3 (.box 129 (Tm 0)), Oi 4 (.box 46 (Tm 1)), Oi 6 (.mv (.const (.slice none 0 0)))]) (.seq (.ops [Oi 10 (.call 95 []), Mv 7 10]) (.seq (.seq (.ops [Mv 11 2, Op 12 (.lenS (Tm 11)), Oi 13 (.mv (Kn 0))]) (.block 0 (.loop (wpi 0)))) (.seq (.ops [Mv 24 7, Oi 25 (.nilc (Tm 24)), Oi 26 (.faddr 0 (Tm 25)), Oi 27 (.load1 (Tm 26)), Mv 6 27]) .ret)))), [(.tmp 6)]⟩
theorem wdt : trF Try.prog 97 = some wlp := by kernel_rfl
noncomputable def whg (i : Nat) : Code := lp Try.prog 98 i
noncomputable def wle : RC := (.seq (.ops [Op 55 (.int2 .lss .i64 (Tm 54) (Tm 53))]) (.seq (.cond (Tm 55) .skip (.exit 0)) (.seq (.block 1 (.seq (.ops [Oi 56 (.iaddrS 9 (Tm 52) (Tm 54)), Oi 57 (.loadN 9 (Tm 56)), Oi 7 (.new [(.int .i64 0), (.int .i64 0), (.int .i64 0), (.int .i64 0), (.int .i64 0), (.int .i64 0), (.int .i64 0), (.int .i64 0), (.int .i64 0)] 81), On (.store 9 (Tm 7) (Tm 57))]) (.seq (.ops [Oi 58 (.faddr 0 (Tm 7)), Oi 59 (.load1 (Tm 58)), Oi 60 (.faddr 0 (Tm 5)), Oi 61 (.load1 (Tm 60)), Op 62 (.int2 .neq .i64 (Tm 59) (Tm 61)), Mv 63 62, Of 64 63 (.ins (.mv (Tm 1))), Of 65 63 (.ins (.mv (Tm 0))), Of 66 63 (.ins (.nilc (Tm 65))), Of 67 63 (.ins (.faddr 2 (Tm 66))), Of 68 63 (.ins (.faddr 1 (Tm 67))), Of 69 63 (.ins (.load1 (Tm 68))), Of 70 63 (.int2 .lss .i64 (Tm 64) (Tm 69)), Oi 71 (.pick (Tm 63) (Kb true) (Tm 70))]) (.cond (Tm 71) (.ops [Mv 72 0, Mv 73 1, Op 74 (.int2 .add .i64 (Tm 73) (Kn 1)), Oi 75 (.loadN 9 (Tm 7)), Oi 76 (.call 98 [(Tm 72), (Tm 74), (Tm 75)])]) .skip)))) (.ops [Op 77 (.int2 .add .i64 (Tm 54) (Kn 1)), Mv 54 77]))))
theorem whe : trC Try.prog (whg 0) = wle := by kernel_rfl
noncomputable def wok : RF := ⟨92, (.seq (.ops [Oi 5 (.box 81 (Tm 2))]) (.seq (.seq (.draw #[0, 1, 3, 7, 0, 0, 0, 112, 255] [Mv 8 0, Oi 9 (.nilc (Tm 8)), Oi 10 (.faddr 12 (Tm 9)), Oi 11 (.load1 (Tm 10)), Mv 12 0, Mv 13 1, Oi 14 (.loadN 9 (Tm 5)), Oi 15 (.call 114 [(Tm 12), (Tm 13), (Tm 14)]), Op 16 (.look 194 (.bool false) false (Tm 11) (Tm 15))]) (.cond (Tm 16) .ret .skip)) (.seq (.draw #[0, 1, 3, 7, 0, 0, 0, 112, 255] [Mv 17 0, Oi 18 (.nilc (Tm 17)), Oi 19 (.faddr 12 (Tm 18)), Oi 20 (.load1 (Tm 19)), Mv 21 0, Mv 22 1, Oi 23 (.loadN 9 (Tm 5)), Oi 24 (.call 114 [(Tm 21), (Tm 22), (Tm 23)]), On (.upd 194 (Tm 20) (Tm 24) (Kb true))]) (.seq (.seq (.ops [Mv 25 0, Oi 26 (.nilc (Tm 25)), Oi 27 (.faddr 2 (Tm 26)), Oi 28 (.faddr 2 (Tm 27)), Oi 29 (.load1 (Tm 28)), Op 30 (.int2 .lss .i64 (Tm 29) (Kn 0)), Mv 31 30, Of 32 31 (.ins (.mv (Tm 1))), Of 33 31 (.ins (.mv (Tm 0))), Of 34 31 (.ins (.nilc (Tm 33))), Of 35 31 (.ins (.faddr 2 (Tm 34))), Of 36 31 (.ins (.faddr 2 (Tm 35))), Of 37 31 (.ins (.load1 (Tm 36))), Of 38 31 (.int2 .lss .i64 (Tm 32) (Tm 37)), Oi 39 (.pick (Tm 31) (Kb true) (Tm 38))]) (.cond (Tm 39) (.seq (.draw #[0, 1, 3, 7, 0, 16, 48, 112, 240, 496, 1008, 0, 4095, 8191, 0] [Mv 40 0, Oi 41 (.nilc (Tm 40)), Oi 42 (.faddr 0 (Tm 41)), Oi 43 (.loadN 2 (Tm 42)), Mv 44 0, Oi 45 (.nilc (Tm 44)), Oi 46 (.faddr 2 (Tm 45)), Oi 47 (.faddr 8 (Tm 46)), Oi 48 (.load1 (Tm 47)), Oi 49 (.iaddrS 9 (Tm 48) (Kn 0)), Oi 50 (.loadN 9 (Tm 49)), Oi 51 (.loadN 9 (Tm 5)), Oi 52 (.call 67 [(Tm 43), (Tm 50), (Tm 51)]), Op 53 (.lenS (Tm 52)), Oi 54 (.mv (Kn 0))]) (.block 0 (.loop (whg 0)))) .skip)) (.seq (.ops [Mv 78 1, Mv 79 0, Oi 80 (.nilc (Tm 79)), Oi 81 (.faddr 2 (Tm 80)), Oi 82 (.faddr 1 (Tm 81)), Oi 83 (.load1 (Tm 82)), Op 84 (.int2 .geq .i64 (Tm 78) (Tm 83))]) (.cond (Tm 84) (.draw #[0, 1, 3, 7, 0, 16, 63] [Mv 85 0, Oi 86 (.nilc (Tm 85)), Oi 87 (.faddr 11 (Tm 86)), Oi 88 (.load1 (Tm 87)), Oi 89 (.loadN 9 (Tm 5)), Oi 90 (.bslice 81 1 [(.int .i64 0), (.int .i64 0), (.int .i64 0), (.int .i64 0), (.int .i64 0), (.int .i64 0), (.int .i64 0), (.int .i64 0), (.int .i64 0)] [(0, (9, (Tm 89)))]), Oi 91 (.call 96 [(Tm 88), (Tm 90)])]) .skip)))))), []⟩
theorem wrl : trF Try.prog 98 = some wok := by kernel_rfl
noncomputable def wak : RF := ⟨23, (.seq (.ops [Oi 5 (.box 81 (Tm 2)), Oi 6 (.new [(.int .i64 0), (.int .i64 0), (.int .i64 0), (.int .i64 0), (.int .i64 0), (.int .i64 0), (.int .i64 0), (.int .i64 0), (.int .i64 0), (.int .i64 0)] 194)]) (.seq (.seq (.ops [Mv 7 0, Oi 8 (.nilc (Tm 7)), Oi 9 (.faddr 2 (Tm 8)), Oi 10 (.faddr 2 (Tm 9)), Oi 11 (.load1 (Tm 10)), Op 12 (.int2 .lss .i64 (Tm 11) (Kn 0))]) (.cond (Tm 12) (.ops [Mv 13 1, Mv 14 0, Oi 15 (.nilc (Tm 14)), Oi 16 (.faddr 2 (Tm 15)), Oi 17 (.faddr 1 (Tm 16)), Oi 18 (.load1 (Tm 17)), Op 19 (.mm false (Tm 13) [(Tm 18)]), Mv 1 19]) .skip)) (.seq (.ops [Mv 20 1, Oi 21 (.loadN 9 (Tm 5)), Oi 22 (.build [(.int .i64 0), (.int .i64 0), (.int .i64 0), (.int .i64 0), (.int .i64 0), (.int .i64 0), (.int .i64 0), (.int .i64 0), (.int .i64 0), (.int .i64 0)] [(0, (1, (Tm 20))), (1, (9, (Tm 21)))]), On (.store 10 (Tm 6) (Tm 22))]) .ret))), [(.cellN 6 10)]⟩
theorem wuk : trF Try.prog 114 = some wak := by kernel_rfl
noncomputable def wiz : RF := ⟨35, (.seq (.ops [Oi 4 (.box 46 (Tm 0)), Oi 8 (.mv (.const (.slice none 0 0)))]) (.seq (.seq (.ops [Oi 9 (.loadN 9 (Tm 4)), Oi 10 (.call 63 [(Tm 9), (Kb true)]), Op 11 (.un .not (Tm 10)), Mv 12 11, Of 13 12 (.ins (.mv (Tm 1))), Of 14 12 (.slen (Tm 13)), Of 15 12 (.int2 .gtr .i64 (Tm 14) (Kn 60)), Oi 16 (.pick (Tm 12) (Kb true) (Tm 15)), Mv 17 16, Of 18 17 (.ins (.mv (Tm 3))), Of 19 17 (.int2 .lss .i64 (Tm 18) (Kn 0)), Oi 20 (.pick (Tm 17) (Kb true) (Tm 19)), Mv 21 20, Of 22 21 (.ins (.mv (Tm 3))), Of 23 21 (.ins (.mv (Tm 1))), Of 24 21 (.slen (Tm 23)), Of 25 21 (.int2 .gtr .i64 (Tm 22) (Tm 24)), Oi 26 (.pick (Tm 21) (Kb true) (Tm 25))]) (.cond (Tm 26) (.seq (.ops [Oi 8 (.mv (.const (.slice none 0 0)))]) .ret) .skip)) (.seq (.draw #[0, 0, 3, 0, 0, 0, 48, 127, 255] [Mv 27 1, Mv 28 2, Oi 29 (.build [(str []), (.bool false)] [(0, (1, (Tm 27))), (1, (1, (Tm 28)))]), Oi 30 (.loadN 9 (Tm 4)), Mv 31 3, Oi 32 (.call 32 []), Oi 33 (.build [(.int .i64 0), (.int .i64 0), (.int .i64 0), (.int .i64 0), (.int .i64 0), (.int .i64 0), (.int .i64 0), (.int .i64 0), (.int .i64 0)] [(0, (1, (Tm 31))), (1, (8, (Tm 32)))]), Oi 34 (.call 67 [(Tm 29), (Tm 30), (Tm 33)]), Mv 8 34]) .ret))), [(.tmp 8)]⟩
theorem woab : trF Try.prog 30 = some wiz := by kernel_rfl
noncomputable def wjz : RF := ⟨29, (.seq (.ops [Oi 2 (.box 46 (Tm 0)), Oi 4 (.mv (Kb false))]) (.seq (.ops [Mv 6 1, Oi 7 (.build [(.bool false), (.int .i64 0)] [(0, (1, (Tm 6)))]), Oi 8 (.box 156 (Tm 7)), Mv 5 8]) (.seq (.ops [Oi 9 (.loadN 9 (Tm 2)), Oi 10 (.call 88 [(Tm 9)]), Op 11 (.int2 .leq .i64 (Tm 10) (Kn 40)), Mv 12 11, Ot 13 12 (.ins (.mv (Tm 5))), Ot 14 12 (.ins (.loadN 9 (Tm 2))), Ot 15 12 (.ins (.call 89 [(Tm 13), (Tm 14)])), Oi 16 (.pick (Tm 12) (Tm 15) (Kb false)), Mv 17 16, Ot 18 17 (.ins (.mv (Tm 5))), Ot 19 17 (.ins (.loadN 9 (Tm 2))), Ot 20 17 (.ins (.call 90 [(Tm 18), (Tm 19), (Kn 0)])), Oi 21 (.pick (Tm 17) (Tm 20) (Kb false)), Mv 22 21, Ot 23 22 (.ins (.mv (Tm 5))), Ot 24 22 (.ins (.nilc (Tm 23))), Ot 25 22 (.ins (.faddr 1 (Tm 24))), Ot 26 22 (.ins (.load1 (Tm 25))), Ot 27 22 (.int2 .leq .i64 (Tm 26) (Kn 3)), Oi 28 (.pick (Tm 22) (Tm 27) (Kb false)), Mv 4 28]) .ret))), [(.tmp 4)]⟩
theorem wpab : trF Try.prog 63 = some wjz := by kernel_rfl
noncomputable def wap (i : Nat) : Code := lp Try.prog 88 i
noncomputable def wbp : RC := (.seq (.ops [Op 10 (.int2 .lss .i64 (Tm 9) (Tm 8))]) (.seq (.cond (Tm 10) .skip (.exit 0)) (.seq (.block 1 (.seq (.ops [Oi 11 (.iaddrS 9 (Tm 7) (Tm 9)), Oi 12 (.loadN 9 (Tm 11)), Oi 5 (.new [(.int .i64 0), (.int .i64 0), (.int .i64 0), (.int .i64 0), (.int .u64 0), (.int .u64 0), (.int .u64 0), (.int .u64 0), (.slice none 0 0)] 46), On (.store 9 (Tm 5) (Tm 12))]) (.ops [Mv 13 3, Oi 14 (.loadN 9 (Tm 5)), Oi 15 (.call 88 [(Tm 14)]), Op 16 (.int2 .add .i64 (Tm 13) (Tm 15)), Mv 3 16]))) (.ops [Op 17 (.int2 .add .i64 (Tm 9) (Kn 1)), Mv 9 17]))))
theorem wmp : trC Try.prog (wap 0) = wbp := by kernel_rfl
noncomputable def wkz : RF := ⟨19, (.seq (.ops [Oi 1 (.box 46 (Tm 0)), Oi 2 (.mv (Kn 0))]) (.seq (.ops [Oi 3 (.mv (Kn 1))]) (.seq (.seq (.ops [Oi 6 (.faddr 8 (Tm 1)), Oi 7 (.load1 (Tm 6)), Op 8 (.lenS (Tm 7)), Oi 9 (.mv (Kn 0))]) (.block 0 (.loop (wap 0)))) (.seq (.ops [Mv 18 3, Mv 2 18]) .ret)))), [(.tmp 2)]⟩
theorem wqab : trF Try.prog 88 = some wkz := by kernel_rfl
noncomputable def wbs (i : Nat) : Code := lp Try.prog 89 i
noncomputable def wfm : RF := ⟨45, (.seq (.ops [Oi 3 (.box 46 (Tm 1)), Oi 4 (.mv (Kb false))]) (.seq (.seq (.ops [Mv 7 0, Oi 8 (.nilc (Tm 7)), Oi 9 (.faddr 0 (Tm 8)), Oi 10 (.load1 (Tm 9)), Mv 11 10, Of 12 11 (.ins (.faddr 0 (Tm 3))), Of 13 11 (.ins (.load1 (Tm 12))), Of 14 11 (.int2 .neq .i64 (Tm 13) (Kn 2)), Oi 15 (.pick (Tm 11) (Kb true) (Tm 14))]) (.cond (Tm 15) (.seq (.ops [Oi 4 (.mv (Kb true))]) .ret) .skip)) (.seq (.seq (.ops [Oi 16 (.faddr 8 (Tm 3)), Oi 17 (.load1 (Tm 16)), Op 18 (.lenS (Tm 17)), Oi 19 (.mv (Kn 0))]) (.block 0 (.loop (wbs 0)))) (.seq (.ops [Oi 4 (.mv (Kb true))]) .ret)))), [(.tmp 4)]⟩
theorem wcp : trF Try.prog 89 = some wfm := by kernel_rfl
noncomputable def wfj (i : Nat) : Code := lp Try.prog 90 i
noncomputable def wwg : RC := (.seq (.ops [Op 80 (.int2 .lss .i64 (Tm 79) (Tm 78))]) (.seq (.cond (Tm 80) .skip (.exit 1)) (.seq (.block 2 (.seq (.ops [Oi 81 (.iaddrS 9 (Tm 77) (Tm 79)), Oi 82 (.loadN 9 (Tm 81)), Oi 8 (.new [(.int .i64 0), (.int .i64 0), (.int .i64 0), (.int .i64 0), (.int .u64 0), (.int .u64 0), (.int .u64 0), (.int .u64 0), (.slice none 0 0)] 46), On (.store 9 (Tm 8) (Tm 82))]) (.seq (.ops [Mv 83 0, Oi 84 (.loadN 9 (Tm 8)), Mv 85 2, Oi 86 (.call 90 [(Tm 83), (Tm 84), (Tm 85)]), Op 87 (.un .not (Tm 86))]) (.cond (Tm 87) (.seq (.ops [Oi 6 (.mv (Kb false))]) .ret) .skip)))) (.ops [Op 88 (.int2 .add .i64 (Tm 79) (Kn 1)), Mv 79 88]))))
theorem wzg : trC Try.prog (wfj 0) = wwg := by kernel_rfl
noncomputable def wco : RF := ⟨89, (.seq (.ops [Oi 4 (.box 46 (Tm 1)), Oi 6 (.mv (Kb false))]) (.seq (.seq (.ops [Oi 9 (.loadN 9 (Tm 4)), Oi 10 (.call 107 [(Tm 9)]), Op 11 (.un .not (Tm 10)), Mv 12 11, Of 13 12 (.ins (.loadN 9 (Tm 4))), Of 14 12 (.ins (.call 108 [(Tm 13)])), Of 15 12 (.un .not (Tm 14)), Oi 16 (.pick (Tm 12) (Kb true) (Tm 15)), Mv 17 16, Of 18 17 (.ins (.faddr 0 (Tm 4))), Of 19 17 (.ins (.load1 (Tm 18))), Of 20 17 (.int2 .eql .i64 (Tm 19) (Kn 3)), Of 21 17 (.ins (.mv (Tm 20))), Ot 22 21 (.ins (.mv (Tm 0))), Ot 23 21 (.ins (.nilc (Tm 22))), Ot 24 21 (.ins (.faddr 0 (Tm 23))), Ot 25 21 (.ins (.load1 (Tm 24))), Ot 26 21 (.un .not (Tm 25)), Of 27 17 (.ins (.pick (Tm 21) (Tm 26) (Kb false))), Oi 28 (.pick (Tm 17) (Kb true) (Tm 27))]) (.cond (Tm 28) (.seq (.ops [Oi 6 (.mv (Kb false))]) .ret) .skip)) (.seq (.seq (.ops [Oi 29 (.faddr 0 (Tm 4)), Oi 30 (.load1 (Tm 29))]) (.block 0 (.seq (.ops [Op 32 (.int2 .eql .i64 (Tm 30) (Kn 5)), Mv 31 32]) (.cond (Tm 31) (.seq (.ops [Mv 33 0, Oi 34 (.nilc (Tm 33)), Oi 35 (.faddr 1 (Tm 34)), Oi 36 (.load1 (Tm 35)), Op 37 (.int2 .add .i64 (Tm 36) (Kn 1)), Oi 38 (.nilc (Tm 33)), Oi 39 (.faddr 1 (Tm 38)), On (.store 1 (Tm 39) (Tm 37))]) (.seq (.ops [Mv 40 2, Op 41 (.int2 .add .i64 (Tm 40) (Kn 1)), Mv 2 41]) (.seq (.draw #[0, 1, 0, 4, 12, 28, 63, 127, 255, 511, 1023, 2047, 4095, 4095, 12287, 28671, 61439, 131071, 262143, 524287] [Oi 42 (.faddr 3 (Tm 4)), Oi 43 (.load1 (Tm 42)), Mv 44 0, Oi 45 (.nilc (Tm 44)), Oi 46 (.faddr 1 (Tm 45)), Oi 47 (.load1 (Tm 46)), Op 48 (.int2 .neq .i64 (Tm 43) (Tm 47)), Mv 49 48, Of 50 49 (.ins (.mv (Tm 2))), Of 51 49 (.int2 .gtr .i64 (Tm 50) (Kn 6)), Oi 52 (.pick (Tm 49) (Kb true) (Tm 51)), Mv 53 52, Of 54 53 (.ins (.mv (Tm 0))), Of 55 53 (.ins (.faddr 8 (Tm 4))), Of 56 53 (.ins (.load1 (Tm 55))), Of 57 53 (.ins (.iaddrS 9 (Tm 56) (Kn 0))), Of 58 53 (.ins (.loadN 9 (Tm 57))), Of 59 53 (.ins (.call 89 [(Tm 54), (Tm 58)])), Of 60 53 (.un .not (Tm 59)), Oi 61 (.pick (Tm 53) (Kb true) (Tm 60))]) (.cond (Tm 61) (.seq (.ops [Oi 6 (.mv (Kb false))]) .ret) .skip)))) (.seq (.ops [Op 63 (.int2 .eql .i64 (Tm 30) (Kn 6)), Mv 62 63]) (.cond (Tm 62) (.seq (.draw #[0, 1, 3, 7, 15, 31, 15, 79, 207, 463, 1023, 2047, 4095] [Oi 64 (.faddr 3 (Tm 4)), Oi 65 (.load1 (Tm 64)), Op 66 (.int2 .geq .i64 (Tm 65) (Kn 1)), Mv 67 66, Ot 68 67 (.ins (.faddr 3 (Tm 4))), Ot 69 67 (.ins (.load1 (Tm 68))), Ot 70 67 (.ins (.mv (Tm 0))), Ot 71 67 (.ins (.nilc (Tm 70))), Ot 72 67 (.ins (.faddr 1 (Tm 71))), Ot 73 67 (.ins (.load1 (Tm 72))), Ot 74 67 (.int2 .leq .i64 (Tm 69) (Tm 73)), Oi 75 (.pick (Tm 67) (Tm 74) (Kb false)), Mv 6 75]) .ret) .skip)))))) (.seq (.seq (.ops [Oi 76 (.faddr 8 (Tm 4)), Oi 77 (.load1 (Tm 76)), Op 78 (.lenS (Tm 77)), Oi 79 (.mv (Kn 0))]) (.block 1 (.loop (wfj 0)))) (.seq (.ops [Oi 6 (.mv (Kb true))]) .ret))))), [(.tmp 6)]⟩
theorem wcs : trF Try.prog 90 = some wco := by kernel_rfl
noncomputable def wxbb : RF := ⟨40, (.seq (.ops [Oi 1 (.box 46 (Tm 0)), Oi 2 (.mv (Kb false))]) (.seq (.seq (.ops [Oi 3 (.faddr 0 (Tm 1)), Oi 4 (.load1 (Tm 3)), Op 5 (.int2 .neq .i64 (Tm 4) (Kn 1)), Mv 6 5, Ot 7 6 (.ins (.faddr 4 (Tm 1))), Ot 8 6 (.ins (.loadN 4 (Tm 7))), Ot 9 6 (.ins (.build [(.int .u64 0), (.int .u64 0), (.int .u64 0), (.int .u64 0)] [])), Ot 10 6 (.eqc true [(.int .u64), (.int .u64), (.int .u64), (.int .u64)] (Tm 8) (Tm 9)), Oi 11 (.pick (Tm 6) (Tm 10) (Kb false)), Mv 12 11, Of 13 12 (.ins (.faddr 0 (Tm 1))), Of 14 12 (.ins (.load1 (Tm 13))), Of 15 12 (.int2 .neq .i64 (Tm 14) (Kn 4)), Of 16 12 (.ins (.mv (Tm 15))), Ot 17 16 (.ins (.faddr 1 (Tm 1))), Ot 18 16 (.ins (.load1 (Tm 17))), Ot 19 16 (.int2 .neq .i64 (Tm 18) (Kn 0)), Ot 20 16 (.ins (.mv (Tm 19))), Of 21 20 (.ins (.faddr 2 (Tm 1))), Of 22 20 (.ins (.load1 (Tm 21))), Of 23 20 (.int2 .neq .i64 (Tm 22) (Kn 0)), Ot 24 16 (.ins (.pick (Tm 20) (Kb true) (Tm 23))), Of 25 12 (.ins (.pick (Tm 16) (Tm 24) (Kb false))), Oi 26 (.pick (Tm 12) (Kb true) (Tm 25))]) (.cond (Tm 26) (.seq (.ops [Oi 2 (.mv (Kb false))]) .ret) .skip)) (.seq (.ops [Oi 27 (.faddr 0 (Tm 1)), Oi 28 (.load1 (Tm 27)), Op 29 (.int2 .eql .i64 (Tm 28) (Kn 5)), Mv 30 29, Of 31 30 (.ins (.faddr 0 (Tm 1))), Of 32 30 (.ins (.load1 (Tm 31))), Of 33 30 (.int2 .eql .i64 (Tm 32) (Kn 6)), Oi 34 (.pick (Tm 30) (Kb true) (Tm 33)), Mv 35 34, Of 36 35 (.ins (.faddr 3 (Tm 1))), Of 37 35 (.ins (.load1 (Tm 36))), Of 38 35 (.int2 .eql .i64 (Tm 37) (Kn 0)), Oi 39 (.pick (Tm 35) (Kb true) (Tm 38)), Mv 2 39]) .ret))), [(.tmp 2)]⟩
theorem wjeb : trF Try.prog 107 = some wxbb := by kernel_rfl
noncomputable def wybb : RF := ⟨65, (.seq (.ops [Oi 1 (.box 46 (Tm 0)), Oi 2 (.mv (Kb false))]) (.seq (.ops [Oi 4 (.faddr 8 (Tm 1)), Oi 5 (.load1 (Tm 4)), Op 6 (.lenS (Tm 5)), Mv 3 6]) (.seq (.seq (.ops [Oi 7 (.faddr 0 (Tm 1)), Oi 8 (.load1 (Tm 7))]) (.block 0 (.seq (.ops [Op 10 (.int2 .eql .i64 (Tm 8) (Kn 1)), Mv 9 10]) (.cond (Tm 9) (.seq (.ops [Mv 11 3, Op 12 (.int2 .eql .i64 (Tm 11) (Kn 0)), Mv 13 12, Ot 14 13 (.ins (.faddr 4 (Tm 1))), Ot 15 13 (.ins (.loadN 4 (Tm 14))), Ot 16 13 (.ins (.build [(.int .u64 0), (.int .u64 0), (.int .u64 0), (.int .u64 0)] [])), Ot 17 13 (.eqc true [(.int .u64), (.int .u64), (.int .u64), (.int .u64)] (Tm 15) (Tm 16)), Oi 18 (.pick (Tm 13) (Tm 17) (Kb false)), Mv 2 18]) .ret) (.seq (.ops [Op 20 (.int2 .eql .i64 (Tm 8) (Kn 2)), Mv 19 20]) (.cond (Tm 19) (.seq (.ops [Mv 21 3, Op 22 (.int2 .neq .i64 (Tm 21) (Kn 1)), Mv 23 22, Ot 24 23 (.ins (.faddr 8 (Tm 1))), Ot 25 23 (.ins (.load1 (Tm 24))), Ot 26 23 (.ins (.bslice 3 2 [(.int .i64 0), (.int .i64 0)] [(0, (1, (Kn 2))), (1, (1, (Kn 3)))])), Ot 27 23 (.ins (.call 133 [(Tm 25), (Tm 26)])), Ot 28 23 (.un .not (Tm 27)), Oi 29 (.pick (Tm 23) (Tm 28) (Kb false)), Mv 2 29]) .ret) (.seq (.ops [Op 31 (.int2 .eql .i64 (Tm 8) (Kn 3)), Mv 30 31]) (.cond (Tm 30) (.seq (.ops [Mv 32 3, Op 33 (.int2 .geq .i64 (Tm 32) (Kn 2)), Mv 34 33, Ot 35 34 (.ins (.faddr 8 (Tm 1))), Ot 36 34 (.ins (.load1 (Tm 35))), Ot 37 34 (.ins (.bslice 3 1 [(.int .i64 0)] [(0, (1, (Kn 3)))])), Ot 38 34 (.ins (.call 133 [(Tm 36), (Tm 37)])), Ot 39 34 (.un .not (Tm 38)), Oi 40 (.pick (Tm 34) (Tm 39) (Kb false)), Mv 2 40]) .ret) (.seq (.ops [Op 42 (.int2 .eql .i64 (Tm 8) (Kn 4)), Mv 41 42]) (.cond (Tm 41) (.seq (.ops [Mv 43 3, Op 44 (.int2 .eql .i64 (Tm 43) (Kn 1)), Mv 45 44, Ot 46 45 (.ins (.faddr 8 (Tm 1))), Ot 47 45 (.ins (.load1 (Tm 46))), Ot 48 45 (.ins (.bslice 3 3 [(.int .i64 0), (.int .i64 0), (.int .i64 0)] [(0, (1, (Kn 1))), (1, (1, (Kn 5))), (2, (1, (Kn 6)))])), Ot 49 45 (.ins (.call 133 [(Tm 47), (Tm 48)])), Oi 50 (.pick (Tm 45) (Tm 49) (Kb false)), Mv 51 50, Ot 52 51 (.ins (.loadN 9 (Tm 1))), Ot 53 51 (.ins (.call 134 [(Tm 52)])), Oi 54 (.pick (Tm 51) (Tm 53) (Kb false)), Mv 2 54]) .ret) (.seq (.ops [Op 56 (.int2 .eql .i64 (Tm 8) (Kn 5)), Mv 55 56]) (.cond (Tm 55) (.seq (.ops [Mv 57 3, Op 58 (.int2 .eql .i64 (Tm 57) (Kn 1)), Mv 2 58]) .ret) (.seq (.seq (.ops [Op 60 (.int2 .eql .i64 (Tm 8) (Kn 6)), Mv 59 60]) (.cond (Tm 59) .skip (.seq (.ops [Op 61 (.int2 .eql .i64 (Tm 8) (Kn 7)), Mv 59 61]) (.cond (Tm 59) .skip (.ops [Op 62 (.int2 .eql .i64 (Tm 8) (Kn 8)), Mv 59 62]))))) (.cond (Tm 59) (.seq (.ops [Mv 63 3, Op 64 (.int2 .eql .i64 (Tm 63) (Kn 0)), Mv 2 64]) .ret) .skip)))))))))))))) (.seq (.ops [Oi 2 (.mv (Kb false))]) .ret)))), [(.tmp 2)]⟩
theorem wkeb : trF Try.prog 108 = some wybb := by kernel_rfl
noncomputable def wlz : RF := ⟨14, (.seq (.ops [Oi 2 (.box 43 (Tm 0)), Oi 4 (.mv (Kb false))]) (.seq (.ops [Mv 5 1, Op 6 (.int2 .quo .u8 (Tm 5) (.const (.int .u8 64))), Oi 7 (.iaddrA 4 1 (Tm 2) (Tm 6)), Oi 8 (.load1 (Tm 7)), Mv 9 1, Op 10 (.int2 .rem .u8 (Tm 9) (.const (.int .u8 64))), Op 11 (.shift .shr (Tm 8) (Tm 10)), Op 12 (.int2 .and .u64 (Tm 11) (.const (.int .u64 1))), Op 13 (.int2 .eql .u64 (Tm 12) (.const (.int .u64 1))), Mv 4 13]) .ret)), [(.tmp 4)]⟩
theorem wrab : trF Try.prog 46 = some wlz := by kernel_rfl
noncomputable def wcib : RF := ⟨8, (.seq (.ops [Oi 3 (.box 38 (Tm 1)), Oi 4 (.mv (Kb false))]) (.seq (.ops [Mv 5 0, Oi 6 (.mkfn (.func 150) [] [(Tm 3)]), Oi 7 (.call 149 [(Tm 5), (Tm 6)]), Mv 4 7]) .ret)), [(.tmp 4)]⟩
theorem wdib : trF Try.prog 133 = some wcib := by kernel_rfl
noncomputable def weib : RF := ⟨29, (.seq (.ops [Oi 1 (.box 46 (Tm 0)), Oi 2 (.mv (Kb false))]) (.seq (.ops [Oi 3 (.faddr 1 (Tm 1)), Oi 4 (.load1 (Tm 3)), Op 5 (.int2 .geq .i64 (Tm 4) (Kn 0)), Mv 6 5, Ot 7 6 (.ins (.faddr 1 (Tm 1))), Ot 8 6 (.ins (.load1 (Tm 7))), Ot 9 6 (.int2 .leq .i64 (Tm 8) (Kn 20)), Oi 10 (.pick (Tm 6) (Tm 9) (Kb false)), Mv 11 10, Ot 12 11 (.ins (.faddr 2 (Tm 1))), Ot 13 11 (.ins (.load1 (Tm 12))), Ot 14 11 (.int2 .eql .i64 (Tm 13) (Kn (-1))), Ot 15 11 (.ins (.mv (Tm 14))), Of 16 15 (.ins (.faddr 2 (Tm 1))), Of 17 15 (.ins (.load1 (Tm 16))), Of 18 15 (.ins (.faddr 1 (Tm 1))), Of 19 15 (.ins (.load1 (Tm 18))), Of 20 15 (.mm true (Tm 19) [(Kn 1)]), Of 21 15 (.int2 .geq .i64 (Tm 17) (Tm 20)), Of 22 15 (.ins (.mv (Tm 21))), Ot 23 22 (.ins (.faddr 2 (Tm 1))), Ot 24 22 (.ins (.load1 (Tm 23))), Ot 25 22 (.int2 .leq .i64 (Tm 24) (Kn 20)), Of 26 15 (.ins (.pick (Tm 22) (Tm 25) (Kb false))), Ot 27 11 (.ins (.pick (Tm 15) (Kb true) (Tm 26))), Oi 28 (.pick (Tm 11) (Tm 27) (Kb false)), Mv 2 28]) .ret)), [(.tmp 2)]⟩
theorem wfib : trF Try.prog 134 = some weib := by kernel_rfl
noncomputable def wog : RF := ⟨9, (.seq (.ops [Oi 4 (.mv (Kb false))]) (.seq (.ops [Mv 5 0, Mv 6 1, Oi 7 (.call 162 [(Tm 5), (Tm 6)]), Op 8 (.int2 .geq .i64 (Tm 7) (Kn 0)), Mv 4 8]) .ret)), [(.tmp 4)]⟩
theorem wbj : trF Try.prog 149 = some wog := by kernel_rfl
noncomputable def wmz : RF := ⟨8, (.seq (.ops [Oi 2 (.box 46 (Tm 0)), Oi 3 (.mv (Kb false))]) (.seq (.ops [Oi 4 (.load1 (Tm 1)), Oi 5 (.faddr 0 (Tm 2)), Oi 6 (.load1 (Tm 5)), Oi 7 (.call 151 [(Tm 4), (Tm 6)]), Mv 3 7]) .ret)), [(.tmp 3)]⟩
theorem wsab : trF Try.prog 150 = some wmz := by kernel_rfl
noncomputable def wkj : RF := ⟨9, (.seq (.ops [Oi 4 (.mv (Kb false))]) (.seq (.ops [Mv 5 0, Mv 6 1, Oi 7 (.call 163 [(Tm 5), (Tm 6)]), Op 8 (.int2 .geq .i64 (Tm 7) (Kn 0)), Mv 4 8]) .ret)), [(.tmp 4)]⟩
theorem wdm : trF Try.prog 151 = some wkj := by kernel_rfl
noncomputable def wae (i : Nat) : Code := lp Try.prog 162 i
noncomputable def wjc : RC := (.seq (.ops [Op 9 (.int2 .lss .i64 (Tm 8) (Tm 7))]) (.seq (.cond (Tm 9) .skip (.exit 0)) (.seq (.block 1 (.seq (.ops [Mv 10 8, Mv 5 10]) (.seq (.ops [Mv 11 1, Mv 12 0, Mv 13 5, Oi 14 (.iaddrS 9 (Tm 12) (Tm 13)), Oi 15 (.loadN 9 (Tm 14)), Oi 16 (.dyn (Tm 11) [(Tm 15)])]) (.cond (Tm 16) (.seq (.ops [Mv 17 5, Mv 4 17]) .ret) .skip)))) (.ops [Op 18 (.int2 .add .i64 (Tm 8) (Kn 1)), Mv 8 18]))))
theorem wyc : trC Try.prog (wae 0) = wjc := by kernel_rfl
noncomputable def wlh : RF := ⟨19, (.seq (.ops [Oi 4 (.mv (Kn 0))]) (.seq (.seq (.ops [Mv 6 0, Op 7 (.lenS (Tm 6)), Oi 8 (.mv (Kn 0))]) (.block 0 (.loop (wae 0)))) (.seq (.ops [Oi 4 (.mv (Kn (-1)))]) .ret))), [(.tmp 4)]⟩
theorem wsj : trF Try.prog 162 = some wlh := by kernel_rfl
noncomputable def wmg (i : Nat) : Code := lp Try.prog 163 i
noncomputable def wye : RC := (.seq (.ops [Op 9 (.int2 .lss .i64 (Tm 8) (Tm 7))]) (.seq (.cond (Tm 9) .skip (.exit 0)) (.seq (.block 1 (.seq (.ops [Mv 10 8, Mv 5 10]) (.seq (.ops [Mv 11 1, Mv 12 0, Mv 13 5, Oi 14 (.iaddrS 1 (Tm 12) (Tm 13)), Oi 15 (.load1 (Tm 14)), Op 16 (.int2 .eql .i64 (Tm 11) (Tm 15))]) (.cond (Tm 16) (.seq (.ops [Mv 17 5, Mv 4 17]) .ret) .skip)))) (.ops [Op 18 (.int2 .add .i64 (Tm 8) (Kn 1)), Mv 8 18]))))
theorem wbf : trC Try.prog (wmg 0) = wye := by kernel_rfl
noncomputable def wpk : RF := ⟨19, (.seq (.ops [Oi 4 (.mv (Kn 0))]) (.seq (.seq (.ops [Mv 6 0, Op 7 (.lenS (Tm 6)), Oi 8 (.mv (Kn 0))]) (.block 0 (.loop (wmg 0)))) (.seq (.ops [Oi 4 (.mv (Kn (-1)))]) .ret))), [(.tmp 4)]⟩
theorem wcn : trF Try.prog 163 = some wpk := by kernel_rfl
noncomputable def wgj (i : Nat) : Code := lp Try.prog 21 i
noncomputable def wbk : RC := (.seq (.seq (.ops [Mv 7 6, Mv 8 0, Op 9 (.lenS (Tm 8)), Op 10 (.int2 .lss .i64 (Tm 7) (Tm 9)), Mv 11 10, Ot 12 11 (.ins (.mv (Tm 6))), Ot 13 11 (.ins (.mv (Tm 1))), Ot 14 11 (.int2 .lss .i64 (Tm 12) (Tm 13)), Oi 15 (.pick (Tm 11) (Tm 14) (Kb false))]) (.cond (Tm 15) .skip (.exit 0))) (.seq (.block 1 (.ops [Mv 18 5, Oi 19 (.bslice 5 8 [(.int .u8 0), (.int .u8 0), (.int .u8 0), (.int .u8 0), (.int .u8 0), (.int .u8 0), (.int .u8 0), (.int .u8 0)] [(0, (1, (.const (.int .u8 97)))), (1, (1, (.const (.int .u8 98)))), (2, (1, (.const (.int .u8 97)))), (3, (1, (.const (.int .u8 99)))), (4, (1, (.const (.int .u8 98)))), (5, (1, (.const (.int .u8 46)))), (6, (1, (.const (.int .u8 97)))), (7, (1, (.const (.int .u8 32))))]), Mv 20 0, Mv 21 6, Oi 22 (.iaddrS 1 (Tm 20) (Tm 21)), Oi 23 (.load1 (Tm 22)), Oi 24 (.call 10 [(Tm 23), (Kn 0), (Kn 7)]), Oi 25 (.iaddrS 1 (Tm 19) (Tm 24)), Oi 26 (.load1 (Tm 25)), Oi 27 (.bslice 5 1 [(.int .u8 0)] [(0, (1, (Tm 26)))]), Op 28 (.b2s (Tm 27)), Op 29 (.str2 .add (Tm 18) (Tm 28)), Mv 5 29])) (.ops [Mv 16 6, Op 17 (.int2 .add .i64 (Tm 16) (Kn 1)), Mv 6 17])))
theorem wvk : trC Try.prog (wgj 0) = wbk := by kernel_rfl
noncomputable def wdo : RF := ⟨31, (.seq (.ops [Oi 4 (.mv (.const (str [])))]) (.seq (.ops [Oi 5 (.mv (.const (str [])))]) (.seq (.seq (.ops [Oi 6 (.mv (Kn 0))]) (.block 0 (.loop (wgj 0)))) (.seq (.ops [Mv 30 5, Mv 4 30]) .ret)))), [(.tmp 4)]⟩
theorem wds : trF Try.prog 21 = some wdo := by kernel_rfl
noncomputable def wmh (i : Nat) : Code := lp Try.prog 40 i
noncomputable def wji : RC := (.seq (.seq (.ops [Mv 11 5, Mv 12 0, Op 13 (.lenS (Tm 12)), Op 14 (.int2 .lss .i64 (Tm 11) (Tm 13))]) (.cond (Tm 14) .skip (.exit 0))) (.seq (.block 1 (.seq (.draw #[0, 0, 3, 7, 0, 0, 48, 112, 255] [Mv 17 0, Mv 18 5, Oi 19 (.iaddrS 1 (Tm 17) (Tm 18)), Oi 20 (.load1 (Tm 19)), Mv 21 1, Mv 22 5, Oi 23 (.iaddrS 1 (Tm 21) (Tm 22)), Oi 24 (.load1 (Tm 23)), Op 25 (.int2 .neq .i64 (Tm 20) (Tm 24))]) (.cond (Tm 25) (.seq (.ops [Oi 4 (.mv (Kb false))]) .ret) .skip))) (.ops [Mv 15 5, Op 16 (.int2 .add .i64 (Tm 15) (Kn 1)), Mv 5 16])))
theorem wlj : trC Try.prog (wmh 0) = wji := by kernel_rfl
noncomputable def wsl : RF := ⟨26, (.seq (.ops [Oi 4 (.mv (Kb false))]) (.seq (.seq (.ops [Mv 6 0, Op 7 (.lenS (Tm 6)), Mv 8 1, Op 9 (.lenS (Tm 8)), Op 10 (.int2 .neq .i64 (Tm 7) (Tm 9))]) (.cond (Tm 10) (.seq (.ops [Oi 4 (.mv (Kb false))]) .ret) .skip)) (.seq (.seq (.ops [Oi 5 (.mv (Kn 0))]) (.block 0 (.loop (wmh 0)))) (.seq (.ops [Oi 4 (.mv (Kb true))]) .ret)))), [(.tmp 4)]⟩
theorem weo : trF Try.prog 40 = some wsl := by kernel_rfl
noncomputable def wom (i : Nat) : Code := lp Try.prog 37 i
noncomputable def wxq : RC := (.seq (.ops [Op 9 (.int2 .lss .i64 (Tm 8) (Tm 7))]) (.seq (.cond (Tm 9) .skip (.exit 0)) (.seq (.block 1 (.seq (.ops [Oi 10 (.iaddrS 1 (Tm 6) (Tm 8)), Oi 11 (.load1 (Tm 10)), Mv 5 11]) (.ops [Mv 12 5, Op 13 (.int2 .quo .u8 (Tm 12) (.const (.int .u8 64))), Oi 14 (.iaddrA 4 1 (Tm 3) (Tm 13)), Oi 15 (.load1 (Tm 14)), Mv 16 5, Op 17 (.int2 .rem .u8 (Tm 16) (.const (.int .u8 64))), Op 18 (.shift .shl (.const (.int .u64 1)) (Tm 17)), Op 19 (.int2 .or .u64 (Tm 15) (Tm 18)), Oi 20 (.iaddrA 4 1 (Tm 3) (Tm 13)), On (.store 1 (Tm 20) (Tm 19))]))) (.ops [Op 21 (.int2 .add .i64 (Tm 8) (Kn 1)), Mv 8 21]))))
theorem wyq : trC Try.prog (wom 0) = wxq := by kernel_rfl
noncomputable def wzbb : RF := ⟨23, (.seq (.ops [Oi 2 (.new [(.int .u64 0), (.int .u64 0), (.int .u64 0), (.int .u64 0)] 43)]) (.seq (.ops [Oi 3 (.new [(.int .u64 0), (.int .u64 0), (.int .u64 0), (.int .u64 0)] 43)]) (.seq (.seq (.ops [Mv 6 0, Op 7 (.lenS (Tm 6)), Oi 8 (.mv (Kn 0))]) (.block 0 (.loop (wom 0)))) (.seq (.ops [Oi 22 (.loadN 4 (Tm 3)), On (.store 4 (Tm 2) (Tm 22))]) .ret)))), [(.cellN 2 4)]⟩
theorem wleb : trF Try.prog 37 = some wzbb := by kernel_rfl
noncomputable def wcl (i : Nat) : Code := lp Try.prog 31 i
noncomputable def wqk : RC := (.seq (.ops [Op 19 (.int2 .lss .i64 (Tm 18) (Tm 17))]) (.seq (.cond (Tm 19) .skip (.exit 0)) (.seq (.block 1 (.seq (.ops [Oi 20 (.iaddrS 9 (Tm 16) (Tm 18)), Oi 21 (.loadN 9 (Tm 20)), Oi 11 (.new [(.int .i64 0), (.int .i64 0), (.int .i64 0), (.int .i64 0), (.int .i64 0), (.int .i64 0), (.int .i64 0), (.int .i64 0), (.int .i64 0)] 81), On (.store 9 (Tm 11) (Tm 21))]) (.ops [Mv 22 9, Oi 23 (.faddr 0 (Tm 11)), Oi 24 (.load1 (Tm 23)), Oi 25 (.bslice 3 1 [(.int .i64 0)] [(0, (1, (Tm 24)))]), Oi 26 (.app 3 1 8 (Tm 22) (Tm 25)), Mv 9 26]))) (.ops [Op 27 (.int2 .add .i64 (Tm 18) (Kn 1)), Mv 18 27]))))
theorem wyj : trC Try.prog (wcl 0) = wqk := by kernel_rfl
noncomputable def wet : RF := ⟨32, (.seq (.ops [Oi 4 (.box 46 (Tm 0)), Oi 8 (.mv (.const (.slice none 0 0)))]) (.seq (.ops [Oi 9 (.mv (.const (.slice none 0 0)))]) (.seq (.seq (.ops [Oi 12 (.loadN 9 (Tm 4)), Mv 13 1, Mv 14 2, Mv 15 3, Oi 16 (.call 30 [(Tm 12), (Tm 13), (Tm 14), (Tm 15)]), Op 17 (.lenS (Tm 16)), Oi 18 (.mv (Kn 0))]) (.block 0 (.loop (wcl 0)))) (.seq (.ops [Mv 28 9, Oi 29 (.call 68 [(Tm 28)])]) (.seq (.ops [Mv 30 9, Oi 31 (.call 69 [(Tm 30)]), Mv 8 31]) .ret))))), [(.tmp 8)]⟩
theorem wls : trF Try.prog 31 = some wet := by kernel_rfl
noncomputable def wsi : RF := ⟨11, (.seq (.ops [Mv 3 0, Op 4 (.lenS (Tm 3)), Mv 2 4]) (.ops [Mv 5 0, Mv 6 2, Mv 7 2, Op 8 (.conv .u64 (Tm 7)), Oi 9 (.call 100 [(Tm 8)]), Oi 10 (.call 99 [(Tm 5), (Kn 0), (Tm 6), (Tm 9)])])), []⟩
theorem wtj : trF Try.prog 68 = some wsi := by kernel_rfl
noncomputable def wze (i : Nat) : Code := lp Try.prog 69 i
noncomputable def wxg : RC := (.seq (.seq (.ops [Mv 10 3, Mv 11 0, Op 12 (.lenS (Tm 11)), Op 13 (.int2 .lss .i64 (Tm 10) (Tm 12))]) (.cond (Tm 13) .skip (.exit 0))) (.seq (.block 1 (.seq (.draw #[0, 0, 3, 7, 0, 0, 32, 112, 240, 511] [Mv 16 0, Mv 17 3, Oi 18 (.iaddrS 1 (Tm 16) (Tm 17)), Oi 19 (.load1 (Tm 18)), Mv 20 0, Mv 21 3, Op 22 (.int2 .sub .i64 (Tm 21) (Kn 1)), Oi 23 (.iaddrS 1 (Tm 20) (Tm 22)), Oi 24 (.load1 (Tm 23)), Op 25 (.int2 .eql .i64 (Tm 19) (Tm 24))]) (.cond (Tm 25) (.seq (.ops [Mv 26 0, Mv 27 3, Op 28 (.slS 1 (Tm 26) (some (Tm 27)) none none), Mv 4 28]) (.seq (.seq (.ops [Oi 5 (.mv (Kn 1))]) (.block 2 (.loop (wze 1)))) (.seq (.ops [Mv 54 0, Mv 55 3, Op 56 (.slS 1 (Tm 54) (some (Tm 55)) none none), ⟨none, none, .bad⟩]) (.seq (.ops [Mv 57 0, Mv 58 3, Op 59 (.slS 1 (Tm 57) none (some (Tm 58)) none), Mv 2 59]) .ret)))) .skip))) (.ops [Mv 14 3, Op 15 (.int2 .add .i64 (Tm 14) (Kn 1)), Mv 3 15])))
theorem wci : trC Try.prog (wze 0) = wxg := by kernel_rfl
noncomputable def wqh : RF := ⟨61, (.seq (.ops [Oi 2 (.mv (.const (.slice none 0 0)))]) (.seq (.seq (.ops [Mv 6 0, Op 7 (.lenS (Tm 6)), Op 8 (.int2 .lss .i64 (Tm 7) (Kn 2))]) (.cond (Tm 8) (.seq (.ops [Mv 9 0, Mv 2 9]) .ret) .skip)) (.seq (.seq (.ops [Oi 3 (.mv (Kn 1))]) (.block 0 (.loop (wze 0)))) (.seq (.ops [Mv 60 0, Mv 2 60]) .ret)))), [(.tmp 2)]⟩
theorem wwi : trF Try.prog 69 = some wqh := by kernel_rfl
noncomputable def wnp : RF := ⟨6, (.seq (.ops [Oi 2 (.mv (Kb false))]) (.seq (.ops [Mv 3 0, Mv 4 0, Op 5 (.int2 .neq .i64 (Tm 3) (Tm 4)), Mv 2 5]) .ret)), [(.tmp 2)]⟩
theorem wft : trF Try.prog 78 = some wnp := by kernel_rfl
noncomputable def wbe (i : Nat) : Code := lp Try.prog 99 i
noncomputable def wrf : RC := (.block 1 (.seq (.ops [Mv 19 2, Mv 20 1, Op 21 (.int2 .sub .i64 (Tm 19) (Tm 20)), Mv 10 21]) (.seq (.seq (.ops [Mv 22 10, Op 23 (.int2 .leq .i64 (Tm 22) (Kn 12))]) (.cond (Tm 23) (.seq (.ops [Mv 24 0, Mv 25 1, Mv 26 2, Oi 27 (.call 115 [(Tm 24), (Tm 25), (Tm 26)])]) .ret) .skip)) (.seq (.seq (.ops [Mv 28 3, Op 29 (.int2 .eql .i64 (Tm 28) (Kn 0))]) (.cond (Tm 29) (.seq (.ops [Mv 30 0, Mv 31 1, Mv 32 2, Oi 33 (.call 116 [(Tm 30), (Tm 31), (Tm 32)])]) .ret) .skip)) (.seq (.seq (.ops [Mv 34 8, Op 35 (.un .not (Tm 34))]) (.cond (Tm 35) (.seq (.ops [Mv 36 0, Mv 37 1, Mv 38 2, Oi 39 (.call 117 [(Tm 36), (Tm 37), (Tm 38)])]) (.ops [Mv 40 3, Op 41 (.int2 .sub .i64 (Tm 40) (Kn 1)), Mv 3 41])) .skip)) (.seq (.ops [Mv 43 0, Mv 44 1, Mv 45 2, Oi 46 (.call 118 [(Tm 43), (Tm 44), (Tm 45)]), Mv 42 46, Oi 47 (.ext (Tm 42) 0), Oi 48 (.ext (Tm 42) 1), Mv 11 47, Mv 12 48]) (.seq (.seq (.ops [Mv 49 12, Op 50 (.int2 .eql .i64 (Tm 49) (Kn 2))]) (.cond (Tm 50) (.seq (.ops [Mv 51 0, Mv 52 1, Mv 53 2, Oi 54 (.call 119 [(Tm 51), (Tm 52), (Tm 53)])]) (.seq (.ops [Mv 55 2, Op 56 (.int2 .sub .i64 (Tm 55) (Kn 1)), Mv 57 11, Mv 58 1, Op 59 (.int2 .sub .i64 (Tm 57) (Tm 58)), Op 60 (.int2 .sub .i64 (Tm 56) (Tm 59)), Mv 11 60]) (.ops [Oi 12 (.mv (Kn 1))]))) .skip)) (.seq (.seq (.ops [Mv 61 8, Mv 62 61, Ot 63 62 (.ins (.mv (Tm 9))), Oi 64 (.pick (Tm 62) (Tm 63) (Kb false)), Mv 65 64, Ot 66 65 (.ins (.mv (Tm 12))), Ot 67 65 (.int2 .eql .i64 (Tm 66) (Kn 1)), Oi 68 (.pick (Tm 65) (Tm 67) (Kb false))]) (.cond (Tm 68) (.seq (.ops [Mv 69 0, Mv 70 1, Mv 71 2, Oi 72 (.call 120 [(Tm 69), (Tm 70), (Tm 71)])]) (.cond (Tm 72) .ret .skip)) .skip)) (.seq (.seq (.draw #[0, 1, 3, 7, 7, 23, 63, 127, 7, 7, 775, 1799, 4095, 8191, 16383] [Mv 73 1, Op 74 (.int2 .gtr .i64 (Tm 73) (Kn 0)), Mv 75 74, Ot 76 75 (.ins (.mv (Tm 0))), Ot 77 75 (.ins (.mv (Tm 1))), Ot 78 75 (.int2 .sub .i64 (Tm 77) (Kn 1)), Ot 79 75 (.ins (.iaddrS 1 (Tm 76) (Tm 78))), Ot 80 75 (.ins (.load1 (Tm 79))), Ot 81 75 (.ins (.mv (Tm 0))), Ot 82 75 (.ins (.mv (Tm 11))), Ot 83 75 (.ins (.iaddrS 1 (Tm 81) (Tm 82))), Ot 84 75 (.ins (.load1 (Tm 83))), Ot 85 75 (.ins (.call 121 [(Tm 80), (Tm 84)])), Ot 86 75 (.un .not (Tm 85)), Oi 87 (.pick (Tm 75) (Tm 86) (Kb false))]) (.cond (Tm 87) (.seq (.ops [Mv 88 0, Mv 89 1, Mv 90 2, Mv 91 11, Oi 92 (.call 122 [(Tm 88), (Tm 89), (Tm 90), (Tm 91)]), Mv 13 92]) (.seq (.ops [Mv 93 13, Mv 1 93]) (.exit 1))) .skip)) (.seq (.ops [Mv 95 0, Mv 96 1, Mv 97 2, Mv 98 11, Oi 99 (.call 123 [(Tm 95), (Tm 96), (Tm 97), (Tm 98)]), Mv 94 99, Oi 100 (.ext (Tm 94) 0), Oi 101 (.ext (Tm 94) 1), Mv 14 100, Mv 15 101]) (.seq (.ops [Mv 102 15, Mv 9 102]) (.seq (.ops [Mv 103 14, Mv 104 1, Op 105 (.int2 .sub .i64 (Tm 103) (Tm 104)), Mv 106 2, Mv 107 14, Op 108 (.int2 .sub .i64 (Tm 106) (Tm 107)), Mv 16 105, Mv 17 108]) (.seq (.ops [Mv 109 10, Op 110 (.int2 .quo .i64 (Tm 109) (Kn 8)), Mv 18 110]) (.seq (.ops [Mv 111 16, Mv 112 17, Op 113 (.int2 .lss .i64 (Tm 111) (Tm 112))]) (.cond (Tm 113) (.seq (.ops [Mv 114 16, Mv 115 18, Op 116 (.int2 .geq .i64 (Tm 114) (Tm 115)), Mv 8 116]) (.seq (.ops [Mv 117 0, Mv 118 1, Mv 119 14, Mv 120 3, Oi 121 (.call 99 [(Tm 117), (Tm 118), (Tm 119), (Tm 120)])]) (.ops [Mv 122 14, Op 123 (.int2 .add .i64 (Tm 122) (Kn 1)), Mv 1 123]))) (.seq (.ops [Mv 124 17, Mv 125 18, Op 126 (.int2 .geq .i64 (Tm 124) (Tm 125)), Mv 8 126]) (.seq (.ops [Mv 127 0, Mv 128 14, Op 129 (.int2 .add .i64 (Tm 128) (Kn 1)), Mv 130 2, Mv 131 3, Oi 132 (.call 99 [(Tm 127), (Tm 129), (Tm 130), (Tm 131)])]) (.ops [Mv 133 14, Mv 2 133]))))))))))))))))))
theorem wnh : trC Try.prog (wbe 0) = wrf := by kernel_rfl
noncomputable def wng : RF := ⟨134, (.seq (.ops [Oi 8 (.mv (Kb true))]) (.seq (.ops [Oi 9 (.mv (Kb true))]) (.block 0 (.loop (wbe 0))))), []⟩
theorem wzh : trF Try.prog 99 = some wng := by kernel_rfl
noncomputable def wop : RF := ⟨8, (.seq (.ops [Oi 2 (.mv (Kn 0))]) (.seq (.cond (Kb false) (.seq (.ops [Mv 3 0, Op 4 (.conv .u32 (Tm 3)), Oi 5 (.call 124 [(Tm 4)]), Mv 2 5]) .ret) .skip) (.seq (.ops [Mv 6 0, Oi 7 (.call 125 [(Tm 6)]), Mv 2 7]) .ret))), [(.tmp 2)]⟩
theorem wgt : trF Try.prog 100 = some wop := by kernel_rfl
noncomputable def wib (i : Nat) : Code := lp Try.prog 115 i
noncomputable def wdd : RC := (.seq (.seq (.draw #[0, 0, 3, 7, 15, 15, 63, 127, 15, 15, 527, 1807, 3855, 8191, 16383] [Mv 16 7, Mv 17 1, Op 18 (.int2 .gtr .i64 (Tm 16) (Tm 17)), Mv 19 18, Ot 20 19 (.ins (.mv (Tm 0))), Ot 21 19 (.ins (.mv (Tm 7))), Ot 22 19 (.ins (.iaddrS 1 (Tm 20) (Tm 21))), Ot 23 19 (.ins (.load1 (Tm 22))), Ot 24 19 (.ins (.mv (Tm 0))), Ot 25 19 (.ins (.mv (Tm 7))), Ot 26 19 (.int2 .sub .i64 (Tm 25) (Kn 1)), Ot 27 19 (.ins (.iaddrS 1 (Tm 24) (Tm 26))), Ot 28 19 (.ins (.load1 (Tm 27))), Ot 29 19 (.ins (.call 121 [(Tm 23), (Tm 28)])), Oi 30 (.pick (Tm 19) (Tm 29) (Kb false))]) (.cond (Tm 30) .skip (.exit 2))) (.seq (.block 3 (.draw #[0, 0, 0, 0, 8, 0, 0, 64, 224, 480, 0, 0, 3072, 7168, 16355, 32739, 65535, 131071] [Mv 33 0, Mv 34 7, Mv 35 0, Mv 36 7, Op 37 (.int2 .sub .i64 (Tm 36) (Kn 1)), Mv 38 0, Mv 39 7, Op 40 (.int2 .sub .i64 (Tm 39) (Kn 1)), Oi 41 (.iaddrS 1 (Tm 38) (Tm 40)), Oi 42 (.load1 (Tm 41)), Mv 43 0, Mv 44 7, Oi 45 (.iaddrS 1 (Tm 43) (Tm 44)), Oi 46 (.load1 (Tm 45)), Oi 47 (.iaddrS 1 (Tm 33) (Tm 34)), On (.store 1 (Tm 47) (Tm 42)), Oi 48 (.iaddrS 1 (Tm 35) (Tm 37)), On (.store 1 (Tm 48) (Tm 46))])) (.ops [Mv 31 7, Op 32 (.int2 .sub .i64 (Tm 31) (Kn 1)), Mv 7 32])))
theorem wfe : trC Try.prog (wib 1) = wdd := by kernel_rfl
noncomputable def wed : RC := (.seq (.seq (.ops [Mv 10 6, Mv 11 2, Op 12 (.int2 .lss .i64 (Tm 10) (Tm 11))]) (.cond (Tm 12) .skip (.exit 0))) (.seq (.block 1 (.seq (.ops [Mv 15 6, Mv 7 15]) (.block 2 (.loop (wib 1))))) (.ops [Mv 13 6, Op 14 (.int2 .add .i64 (Tm 13) (Kn 1)), Mv 6 14])))
theorem wge : trC Try.prog (wib 0) = wed := by kernel_rfl
noncomputable def wdf : RF := ⟨49, (.seq (.ops [Mv 8 1, Op 9 (.int2 .add .i64 (Tm 8) (Kn 1)), Mv 6 9]) (.block 0 (.loop (wib 0)))), []⟩
theorem wlg : trF Try.prog 115 = some wdf := by kernel_rfl
noncomputable def wzq : RF := ⟨17, (.seq (.ops [Oi 4 (.mv (Kb false))]) (.seq (.ops [Mv 5 0, Oi 6 (.call 78 [(Tm 5)]), Mv 7 6, Ot 8 7 (.ins (.mv (Tm 1))), Ot 9 7 (.ins (.call 78 [(Tm 8)])), Ot 10 7 (.un .not (Tm 9)), Oi 11 (.pick (Tm 7) (Tm 10) (Kb false)), Mv 12 11, Of 13 12 (.ins (.mv (Tm 0))), Of 14 12 (.ins (.mv (Tm 1))), Of 15 12 (.int2 .lss .i64 (Tm 13) (Tm 14)), Oi 16 (.pick (Tm 12) (Kb true) (Tm 15)), Mv 4 16]) .ret)), [(.tmp 4)]⟩
theorem wuu : trF Try.prog 121 = some wzq := by kernel_rfl
noncomputable def wkb (i : Nat) : Code := lp Try.prog 8 i
noncomputable def wef : RC := (.seq (.seq (.ops [Mv 37 10, Mv 38 14, Op 39 (.int2 .add .i64 (Tm 37) (Tm 38)), Mv 40 9, Op 41 (.slen (Tm 40)), Op 42 (.int2 .lss .i64 (Tm 39) (Tm 41)), Mv 43 42, Ot 44 43 (.ins (.mv (Tm 9))), Ot 45 43 (.ins (.mv (Tm 10))), Ot 46 43 (.ins (.mv (Tm 14))), Ot 47 43 (.int2 .add .i64 (Tm 45) (Tm 46)), Ot 48 43 (.sidx (Tm 44) (Tm 47)), Ot 49 43 (.int2 .eql .u8 (Tm 48) (.const (.int .u8 97))), Ot 50 43 (.ins (.mv (Tm 49))), Of 51 50 (.ins (.mv (Tm 9))), Of 52 50 (.ins (.mv (Tm 10))), Of 53 50 (.ins (.mv (Tm 14))), Of 54 50 (.int2 .add .i64 (Tm 52) (Tm 53)), Of 55 50 (.sidx (Tm 51) (Tm 54)), Of 56 50 (.int2 .eql .u8 (Tm 55) (.const (.int .u8 98))), Ot 57 43 (.ins (.pick (Tm 50) (Kb true) (Tm 56))), Oi 58 (.pick (Tm 43) (Tm 57) (Kb false))]) (.cond (Tm 58) .skip (.exit 0))) (.block 1 (.ops [Mv 59 14, Op 60 (.int2 .add .i64 (Tm 59) (Kn 1)), Mv 14 60])))
theorem wif : trC Try.prog (wkb 0) = wef := by kernel_rfl
noncomputable def wud : RC := (.seq (.seq (.ops [Mv 62 17, Mv 63 14, Op 64 (.int2 .leq .i64 (Tm 62) (Tm 63))]) (.cond (Tm 64) .skip (.exit 2))) (.seq (.block 3 (.seq (.seq (.ops [Mv 67 17, Mv 68 12, Op 69 (.int2 .leq .i64 (Tm 67) (Tm 68))]) (.cond (Tm 69) (.ops [Mv 70 15, Mv 71 10, Mv 72 17, Op 73 (.int2 .add .i64 (Tm 71) (Tm 72)), Oi 74 (.bslice 3 1 [(.int .i64 0)] [(0, (1, (Tm 73)))]), Oi 75 (.app 3 1 8 (Tm 70) (Tm 74)), Mv 15 75]) .skip)) (.ops [Mv 76 16, Mv 77 10, Mv 78 17, Op 79 (.int2 .add .i64 (Tm 77) (Tm 78)), Oi 80 (.bslice 3 1 [(.int .i64 0)] [(0, (1, (Tm 79)))]), Oi 81 (.app 3 1 8 (Tm 76) (Tm 80)), Mv 16 81]))) (.ops [Mv 65 17, Op 66 (.int2 .add .i64 (Tm 65) (Kn 1)), Mv 17 66])))
theorem wsd : trC Try.prog (wkb 1) = wud := by kernel_rfl
noncomputable def wvd : RC := (.seq (.ops [Op 93 (.int2 .lss .i64 (Tm 92) (Tm 91))]) (.seq (.cond (Tm 93) .skip (.exit 4)) (.seq (.block 5 (.seq (.ops [Mv 94 92, Oi 95 (.iaddrS 9 (Tm 90) (Tm 92)), Oi 96 (.loadN 9 (Tm 95)), Oi 20 (.new [(.int .i64 0), (.int .i64 0), (.int .i64 0), (.int .i64 0), (.int .i64 0), (.int .i64 0), (.int .i64 0), (.int .i64 0), (.int .i64 0)] 81), Mv 19 94, On (.store 9 (Tm 20) (Tm 96))]) (.seq (.draw #[0, 1, 3, 7, 7, 23, 63, 127, 255, 7, 519, 2047, 4095] [Mv 97 19, Op 98 (.int2 .gtr .i64 (Tm 97) (Kn 0)), Mv 99 98, Ot 100 99 (.ins (.mv (Tm 18))), Ot 101 99 (.ins (.mv (Tm 19))), Ot 102 99 (.int2 .sub .i64 (Tm 101) (Kn 1)), Ot 103 99 (.ins (.iaddrS 9 (Tm 100) (Tm 102))), Ot 104 99 (.ins (.faddr 0 (Tm 103))), Ot 105 99 (.ins (.load1 (Tm 104))), Ot 106 99 (.ins (.faddr 0 (Tm 20))), Ot 107 99 (.ins (.load1 (Tm 106))), Ot 108 99 (.int2 .leq .i64 (Tm 105) (Tm 107)), Oi 109 (.pick (Tm 99) (Tm 108) (Kb false))]) (.cond (Tm 109) (.seq (.ops [Oi 8 (.mv (Kb false))]) .ret) .skip)))) (.ops [Op 110 (.int2 .add .i64 (Tm 92) (Kn 1)), Mv 92 110]))))
theorem wtd : trC Try.prog (wkb 2) = wvd := by kernel_rfl
noncomputable def wcj : RF := ⟨142, (.seq (.ops [Oi 8 (.mv (Kb false))]) (.seq (.ops [Mv 21 0, Oi 22 (.call 21 [(Tm 21), (Kn 9)]), Mv 9 22]) (.seq (.ops [Mv 23 3, Mv 24 9, Op 25 (.slen (Tm 24)), Oi 26 (.call 10 [(Tm 23), (Kn 0), (Tm 25)]), Mv 10 26]) (.seq (.ops [Mv 27 1, Oi 28 (.call 10 [(Tm 27), (Kn 0), (Kn 4)]), Mv 11 28]) (.seq (.ops [Mv 29 11, Op 30 (.mm true (Tm 29) [(Kn 1)]), Mv 31 2, Oi 32 (.call 10 [(Tm 31), (Kn 0), (Kn 4)]), Op 33 (.int2 .add .i64 (Tm 30) (Tm 32)), Mv 12 33]) (.seq (.ops [Oi 34 (.bslice 5 2 [(.int .u8 0), (.int .u8 0)] [(0, (1, (.const (.int .u8 97)))), (1, (1, (.const (.int .u8 98))))]), Oi 35 (.call 37 [(Tm 34)]), Oi 36 (.build [(.int .i64 0), (.int .i64 0), (.int .i64 0), (.int .i64 0), (.int .u64 0), (.int .u64 0), (.int .u64 0), (.int .u64 0), (.slice none 0 0)] [(0, (1, (Kn 1))), (4, (4, (Tm 35)))]), Oi 13 (.new [(.int .i64 0), (.int .i64 0), (.int .i64 0), (.int .i64 0), (.int .u64 0), (.int .u64 0), (.int .u64 0), (.int .u64 0), (.slice none 0 0)] 46), On (.store 9 (Tm 13) (Tm 36))]) (.seq (.ops [Oi 14 (.mv (Kn 0))]) (.seq (.block 0 (.loop (wkb 0))) (.seq (.ops [Oi 15 (.mv (.const (.slice none 0 0))), Oi 16 (.mv (.const (.slice none 0 0)))]) (.seq (.seq (.ops [Mv 61 11, Mv 17 61]) (.block 2 (.loop (wkb 1)))) (.seq (.ops [Mv 82 11, Mv 83 12, Oi 84 (.loadN 9 (Tm 13)), Oi 85 (.bslice 46 1 [(.int .i64 0), (.int .i64 0), (.int .i64 0), (.int .i64 0), (.int .u64 0), (.int .u64 0), (.int .u64 0), (.int .u64 0), (.slice none 0 0)] [(0, (9, (Tm 84)))]), Oi 86 (.build [(.int .i64 0), (.int .i64 0), (.int .i64 0), (.int .i64 0), (.int .u64 0), (.int .u64 0), (.int .u64 0), (.int .u64 0), (.slice none 0 0)] [(0, (1, (Kn 4))), (1, (1, (Tm 82))), (2, (1, (Tm 83))), (8, (1, (Tm 85)))]), Mv 87 9, Mv 88 10, Oi 89 (.call 30 [(Tm 86), (Tm 87), (Kb true), (Tm 88)]), Mv 18 89]) (.seq (.seq (.ops [Mv 90 18, Op 91 (.lenS (Tm 90)), Oi 92 (.mv (Kn 0))]) (.block 4 (.loop (wkb 2)))) (.seq (.ops [Mv 111 18, Op 112 (.lenS (Tm 111)), Mv 113 15, Op 114 (.lenS (Tm 113)), Op 115 (.int2 .eql .i64 (Tm 112) (Tm 114)), Mv 116 115, Ot 117 116 (.ins (.mv (Tm 11))), Ot 118 116 (.ins (.mv (Tm 12))), Ot 119 116 (.ins (.loadN 9 (Tm 13))), Ot 120 116 (.ins (.bslice 46 1 [(.int .i64 0), (.int .i64 0), (.int .i64 0), (.int .i64 0), (.int .u64 0), (.int .u64 0), (.int .u64 0), (.int .u64 0), (.slice none 0 0)] [(0, (9, (Tm 119)))])), Ot 121 116 (.ins (.build [(.int .i64 0), (.int .i64 0), (.int .i64 0), (.int .i64 0), (.int .u64 0), (.int .u64 0), (.int .u64 0), (.int .u64 0), (.slice none 0 0)] [(0, (1, (Kn 4))), (1, (1, (Tm 117))), (2, (1, (Tm 118))), (8, (1, (Tm 120)))])), Ot 122 116 (.ins (.mv (Tm 9))), Ot 123 116 (.ins (.mv (Tm 10))), Ot 124 116 (.ins (.call 31 [(Tm 121), (Tm 122), (Kb true), (Tm 123)])), Ot 125 116 (.ins (.mv (Tm 15))), Ot 126 116 (.ins (.call 40 [(Tm 124), (Tm 125)])), Oi 127 (.pick (Tm 116) (Tm 126) (Kb false)), Mv 128 127, Ot 129 128 (.ins (.mv (Tm 11))), Ot 130 128 (.ins (.loadN 9 (Tm 13))), Ot 131 128 (.ins (.bslice 46 1 [(.int .i64 0), (.int .i64 0), (.int .i64 0), (.int .i64 0), (.int .u64 0), (.int .u64 0), (.int .u64 0), (.int .u64 0), (.slice none 0 0)] [(0, (9, (Tm 130)))])), Ot 132 128 (.ins (.build [(.int .i64 0), (.int .i64 0), (.int .i64 0), (.int .i64 0), (.int .u64 0), (.int .u64 0), (.int .u64 0), (.int .u64 0), (.slice none 0 0)] [(0, (1, (Kn 4))), (1, (1, (Tm 129))), (2, (1, (Kn (-1)))), (8, (1, (Tm 131)))])), Ot 133 128 (.ins (.mv (Tm 9))), Ot 134 128 (.ins (.mv (Tm 10))), Ot 135 128 (.ins (.call 31 [(Tm 132), (Tm 133), (Kb true), (Tm 134)])), Ot 136 128 (.ins (.mv (Tm 16))), Ot 137 128 (.ins (.call 40 [(Tm 135), (Tm 136)])), Oi 138 (.pick (Tm 128) (Tm 137) (Kb false)), Mv 139 138, Ot 140 139 (.ins (.call 39 [])), Oi 141 (.pick (Tm 139) (Tm 140) (Kb false)), Mv 8 141]) .ret))))))))))))), [(.tmp 8)]⟩
theorem wlk : trF Try.prog 8 = some wcj := by kernel_rfl
noncomputable def wmn : RF := ⟨25, (.seq (.ops [Oi 2 (.mv (Kn 0))]) (.seq (.seq (.ops [Mv 3 0, Op 4 (.int2 .geq .u64 (Tm 3) (.const (.int .u64 4294967296)))]) (.cond (Tm 4) (.seq (.ops [Mv 5 0, Op 6 (.shift .shr (Tm 5) (.const (.int .u64 32))), Mv 0 6]) (.ops [Oi 2 (.mv (Kn 32))])) .skip)) (.seq (.seq (.ops [Mv 7 0, Op 8 (.int2 .geq .u64 (Tm 7) (.const (.int .u64 65536)))]) (.cond (Tm 8) (.seq (.ops [Mv 9 0, Op 10 (.shift .shr (Tm 9) (.const (.int .u64 16))), Mv 0 10]) (.ops [Mv 11 2, Op 12 (.int2 .add .i64 (Tm 11) (Kn 16)), Mv 2 12])) .skip)) (.seq (.seq (.ops [Mv 13 0, Op 14 (.int2 .geq .u64 (Tm 13) (.const (.int .u64 256)))]) (.cond (Tm 14) (.seq (.ops [Mv 15 0, Op 16 (.shift .shr (Tm 15) (.const (.int .u64 8))), Mv 0 16]) (.ops [Mv 17 2, Op 18 (.int2 .add .i64 (Tm 17) (Kn 8)), Mv 2 18])) .skip)) (.seq (.ops [Mv 19 2, Mv 20 0, Op 21 (.conv .u8 (Tm 20)), Op 22 (.sidx (.const (str [0, 1, 2, 2, 3, 3, 3, 3, 4, 4, 4, 4, 4, 4, 4, 4, 5, 5, 5, 5, 5, 5, 5, 5, 5, 5, 5, 5, 5, 5, 5, 5, 6, 6, 6, 6, 6, 6, 6, 6, 6, 6, 6, 6, 6, 6, 6, 6, 6, 6, 6, 6, 6, 6, 6, 6, 6, 6, 6, 6, 6, 6, 6, 6, 7, 7, 7, 7, 7, 7, 7, 7, 7, 7, 7, 7, 7, 7, 7, 7, 7, 7, 7, 7, 7, 7, 7, 7, 7, 7, 7, 7, 7, 7, 7, 7, 7, 7, 7, 7, 7, 7, 7, 7, 7, 7, 7, 7, 7, 7, 7, 7, 7, 7, 7, 7, 7, 7, 7, 7, 7, 7, 7, 7, 7, 7, 7, 7, 8, 8, 8, 8, 8, 8, 8, 8, 8, 8, 8, 8, 8, 8, 8, 8, 8, 8, 8, 8, 8, 8, 8, 8, 8, 8, 8, 8, 8, 8, 8, 8, 8, 8, 8, 8, 8, 8, 8, 8, 8, 8, 8, 8, 8, 8, 8, 8, 8, 8, 8, 8, 8, 8, 8, 8, 8, 8, 8, 8, 8, 8, 8, 8, 8, 8, 8, 8, 8, 8, 8, 8, 8, 8, 8, 8, 8, 8, 8, 8, 8, 8, 8, 8, 8, 8, 8, 8, 8, 8, 8, 8, 8, 8, 8, 8, 8, 8, 8, 8, 8, 8, 8, 8, 8, 8, 8, 8, 8, 8, 8, 8, 8, 8, 8, 8, 8, 8, 8, 8, 8, 8, 8, 8, 8, 8, 8, 8])) (Tm 21)), Op 23 (.conv .i64 (Tm 22)), Op 24 (.int2 .add .i64 (Tm 19) (Tm 23)), Mv 2 24]) .ret))))), [(.tmp 2)]⟩
theorem war : trF Try.prog 125 = some wmn := by kernel_rfl
end Go.Proofs.Ytjihbfdbgamcdaa
namespace Go.Den
noncomputable section
def wd (s : BitVec 256) (i : Nat) : BitVec 64 := s.extractLsb' (64 * i) 64
abbrev wdV (s : BitVec 256) (i : Nat) : Value := .int .u64 ((wd s i).toNat : Nat)
def setC (s : BitVec 256) : List Value := [wdV s 0, wdV s 1, wdV s 2, wdV s 3]
def setV (s : BitVec 256) : Value := .agg ⟨setC s⟩
theorem wzob (s : BitVec 256) {i : Nat} (h : i < 4) : (setC s)[i]? = some (wdV s i) := by
  match i, h with
  | 0, _ => rfl
  | 1, _ => rfl
  | 2, _ => rfl
  | 3, _ => rfl
theorem wnz (s : BitVec 256) : (setC s).length = 4 := eq_of_heq HEq.rfl
theorem woz (s : BitVec 256) (i j : Nat) : (wd s i).getLsbD j = (decide (j < 64) && s.getLsbD (64 * i + j)) := by
  unfold wd
  rw [BitVec.getLsbD_extractLsb']
theorem wd_ext {s t : BitVec 256} (h : ∀ i, i < 4 → wd s i = wd t i) : s = t := by
  apply BitVec.eq_of_getLsbD_eq
  intro j hj
  have h1 := woz s (j / 64) (j % 64)
  have h2 := woz t (j / 64) (j % 64)
  rw [h (j / 64) (by omega)] at h1
  rw [h1] at h2
  have e : 64 * (j / 64) + j % 64 = j := by omega
  have e2 : decide (j % 64 < 64) = true := decide_eq_true (by omega)
  rw [e, e2, Bool.true_and, Bool.true_and] at h2
  exact h2
def cat4 (a b c d : BitVec 64) : BitVec (64 + 64 + 64 + 64) := a ++ b ++ c ++ d
theorem cat4_bit (a b c d : BitVec 64) (j : Nat) : (cat4 a b c d).getLsbD j = if j < 64 then d.getLsbD j else if j - 64 < 64 then c.getLsbD (j - 64) else if j - 64 - 64 < 64 then b.getLsbD (j - 64 - 64) else a.getLsbD (j - 64 - 64 - 64) := by
  unfold cat4
  rw [BitVec.getLsbD_append, BitVec.getLsbD_append, BitVec.getLsbD_append]
def ofWd (f : Nat → BitVec 64) : BitVec 256 := (cat4 (f 3) (f 2) (f 1) (f 0)).cast (by decide)
theorem wcdc (f : Nat → BitVec 64) {i : Nat} (h : i < 4) : wd (ofWd f) i = f i := by
  apply BitVec.eq_of_getLsbD_eq
  intro j hj
  rw [woz, decide_eq_true hj, Bool.true_and]
  unfold ofWd
  rw [BitVec.getLsbD_cast, cat4_bit]
  rcases (show i = 0 ∨ i = 1 ∨ i = 2 ∨ i = 3 by omega) with rfl | rfl | rfl | rfl
  · rw [if_pos (by omega), show 64 * 0 + j = j by omega]
  · rw [if_neg (by omega), if_pos (by omega), show 64 * 1 + j - 64 = j by omega]
  · rw [if_neg (by omega), if_neg (by omega), if_pos (by omega), show 64 * 2 + j - 64 - 64 = j by omega]
  · rw [if_neg (by omega), if_neg (by omega), if_neg (by omega), show 64 * 3 + j - 64 - 64 - 64 = j by omega]
def setWd (s : BitVec 256) (i : Nat) (w : BitVec 64) : BitVec 256 := ofWd fun k => if k = i then w else wd s k
theorem setC_set (s : BitVec 256) {i : Nat} (h : i < 4) (w : BitVec 64) : (setC s).set i (.int .u64 (w.toNat : Nat)) = setC (setWd s i w) := by
  have hw : ∀ k, k < 4 → wd (setWd s i w) k = if k = i then w else wd s k := fun k hk => wcdc _ hk
  unfold setC wdV
  rw [hw 0 (by omega), hw 1 (by omega), hw 2 (by omega), hw 3 (by omega)]
  generalize wd s 0 = a
  generalize wd s 1 = b
  generalize wd s 2 = c
  generalize wd s 3 = d
  rcases (show i = 0 ∨ i = 1 ∨ i = 2 ∨ i = 3 by omega) with rfl | rfl | rfl | rfl <;> simp
theorem wdp (v : BitVec 64) : BitVec.ofInt (IntKind.bits .u64) ((v.toNat : Nat) : Int) = v := by
  show BitVec.ofInt 64 _ = v
  apply BitVec.eq_of_toNat_eq
  simp
theorem and_u64 (v u : BitVec 64) : IntKind.wrap .u64 ((BitVec.ofInt (IntKind.bits .u64) ((v.toNat : Nat) : Int) &&& BitVec.ofInt (IntKind.bits .u64) ((u.toNat : Nat) : Int)).toNat : Int) = ((v &&& u).toNat : Nat) := by
  rw [wdp, wdp]
  exact wrap_u64 (by omega) (by have := (v &&& u).isLt; show ((v &&& u).toNat : Int) ≤ _; omega)
theorem or_u64 (v u : BitVec 64) : IntKind.wrap .u64 ((BitVec.ofInt (IntKind.bits .u64) ((v.toNat : Nat) : Int) ||| BitVec.ofInt (IntKind.bits .u64) ((u.toNat : Nat) : Int)).toNat : Int) = ((v ||| u).toNat : Nat) := by
  rw [wdp, wdp]
  exact wrap_u64 (by omega) (by have := (v ||| u).isLt; show ((v ||| u).toNat : Int) ≤ _; omega)
theorem shr_u64 (v : BitVec 64) {b : Int} (h1 : 0 ≤ b) (h2 : b < 64) : Int.fdiv ((v.toNat : Nat) : Int) (2 ^ (min b.toNat (IntKind.bits .u64))) = ((v >>> b.toNat).toNat : Nat) := by
  have hm : min b.toNat (IntKind.bits .u64) = b.toNat := by show min b.toNat 64 = _; omega
  rw [hm, BitVec.toNat_ushiftRight, Nat.shiftRight_eq_div_pow]
  have e2 : ((2 : Int) ^ b.toNat) = ((2 ^ b.toNat : Nat) : Int) := by rw [Int.natCast_pow]; rfl
  rw [e2, Int.fdiv_eq_ediv_of_nonneg _ (Int.natCast_nonneg _), Int.natCast_ediv]
theorem shl_u64 {b : Int} (h1 : 0 ≤ b) (h2 : b < 64) : IntKind.wrap .u64 (1 * 2 ^ (min b.toNat (IntKind.bits .u64))) = ((1#64 <<< b.toNat).toNat : Nat) := by
  have hm : min b.toNat (IntKind.bits .u64) = b.toNat := by show min b.toNat 64 = _; omega
  have hlt : (2 ^ b.toNat : Nat) < 2 ^ 64 := Nat.pow_lt_pow_right (by omega) (by omega)
  have e2 : ((2 : Int) ^ b.toNat) = ((2 ^ b.toNat : Nat) : Int) := by rw [Int.natCast_pow]; rfl
  rw [BitVec.toNat_shiftLeft, Nat.shiftLeft_eq, show (1#64).toNat = 1 from rfl, Nat.one_mul, Nat.mod_eq_of_lt hlt]
  rw [hm, Int.one_mul, e2]
  generalize (2 ^ b.toNat : Nat) = m at *
  exact wrap_u64 (by omega) (by omega)
theorem bit_one (v : BitVec 64) (n : Nat) : decide ((((v >>> n) &&& 1#64).toNat : Int) = 1) = v.getLsbD n := by
  have h : ((v >>> n) &&& 1#64).toNat = if v.getLsbD n then 1 else 0 := by
    rw [BitVec.toNat_and, BitVec.toNat_ushiftRight, show (1#64).toNat = 1 from rfl, Nat.and_one_is_mod, Nat.shiftRight_eq_div_pow, BitVec.getLsbD, Nat.testBit_eq_decide_div_mod_eq]
    by_cases hq : v.toNat / 2 ^ n % 2 = 1
    · simp [hq]
    · simp [hq]; omega
  rw [h]
  cases v.getLsbD n <;> rfl
def one (x : Nat) : BitVec 256 := 1#256 <<< x
theorem wpmb (x j : Nat) : (one x).getLsbD j = (decide (j < 256) && decide (j = x)) := by
  unfold one
  rw [BitVec.getLsbD_shiftLeft, BitVec.getLsbD_one]
  by_cases h1 : j < 256 <;> by_cases h2 : j = x <;> by_cases h3 : j < x <;> simp [h1, h2, h3] <;> omega
theorem or_one (s : BitVec 256) (x : Nat) (hx : x < 256) : setWd s (x / 64) (wd s (x / 64) ||| (1#64 <<< (x % 64))) = s ||| one x := by
  apply wd_ext
  intro i hi
  rw [setWd, wcdc _ hi]
  apply BitVec.eq_of_getLsbD_eq
  intro j hj
  rw [woz, decide_eq_true hj, Bool.true_and, BitVec.getLsbD_or, wpmb]
  have h256 : decide (64 * i + j < 256) = true := decide_eq_true (by omega)
  rw [h256, Bool.true_and]
  by_cases h : i = x / 64
  · rw [if_pos h, BitVec.getLsbD_or, woz, decide_eq_true hj, Bool.true_and, ← h]
    congr 1
    rw [BitVec.getLsbD_shiftLeft, BitVec.getLsbD_one]
    by_cases h2 : j = x % 64
    · have : 64 * i + j = x := by omega
      simp [this, h2]; omega
    · have h3 : ¬ (64 * i + j = x) := by omega
      by_cases h4 : j < x % 64
      · simp [h3, h4]
      · have : ¬ (j - x % 64 = 0) := by omega
        simp [h3, h4, this]
  · rw [if_neg h, woz, decide_eq_true hj, Bool.true_and]
    have h3 : ¬ (64 * i + j = x) := by omega
    simp [h3]
theorem has_bit (s : BitVec 256) (x : Nat) (hx : x < 256) : (wd s (x / 64)).getLsbD (x % 64) = s.getLsbD x := by
  rw [woz, decide_eq_true (by omega), Bool.true_and]
  congr 1
  omega
theorem wpz (s : BitVec 256) : wuh [.int .u64, .int .u64, .int .u64, .int .u64] (setC s) = true := rfl
theorem eqL_setC (s t : BitVec 256) : eqL (setC s) (setC t) = decide (s = t) := by
  have h : eqL (setC s) (setC t) = true ↔ s = t := by
    constructor
    · intro h
      simp only [eqL, setC, waz, Bool.and_eq_true, beq_iff_eq, Bool.and_true] at h
      apply wd_ext
      intro i hi
      apply BitVec.eq_of_toNat_eq
      rcases (show i = 0 ∨ i = 1 ∨ i = 2 ∨ i = 3 by omega) with rfl | rfl | rfl | rfl <;> omega
    · rintro rfl
      simp [eqL, setC, waz]
  by_cases hq : s = t
  · rw [decide_eq_true hq]; exact h.2 hq
  · rw [decide_eq_false hq]
    cases he : eqL (setC s) (setC t) with
    | false => rfl
    | true => exact absurd (h.1 he) hq
theorem SlA.ints {P : Program} {h : List ABlk} {i : Nat} {v : Value} {vs : List Value} {elem : TypeId} {frz : Nat} {a a' : List Value} {fr : Frs} (hb : h[i]? = some (X (v :: vs) elem frz true)) (hs : tsz P elem = 1) (hr : wlb (v :: vs) = true) (t : SlA P h a a' fr) :
    SlA P h (.slice (some ⟨i, 0, none⟩) (vs.length + 1) (vs.length + 1 + 1) :: a) (FL (vs.length + 1) (v :: vs) :: a') ((i, (vs.length + 1) * 1) :: fr) := by
  have h1 := SlA.row (P := P) (h := h) (i := i) (n := vs.length) (c := vs.length + 1) hb hs (by omega) (Nat.le_refl _) (by simp) (by rw [wuq (by simp)]; exact hr) t
  rw [wuq (by simp)] at h1
  exact h1
theorem wddc (a b : BitVec 256) : eqcV true [.int .u64, .int .u64, .int .u64, .int .u64] (setV a) (setV b) = val (.bool (decide (a ≠ b))) := by
  rw [setV, setV, neq_agg (wpz a) (wpz b), eqL_setC, decide_not]
end
end Go.Den
namespace Go.Den
noncomputable section
def RowSt (elem size : Nat) (l : List ABlk) (v : Value) (n : Nat) (cs : List Value) : Prop :=
  (v = .slice none 0 0 ∧ n = 0 ∧ cs = []) ∨ ∃ t, v = FO t n cs ∧ l[t]? = some (.tok n elem size) ∧ cs.length = n * size ∧ 0 < n
theorem RowSt.sl {elem size n : Nat} {l : List ABlk} {v : Value} {cs : List Value} (h : RowSt elem size l v n cs) : Sl 0 v (FL n cs) := by
  rcases h with ⟨rfl, rfl, rfl⟩ | ⟨t, rfl, _, _, _⟩
  · exact Sl.nilS
  · exact Sl.fo t _ cs
theorem RowSt.jk {elem size n : Nat} {l : List ABlk} {v : Value} {cs : List Value} (h : RowSt elem size l v n cs) : isJK v = false := by
  rcases h with ⟨rfl, _⟩ | ⟨t, rfl, _⟩
  · rfl
  · exact wplb
end
end Go.Den
namespace Go.Den
noncomputable section
theorem over_all {l m : List Value} (h : m.length = l.length) : wh l 0 m = m := by
  have key : ∀ (m l : List Value) (a : List Value), m.length = l.length → wh (a ++ l) a.length m = a ++ m := by
    intro m
    induction m with
    | nil => intro l a h; have := List.eq_nil_of_length_eq_zero h.symm; subst this; rfl
    | cons v r ih =>
      intro l a h
      cases l with
      | nil => simp at h
      | cons w l =>
        simp only [List.length_cons, Nat.add_right_cancel_iff] at h
        show wh ((a ++ w :: l).set a.length v) (a.length + 1) r = _
        have e : (a ++ w :: l).set a.length v = (a ++ [v]) ++ l := by simp
        rw [e, show a.length + 1 = (a ++ [v]).length by simp, ih l (a ++ [v]) h]
        simp
  exact key m l [] h
theorem wgib {a : Value} {l m : List Value} {k : Nat} : wh (a :: l) (k + 1) m = a :: wh l k m := by
  induction m generalizing l k with
  | nil => rfl
  | cons v r ih => show wh ((a :: l).set (k + 1) v) (k + 1 + 1) r = _; rw [List.set_cons_succ, ih]; rfl
theorem wjub {a : Value} {l m : List Value} {k : Nat} : wh (a :: l) (1 + k) m = a :: wh l k m := by rw [Nat.add_comm]; exact wgib
theorem wkub {a : Value} {l : List Value} {k n : Nat} : slotsOf (a :: l) (k + 1) n = slotsOf l k n := rfl
theorem wqmb {a : Value} {l : List Value} {k n : Nat} : slotsOf (a :: l) (1 + k) n = slotsOf l k n := by rw [Nat.add_comm]; rfl
theorem slots_0 {a : Value} {l : List Value} {n : Nat} : slotsOf (a :: l) 0 (n + 1) = a :: slotsOf l 0 n := rfl
theorem slots_00 {l : List Value} {k : Nat} : slotsOf l k 0 = [] := by simp [slotsOf]
theorem wmeb {α : Type} {enc : α → List Value} {k : Nat} (hk : ∀ a, (enc a).length = k) (l : List α) : (l.flatMap enc).length = l.length * k := by
  induction l with
  | nil => simp
  | cons a l ih => rw [List.flatMap_cons, List.length_append, hk, ih, List.length_cons, Nat.add_mul]; omega
theorem wqz {α : Type} {enc : α → List Value} {k : Nat} (hk : ∀ a, (enc a).length = k) (d : α) : ∀ (l : List α) (i : Nat), i < l.length → slotsOf (l.flatMap enc) (i * k) k = enc (l.getD i d) := by
  intro l
  induction l with
  | nil => intro i h; cases h
  | cons a l ih =>
    intro i h
    cases i with
    | zero =>
      rw [List.flatMap_cons, Nat.zero_mul]
      show ((enc a ++ l.flatMap enc).drop 0).take k = enc a
      rw [List.drop_zero, List.take_append_of_le_length (by rw [hk]; exact Nat.le_refl _), List.take_of_length_le (by rw [hk]; exact Nat.le_refl _)]
    | succ i =>
      have := ih i (by simpa using h)
      rw [show (a :: l).getD (i + 1) d = l.getD i d by simp, ← this, List.flatMap_cons]
      show ((enc a ++ l.flatMap enc).drop ((i + 1) * k)).take k = _
      rw [show (i + 1) * k = (enc a).length + i * k by rw [hk, Nat.add_mul]; omega, List.drop_append, List.drop_of_length_le (by omega), List.nil_append]
      congr 2
      omega
theorem wrz {α : Type} {enc : α → List Value} (hk : ∀ a, wvh (enc a) = true) (l : List α) : wvh (l.flatMap enc) = true := by
  induction l with
  | nil => rfl
  | cons a l ih => rw [List.flatMap_cons, wshb, hk, ih]; rfl
abbrev Mt := { l : List Int // l.length = 8 }
def mtC (m : Mt) : List Value := m.1.map (Value.int .i64)
def Mt.at (m : Mt) (i : Nat) : Int := m.1.getD i 0
def Mt.put (m : Mt) (i : Nat) (a : Int) : Mt := ⟨m.1.set i a, by rw [List.length_set]; exact m.2⟩
theorem wacb {m : Mt} : (mtC m).length = 8 := by rw [mtC, List.length_map, m.2]
theorem wedc {m : Mt} {i : Nat} (h : i < 8) : (mtC m)[i]? = some (.int .i64 (m.at i)) := by
  rw [mtC, List.getElem?_map, Mt.at, List.getD_eq_getElem?_getD, List.getElem?_eq_getElem (by rw [m.2]; exact h)]
  rfl
theorem mt_set {m : Mt} {i : Nat} {a : Int} : (mtC m).set i (.int .i64 a) = mtC (m.put i a) := by
  rw [mtC, mtC, Mt.put, List.map_set]
theorem wrmb {m : Mt} : wvh (mtC m) = true := by
  rw [wfac]
  intro v hv
  simp only [mtC, List.mem_map] at hv
  obtain ⟨x, _, rfl⟩ := hv
  rfl
theorem wfdc {m : Mt} {i : Nat} (h : i + 2 ≤ 8) : slotsOf (mtC m) i 2 = [.int .i64 (m.at i), .int .i64 (m.at (i + 1))] := by
  apply List.ext_getElem?
  intro j
  rw [slotsOf, List.getElem?_take]
  split
  · rw [List.getElem?_drop]
    rcases (show j = 0 ∨ j = 1 by omega) with rfl | rfl
    · rw [wedc (by omega)]; rfl
    · rw [wedc (by omega)]; rfl
  · match j with
    | 0 => omega
    | 1 => omega
    | j + 2 => rfl
theorem wgdc {m : Mt} : slotsOf (mtC m) 0 8 = mtC m := wuq wacb
theorem wlub (l : List Int) : won (l.map (Value.int .i64)) = true := by
  induction l with
  | nil => rfl
  | cons a l ih => rw [List.map_cons, wwr, ih]; rfl
theorem mt_flat {m : Mt} : won (mtC m) = true := wlub _
theorem mt_fz (m : Mt) : FzL (mtC m) := fzl wrmb
theorem ints_eq : ∀ (a b : List Int), a.length = b.length → (eqL (a.map (Value.int .i64)) (b.map (Value.int .i64)) = true ↔ a = b) := by
  intro a
  induction a with
  | nil => intro b h; cases b with | nil => simp [eqL] | cons x b => cases h
  | cons x a ih =>
    intro b h
    cases b with
    | nil => cases h
    | cons y b =>
      simp only [List.length_cons, Nat.add_right_cancel_iff] at h
      simp only [List.map_cons, eqL, waz, Bool.and_eq_true, beq_iff_eq, ih b h, List.cons.injEq]
theorem whdc : ∀ (a : List Int), wuh (List.replicate a.length (AK.int .i64)) (a.map (Value.int .i64)) = true := by
  intro a
  induction a with
  | nil => rfl
  | cons x a ih => simp only [List.length_cons, List.replicate_succ, List.map_cons, wuh, ih]; rfl
theorem widc {m : Mt} : wuh [.int .i64, .int .i64, .int .i64, .int .i64, .int .i64, .int .i64, .int .i64, .int .i64] (mtC m) = true := by
  have := whdc m.1
  rw [m.2] at this
  exact this
theorem mt_eqL {m n : Mt} : eqL (mtC m) (mtC n) = decide (m = n) := by
  have h := ints_eq m.1 n.1 (by rw [m.2, n.2])
  by_cases hq : m = n
  · rw [decide_eq_true hq]; exact h.2 (by rw [hq])
  · rw [decide_eq_false hq]
    cases he : eqL (mtC m) (mtC n) with
    | false => rfl
    | true => exact absurd (Subtype.ext (h.1 he)) hq
abbrev St := Int × Mt
def Mt.zero : Mt := ⟨[0, 0, 0, 0, 0, 0, 0, 0], rfl⟩
def St.zero : St := (0, Mt.zero)
def stC (s : St) : List Value := .int .i64 s.1 :: mtC s.2
theorem whib {s : St} : (stC s).length = 9 := by rw [stC, List.length_cons, wacb]
theorem wsmb {s : St} : wvh (stC s) = true := by rw [stC, wzv, wrmb]; rfl
theorem st_fz (s : St) : FzL (stC s) := fzl wsmb
theorem wjdc {s : St} : won (stC s) = true := by rw [stC, wwr, mt_flat]; rfl
theorem st_get0 {s : St} : (stC s)[0]? = some (.int .i64 s.1) := rfl
theorem wkdc {s : St} : slotsOf (stC s) 1 8 = mtC s.2 := wgdc
theorem wldc {s : St} {k n : Nat} : slotsOf (stC s) (1 + k) n = slotsOf (mtC s.2) k n := wqmb
theorem st_set0 {s : St} {a : Int} : (stC s).set 0 (.int .i64 a) = stC (a, s.2) := rfl
theorem st_over1 {s : St} {k : Nat} {m : List Value} : wh (stC s) (1 + k) m = .int .i64 s.1 :: wh (mtC s.2) k m := wjub
theorem st_fold {a : Int} {m : Mt} : (Value.int .i64 a :: mtC m) = stC (a, m) := rfl
theorem wtmb {s : St} : wuh [.int .i64, .int .i64, .int .i64, .int .i64, .int .i64, .int .i64, .int .i64, .int .i64, .int .i64] (stC s) = true := by
  rw [stC]; show (true && wuh _ (mtC s.2)) = true; rw [widc]; rfl
theorem st_eqL {s t : St} : eqL (stC s) (stC t) = decide (s = t) := by
  obtain ⟨a, m⟩ := s
  obtain ⟨b, n⟩ := t
  show ((a == b) && eqL (mtC m) (mtC n)) = _
  rw [mt_eqL]
  by_cases h1 : a = b <;> by_cases h2 : m = n <;> simp [h1, h2]
def stsC (l : List St) : List Value := l.flatMap stC
theorem wmdc {l : List St} : (stsC l).length = l.length * 9 := wmeb (fun _ => whib) l
theorem wkm {l : List St} {i : Nat} (h : i < l.length) : slotsOf (stsC l) (i * 9) 9 = stC (l.getD i St.zero) := wqz (fun _ => whib) St.zero l i h
theorem sts_atom {l : List St} : wvh (stsC l) = true := wrz (fun _ => wsmb) l
theorem wfo (l : List St) : FzL (stsC l) := fzl sts_atom
theorem wneb : stsC [] = [] := rfl
theorem wapb {l : List St} {s : St} : stsC (l ++ [s]) = stsC l ++ stC s := by rw [stsC, stsC, List.flatMap_append]; simp
theorem wri {s : St} : stsC [s] = stC s := by rw [stsC]; simp
theorem sts_one {s : St} : stC s = stsC [s] := by rw [stsC]; simp
def mtsC (l : List Mt) : List Value := l.flatMap mtC
theorem wndc {l : List Mt} : (mtsC l).length = l.length * 8 := wmeb (fun _ => wacb) l
theorem mts_slot {l : List Mt} {i : Nat} (h : i < l.length) : slotsOf (mtsC l) (i * 8) 8 = mtC (l.getD i Mt.zero) := wqz (fun _ => wacb) _ l i h
theorem mts_atom {l : List Mt} : wvh (mtsC l) = true := wrz (fun _ => wrmb) l
theorem mts_fz (l : List Mt) : FzL (mtsC l) := fzl mts_atom
theorem ints_bq : ∀ (l : List Int), beqL (l.map (Value.int .i64)) (l.map (Value.int .i64)) = true := by
  intro l
  induction l with
  | nil => rfl
  | cons a l ih => rw [List.map_cons, wxj, wsu, ih]; rfl
theorem mt_bq {m : Mt} : beqL (mtC m) (mtC m) = true := ints_bq _
theorem st_bq {s : St} : beqL (stC s) (stC s) = true := by rw [stC, wxj, wsu, mt_bq]; rfl
theorem sts_bq {l : List St} : beqL (stsC l) (stsC l) = true := wieb (fun _ => st_bq) l
theorem mts_bq {l : List Mt} : beqL (mtsC l) (mtsC l) = true := wieb (fun _ => mt_bq) l
theorem set_bq {s : BitVec 256} : beqL (setC s) (setC s) = true := by rw [setC, wxj, wxj, wxj, wxj, wsu, wsu, wsu, wsu, wgz]; rfl
inductive Rx where
  | mk (kind min max n : Int) (set : BitVec 256) (kids : List Rx)
def Rx.kind : Rx → Int | .mk k _ _ _ _ _ => k
def Rx.mn : Rx → Int | .mk _ k _ _ _ _ => k
def Rx.mx : Rx → Int | .mk _ _ k _ _ _ => k
def Rx.n : Rx → Int | .mk _ _ _ k _ _ => k
def Rx.set : Rx → BitVec 256 | .mk _ _ _ _ s _ => s
def Rx.kids : Rx → List Rx | .mk _ _ _ _ _ l => l
def Rx.zero : Rx := .mk 0 0 0 0 0#256 []
theorem rx_kind {k a b c s l} : Rx.kind (.mk k a b c s l) = k := rfl
theorem rx_mn {k a b c s l} : Rx.mn (.mk k a b c s l) = a := rfl
theorem rx_mx {k a b c s l} : Rx.mx (.mk k a b c s l) = b := rfl
theorem rx_n {k a b c s l} : Rx.n (.mk k a b c s l) = c := rfl
theorem rx_set {k a b c s l} : Rx.set (.mk k a b c s l) = s := rfl
theorem wodc {k a b c s l} : Rx.kids (.mk k a b c s l) = l := rfl
mutual
def rxC : Rx → List Value
  | .mk k a b c s l => [.int .i64 k, .int .i64 a, .int .i64 b, .int .i64 c, wdV s 0, wdV s 1, wdV s 2, wdV s 3, FL l.length (rxsC l)]
def rxsC : List Rx → List Value
  | [] => []
  | r :: l => rxC r ++ rxsC l
end
theorem wsz {r : Rx} : rxC r = [.int .i64 r.kind, .int .i64 r.mn, .int .i64 r.mx, .int .i64 r.n, wdV r.set 0, wdV r.set 1, wdV r.set 2, wdV r.set 3, FL r.kids.length (rxsC r.kids)] := by
  cases r; rw [rxC]; rfl
theorem wjx (l : List Rx) : rxsC l = l.flatMap rxC := by
  induction l with
  | nil => rw [rxsC]; rfl
  | cons r l ih => rw [rxsC, ih, List.flatMap_cons]
theorem wbpb {r : Rx} : (rxC r).length = 9 := by rw [wsz]; rfl
theorem wpdc {r : Rx} : wvh (rxC r) = true := by rw [wsz]; rfl
theorem rx_fz (r : Rx) : FzL (rxC r) := fzl wpdc
theorem rx_get0 {r : Rx} : (rxC r)[0]? = some (.int .i64 r.kind) := by rw [wsz]; rfl
theorem rx_get1 {r : Rx} : (rxC r)[1]? = some (.int .i64 r.mn) := by rw [wsz]; rfl
theorem rx_get2 {r : Rx} : (rxC r)[2]? = some (.int .i64 r.mx) := by rw [wsz]; rfl
theorem rx_get3 {r : Rx} : (rxC r)[3]? = some (.int .i64 r.n) := by rw [wsz]; rfl
theorem rx_get8 {r : Rx} : (rxC r)[8]? = some (FL r.kids.length (rxsC r.kids)) := by rw [wsz]; rfl
theorem wqdc {r : Rx} : slotsOf (rxC r) 4 4 = setC r.set := by rw [wsz]; rfl
theorem woeb {l : List Rx} : (rxsC l).length = l.length * 9 := by rw [wjx]; exact wmeb (fun _ => wbpb) l
theorem wvu {l : List Rx} {i : Nat} (h : i < l.length) : slotsOf (rxsC l) (i * 9) 9 = rxC (l.getD i Rx.zero) := by rw [wjx]; exact wqz (fun _ => wbpb) _ l i h
theorem rxs_atom {l : List Rx} : wvh (rxsC l) = true := by rw [wjx]; exact wrz (fun _ => wpdc) l
theorem rx_bq : ∀ (r : Rx), beqL (rxC r) (rxC r) = true := by
  refine Rx.rec (motive_1 := fun r => beqL (rxC r) (rxC r) = true) (motive_2 := fun l => beqL (rxsC l) (rxsC l) = true) ?_ ?_ ?_
  · intro k a b c s l ih
    rw [wsz]
    rw [wodc]
    simp only [wxj, wsu, bq_FL, ih, wgz, Bool.and_self]
  · rw [rxsC]; rfl
  · intro r l h1 h2
    rw [rxsC]
    exact wvbb h1 h2
theorem rxs_bq {l : List Rx} : beqL (rxsC l) (rxsC l) = true := by rw [wjx]; exact wieb rx_bq l
theorem rxs_fz (l : List Rx) : FzL (rxsC l) := fzl rxs_atom
theorem set_atom {s : BitVec 256} : wvh (setC s) = true := rfl
theorem wxi (s : BitVec 256) : FzL (setC s) := fzl set_atom
theorem set_flat {s : BitVec 256} : won (setC s) = true := rfl
end
end Go.Den
namespace Go.Den
noncomputable section
variable {P : Program} {cfg : Cfg}
theorem wrdc {α : Type} (body : α → PUnit → Sem (ForInStep PUnit)) : ∀ (l : List α), (∀ f ∈ l, ww P (body f ⟨⟩) = some (.yield ⟨⟩)) → ww P (forIn l (⟨⟩ : PUnit) body) = some ⟨⟩ := by
  intro l
  induction l with
  | nil => intro _; rfl
  | cons a l ih =>
    intro h
    rw [List.forIn_cons, wjb, h a (by simp), Option.bind_some]
    exact ih fun f hf => h f (List.mem_cons_of_mem _ hf)
theorem wiib {b : Bool} {d m : Nat} (ih : ∀ (t : TypeId) (ks : List AK), wrj P d t = some ks → ∀ (xs : List Value) (x : Value), Rep P t xs x → wuh ks xs = true → ww P (Instr.checkKey b m t x) = some ⟨⟩) :
    ∀ (fs : List Field) (off : Nat) (ks : List AK), wwv (wrj P d) fs off = some ks → ∀ (xs : List Value), wuh ks (xs.drop off) = true → off ≤ xs.length →
    ww P (forIn fs (⟨⟩ : PUnit) fun f _ => (if f.name ≠ "_" then (do
      let a ← part f.type ⟨xs⟩ f.offset
      Instr.checkKey b m f.type a
      pure (ForInStep.yield ⟨⟩)) else pure (ForInStep.yield ⟨⟩) : Sem (ForInStep PUnit))) = some ⟨⟩ := by
  intro fs
  induction fs with
  | nil => intro off ks h xs fx _; rfl
  | cons f fs ih2 =>
    intro off ks h xs fx hx
    unfold wwv at h
    split at h
    · rename_i hf
      obtain ⟨hname, hoff⟩ := hf
      split at h
      · rename_i k1 hk1
        split at h
        · rename_i k2 hk2
          cases h
          obtain ⟨fx1, fx2⟩ := wln fx
          have lx := wkk fx
          rw [List.length_append, List.length_drop] at lx
          obtain ⟨va, ha, ra⟩ := wrr hk1 (xs := xs) (off := off) (by omega)
          have he := ih _ _ hk1 _ _ ra fx1
          have hstep : ww P (if f.name ≠ "_" then (do
              let a ← part f.type ⟨xs⟩ f.offset
              Instr.checkKey b m f.type a
              pure (ForInStep.yield ⟨⟩)) else pure (ForInStep.yield ⟨⟩) : Sem (ForInStep PUnit)) = some (.yield ⟨⟩) := by
            rw [if_pos hname, hoff, wjb, ha, Option.bind_some, wjb, he, Option.bind_some]
            rfl
          rw [List.forIn_cons, wjb, hstep, Option.bind_some]
          rw [List.drop_drop] at fx2
          exact ih2 (off + k1.length) k2 hk2 xs fx2 (by omega)
        · cases h
      · cases h
    · cases h
theorem check_ok {b : Bool} : ∀ (d : Nat) (t : TypeId) (ks : List AK), wrj P d t = some ks → ∀ (m : Nat), d ≤ m → ∀ (xs : List Value) (x : Value), Rep P t xs x → wuh ks xs = true → ww P (Instr.checkKey b m t x) = some ⟨⟩ := by
  intro d
  induction d with
  | zero => intro t ks h; cases h
  | succ d ih =>
    intro t ks h m hm xs x hx fx
    obtain ⟨m, rfl⟩ : ∃ m', m = m' + 1 := ⟨m - 1, by omega⟩
    have hcopy := h
    unfold wrj at h
    split at h
    · rename_i k hu
      cases h
      obtain ⟨rfl, _⟩ := wsr hcopy hx hx hu rfl
      simp only [wuh, Bool.and_true] at fx
      obtain ⟨a, rfl⟩ := fits_int fx
      show ww P ((underlying t).bind fun u => _) = _
      rw [woi t hu]
      rfl
    · rename_i hu
      cases h
      obtain ⟨rfl, _⟩ := wsr hcopy hx hx hu rfl
      simp only [wuh, Bool.and_true] at fx
      obtain ⟨a, rfl⟩ := wou fx
      show ww P ((underlying t).bind fun u => _) = _
      rw [woi t hu]
      rfl
    · rename_i hu
      cases h
      obtain ⟨rfl, _⟩ := wsr hcopy hx hx hu rfl
      simp only [wuh, Bool.and_true] at fx
      obtain ⟨a, rfl⟩ := fits_bool fx
      show ww P ((underlying t).bind fun u => _) = _
      rw [woi t hu]
      rfl
    · rename_i fields hu
      split at h
      · cases h
      · split at h
        · rename_i ks' hf
          split at h
          · cases h
            obtain ⟨rfl, _⟩ := waeb hx hx hu rfl
            have hl := wiib (b := b) (m := m) (fun t ks h xs x => ih t ks h m (by omega) xs x) fields.toList 0 ks hf xs (by simpa using fx) (by omega)
            show ww P ((underlying t).bind fun u => _) = _
            rw [woi t hu]
            simp only [wjb, ← Array.forIn_toList]
            first
              | exact hl
              | (rw [hl]; rfl)
          · cases h
        · cases h
    · rename_i len elem hu
      split at h
      · rename_i k1 hk1
        split at h
        · rename_i hs
          cases h
          simp only [Bool.and_eq_true] at hs
          obtain ⟨i, hi, hsz⟩ := wat hs.1
          obtain ⟨rfl, _⟩ := waeb hx hx hu rfl
          have lx := wkk fx
          rw [wjs] at lx
          show ww P ((underlying t).bind fun u => _) = _
          rw [woi t hu]
          simp only [wjb, Std.Legacy.Range.forIn_eq_forIn_range', Std.Legacy.Range.size, Nat.sub_zero, Nat.add_one_sub_one, Nat.div_one]
          have hl : ww P (forIn (List.range' 0 len) (⟨⟩ : PUnit) fun j _ => (do
              let n ← sizeOf elem
              let a ← part elem ⟨xs⟩ (j * n)
              Instr.checkKey b m elem a
              pure (ForInStep.yield ⟨⟩) : Sem (ForInStep PUnit))) = some ⟨⟩ := by
            apply wrdc
            intro j hj
            rw [List.mem_range'_1] at hj
            have hb : j * k1.length + k1.length ≤ len * k1.length := by
              have : (j + 1) * k1.length ≤ len * k1.length := Nat.mul_le_mul_right _ (by omega)
              rw [Nat.succ_mul] at this
              exact this
            obtain ⟨va, ha, ra⟩ := wrr hk1 (xs := xs) (off := j * k1.length) (by omega)
            have he := ih _ _ hk1 m (by omega) _ _ ra (wcz len fx j (by omega))
            rw [wjb, wbz hi, Option.bind_some, hsz, wjb, ha, Option.bind_some, wjb, he, Option.bind_some]
            rfl
          first
            | exact hl
            | (rw [hl]; rfl)
        · cases h
      · cases h
    · cases h
def wumb (P : Program) (t : TypeId) : Bool := match tyU P t with | some (.struct _) => true | _ => false
theorem wow {t : TypeId} (h : wumb P t = true) : ∃ fs, tyU P t = some (.struct fs) := by
  unfold wumb at h
  split at h
  · exact ⟨_, by assumption⟩
  · cases h
structure KeyT (P : Program) (kt : TypeId) {α : Type} [DecidableEq α] (enc : α → List Value) : Prop where
  ht : wumb P kt = true
  fits : ∃ K, wrj P 12 kt = some K ∧ ∀ a, wuh K (enc a) = true
  eq : ∀ a b, eqL (enc a) (enc b) = decide (a = b)
  flat : ∀ a, won (enc a) = true
section
variable {α : Type} [DecidableEq α] {enc : α → List Value} {kt : TypeId}
def mapK (enc : α → List Value) (m : List (α × Value)) : List (Value × Value) := m.map fun p => (.agg ⟨enc p.1⟩, p.2)
def wnn (a : α) : List (α × Value) → Nat → Option (Nat × Value)
  | [], _ => none
  | p :: r, i => if a = p.1 then some (i, p.2) else wnn a r (i + 1)
def getK (m : List (α × Value)) (a : α) : Option Value := (wnn a m 0).map (·.2)
theorem asking_K (k : KeyT P kt enc) (a : α) : ∀ (m : List (α × Value)) (i : Nat), ww P (Instr.findAsking kt (.agg ⟨enc a⟩) (entriesOf (mapK enc m)) i) = some (wnn a m i) := by
  obtain ⟨fs, hu⟩ := wow k.ht
  obtain ⟨K, hK, hf⟩ := k.fits
  have rep : ∀ b : α, Rep P kt (enc b) (.agg ⟨enc b⟩) := fun b => ⟨_, hu, .inl ⟨rfl, rfl⟩⟩
  intro m
  induction m with
  | nil => intro i; rfl
  | cons p r ih =>
    intro i
    have he : ww P (Op.equal kt (.agg ⟨enc a⟩) (.agg ⟨enc p.1⟩)) = some (decide (a = p.1)) := by
      rw [← k.eq]
      exact wkob 12 kt K hK _ (by decide) _ _ _ _ (rep a) (rep p.1) (hf a) (hf p.1)
    show ww P ((Op.equal kt (.agg ⟨enc a⟩) (.agg ⟨enc p.1⟩)).bind fun q => if q = true then Sem.pure (some (i, p.2)) else Instr.findAsking kt (.agg ⟨enc a⟩) (entriesOf (mapK enc r)) (i + 1)) = _
    rw [wnb, he, Option.bind_some]
    by_cases hq : a = p.1
    · simp only [wnn, hq, decide_true, if_true]; rfl
    · simp only [wnn, hq, decide_false, Bool.false_eq_true, if_false]; exact ih (i + 1)
theorem wsdc (k : KeyT P kt enc) (b : Bool) (a : α) (m : List (α × Value)) : wrw P b kt (.agg ⟨enc a⟩) (mapK enc m) = some (wnn a m 0) := by
  obtain ⟨fs, hu⟩ := wow k.ht
  obtain ⟨K, hK, hf⟩ := k.fits
  unfold wrw
  rw [wjb, check_ok 12 kt K hK 10000 (by omega) (enc a) (.agg ⟨enc a⟩) ⟨_, hu, .inl ⟨rfl, rfl⟩⟩ (hf a), Option.bind_some]
  show ww P ((underlying kt).bind fun d => _) = _
  rw [woi kt hu]
  cases m with
  | nil => rfl
  | cons p r =>
    show ww P (Instr.findAsking kt (.agg ⟨enc a⟩) (entriesOf (mapK enc (p :: r))) 0) = _
    exact asking_K k a (p :: r) 0
theorem lookX_K (k : KeyT P kt enc) {zero : Value} {ok : Bool} {a : α} {m : List (α × Value)} : lookX P kt zero ok (.agg ⟨enc a⟩) (some (.map (mapK enc m))) = val (okV ok zero (getK m a)) := by
  show (bif flat (.agg ⟨enc a⟩) then wgv ok zero (wrw P (mapK enc m).isEmpty kt (.agg ⟨enc a⟩) (mapK enc m)) else .none) = _
  rw [show flat (.agg ⟨enc a⟩) = true from k.flat a, cond_true, wsdc k]
  unfold getK
  cases wnn a m 0 <;> rfl
def putK (a : α) (v : Value) : List (α × Value) → List (α × Value)
  | [] => [(a, v)]
  | p :: r => if a = p.1 then (a, v) :: r else p :: putK a v r
theorem wvmb {a : α} {v : Value} : ∀ {m : List (α × Value)} {i j : Nat}, wnn a m i = some (j, v) → ∃ h : j - i < m.length, i ≤ j ∧ (m[j - i]).1 = a ∧ ∀ w, putK a w m = m.set (j - i) (a, w) := by
  intro m
  induction m with
  | nil => intro i j h; cases h
  | cons p r ih =>
    intro i j h
    simp only [wnn] at h
    by_cases hq : a = p.1
    · rw [if_pos hq] at h
      cases h
      refine ⟨by simp, Nat.le_refl _, ?_, fun w => ?_⟩
      · simp [hq]
      · simp [putK, hq]
    · rw [if_neg hq] at h
      obtain ⟨h1, h2, h3, h4⟩ := ih h
      have e : j - i = (j - (i + 1)) + 1 := by omega
      refine ⟨by simp only [List.length_cons]; omega, by omega, ?_, fun w => ?_⟩
      · simp only [e, List.getElem_cons_succ]; exact h3
      · rw [e, List.set_cons_succ, ← h4 w]; simp [putK, hq]
theorem wwmb {a : α} : ∀ {m : List (α × Value)} {i : Nat}, wnn a m i = none → ∀ w, putK a w m = m ++ [(a, w)] := by
  intro m
  induction m with
  | nil => intro i _ w; rfl
  | cons p r ih =>
    intro i h w
    simp only [wnn] at h
    by_cases hq : a = p.1
    · rw [if_pos hq] at h; cases h
    · rw [if_neg hq] at h
      simp only [putK, if_neg hq, ih h w, List.cons_append]
theorem wtdc {K : List AK} : ∀ {l : List Value}, wuh K l = true → ∀ n, (l.zip l).all (fun (x, y) => Instr.sameBits n x y) = true := by
  induction K with
  | nil => intro l h n; cases l with | nil => rfl | cons v r => cases h
  | cons k K ih =>
    intro l h n
    cases l with
    | nil => rfl
    | cons v r =>
      simp only [wuh, Bool.and_eq_true] at h
      simp only [List.zip_cons_cons, List.all_cons, Bool.and_eq_true]
      refine ⟨?_, ih h.2 n⟩
      cases k with
      | int j => obtain ⟨x, rfl⟩ := fits_int h.1; simp [Instr.sameBits]
      | str => obtain ⟨⟨⟨x⟩⟩, rfl⟩ := wou h.1; simp only [Instr.sameBits]; rw [ba_beq]; simp
      | bool => obtain ⟨x, rfl⟩ := fits_bool h.1; simp [Instr.sameBits]
theorem updX_K (k : KeyT P kt enc) {h : List ABlk} {r : Nat} {a : α} {x : Value} {m : List (α × Value)} (hr : r < h.length) : updX P h r kt (.agg ⟨enc a⟩) x (some (.map (mapK enc m))) = .eff undef (HP (h.set r (.map (mapK enc (putK a x m))))) := by
  show (bif flat (.agg ⟨enc a⟩) && Nat.blt r h.length then wwab (HP h) r (mapK enc m) (.agg ⟨enc a⟩) x (wrw P false kt (.agg ⟨enc a⟩) (mapK enc m)) else .none) = _
  rw [show flat (.agg ⟨enc a⟩) = true from k.flat a, nblt, decide_eq_true hr, Bool.and_self, cond_true, wsdc k]
  cases hq : wnn a m 0 with
  | none =>
    rw [wwmb hq]
    show ARes.eff undef ((HP h).set r (.map (mapK enc m ++ [(.agg ⟨enc a⟩, x)]))) = _
    rw [wsq _ _ _ hr]
    simp [mapK]
  | some q =>
    obtain ⟨j, v⟩ := q
    obtain ⟨h1, _, h3, h4⟩ := wvmb hq
    simp only [Nat.sub_zero] at h1 h3 h4
    rw [h4]
    have e1 : (mapK enc m)[j]? = some (.agg ⟨enc a⟩, (m[j]).2) := by
      rw [mapK, List.getElem?_map, List.getElem?_eq_getElem h1]
      simp only [Option.map_some, h3]
    obtain ⟨K, _, hf⟩ := k.fits
    have e2 : Instr.sameBits 10000 (.agg ⟨enc a⟩) (.agg ⟨enc a⟩) = true := by
      show ((⟨enc a⟩ : Array Value).size == (⟨enc a⟩ : Array Value).size && ((enc a).zip (enc a)).all fun (x, y) => Instr.sameBits 9999 x y) = true
      rw [wtdc (hf a)]
      simp
    show (match (mapK enc m)[j]? with | some e => (bif Instr.sameBits 10000 e.1 (.agg ⟨enc a⟩) then ARes.eff undef ((HP h).set r (.map ((mapK enc m).set j (.agg ⟨enc a⟩, x)))) else .none) | none => .none) = _
    rw [e1]
    simp only [e2, cond_true]
    rw [wsq _ _ _ hr]
    simp [mapK, List.map_set]
omit [DecidableEq α] in
omit [DecidableEq α] in
theorem wudc {m : List (α × Value)} (h : (m.all fun p => wtp p.2) = true) : wheb (mapK enc m) = true := by
  unfold wheb mapK
  rw [List.all_map]
  exact h
def setK (enc : α → List Value) (l : List α) : List (Value × Value) := mapK enc (l.map fun a => (a, .bool true))
omit [DecidableEq α] in
theorem wcpb : setK enc [] = [] := rfl
omit [DecidableEq α] in
theorem wy (l : List α) : wgy (setK enc l) = [] ∧ (∀ m, renM m (setK enc l) = setK enc l) ∧ wnkb (setK enc l) = [] := by
  have h : wheb (setK enc l) = true := wudc (by rw [List.all_map]; simp [Function.comp_def, wtp])
  exact ⟨wrtb h, fun _ => wzbc h, wstb h⟩
omit [DecidableEq α] in
theorem wvdc (h : ∀ a, beqL (enc a) (enc a) = true) (l : List α) : beqP (setK enc l) (setK enc l) = true := by
  induction l with
  | nil => rfl
  | cons a l ih =>
    show (beqV (.agg ⟨enc a⟩) (.agg ⟨enc a⟩) && (beqV (.bool true) (.bool true) && beqP (setK enc l) (setK enc l))) = true
    rw [ih, wycc]
    show (beqL (enc a) (enc a) && true) = true
    rw [h]; rfl
theorem find_set (a : α) : ∀ (l : List α) (i : Nat), (wnn a (l.map fun a => (a, .bool true)) i).map (·.2) = if a ∈ l then some (.bool true) else none := by
  intro l
  induction l with
  | nil => intro i; rfl
  | cons b l ih =>
    intro i
    simp only [List.map_cons, wnn]
    by_cases hq : a = b
    · simp [hq]
    · rw [if_neg hq, ih]; simp [hq]
theorem wff (k : KeyT P kt enc) {a : α} {l : List α} : lookX P kt (.bool false) false (.agg ⟨enc a⟩) (some (.map (setK enc l))) = val (.bool (decide (a ∈ l))) := by
  rw [setK, lookX_K k, getK, find_set]
  by_cases h : a ∈ l <;> simp [h] <;> rfl
theorem put_set {a : α} {l : List α} (h : a ∉ l) : putK a (.bool true) (l.map fun a => (a, .bool true)) = (l ++ [a]).map fun a => (a, .bool true) := by
  induction l with
  | nil => rfl
  | cons b l ih =>
    simp only [List.mem_cons, not_or] at h
    simp only [List.map_cons, putK, if_neg h.1, List.cons_append, ih h.2]
theorem wrh (k : KeyT P kt enc) {h : List ABlk} {r : Nat} {a : α} {l : List α} (hr : r < h.length) (ha : a ∉ l) : updX P h r kt (.agg ⟨enc a⟩) (.bool true) (some (.map (setK enc l))) = .eff undef (HP (h.set r (.map (setK enc (l ++ [a]))))) := by
  rw [setK, updX_K k hr, put_set ha]
  rfl
end
theorem wpeb {α : Type} [DecidableEq α] {enc : α → List Value} : ABlk.map [] = .map (setK enc ([] : List α)) := rfl
end
end Go.Den
namespace Go.Den
noncomputable section
variable {P : Program}
def appN (h : List ABlk) (elem size bytes : Nat) (s : Value) (n : Nat) (new : List Value) : ARes := wfv true (HP h) elem size bytes s n new
theorem app_FL0 {h : List ABlk} {elem size bytes : Nat} {cs : List Value} : appA true (HP h) elem size bytes (.slice none 0 0) (FL 0 cs) = .eff (.slice none 0 0) (HP h) := rfl
theorem wmub {h : List ABlk} {elem size bytes t len : Nat} {cs ds : List Value} : appA true (HP h) elem size bytes (FO t len ds) (FL 0 cs) = .eff (FO t len ds) (HP h) := rfl
def appR (h : List ABlk) (elem size bytes : Nat) (s : Value) (n : Nat) : Option ABlk → ARes
  | some (.cells b) => bif decide (n * size ≤ b.cells.length) then appN h elem size bytes s n (slotsOf b.cells 0 (n * size)) else .none
  | _ => .none
def wwdc : Option ABlk → Bool
  | some (.cells b) => isNil b.lens && Nat.beq b.wver 0
  | _ => false
theorem exactX_X {cs : List Value} {t z : Nat} {pf : Bool} : wwdc (some (X cs t z pf)) = true := rfl
theorem appR_X {h : List ABlk} {elem size bytes : Nat} {s : Value} {n : Nat} {cs : List Value} {t z : Nat} {pf : Bool} (hc : n * size ≤ cs.length) : appR h elem size bytes s n (some (X cs t z pf)) = appN h elem size bytes s n (slotsOf cs 0 (n * size)) := by
  show (bif decide (n * size ≤ cs.length) then _ else _) = _
  rw [decide_eq_true hc]; rfl
theorem app_row1 {h : List ABlk} (hh : h.length ≤ 1099511627774) {elem size bytes : Nat} {s : Value} {i n c : Nat} (hx : wwdc h[i]? = true) :
    appA true (HP h) elem size bytes s (.slice (some ⟨i, 0, none⟩) (n + 1) c) = appR h elem size bytes s (n + 1) h[i]? := by
  unfold appA
  have h1 : lenA (.slice (some ⟨i, 0, none⟩) (n + 1) c) = some (n + 1) := rfl
  rw [h1]
  have h2 : wkl (HP h) size (n + 1) (.slice (some ⟨i, 0, none⟩) (n + 1) c) = match wyi (HP h) ⟨i, 0, none⟩ ((n + 1) * size) with
    | some b => some (slotsOf b.cells 0 ((n + 1) * size))
    | none => none := by
    show (bif Nat.ble (n + 1) (n + 1) && Nat.blt 0 (n + 1) then _ else none) = _
    rw [nble, nblt, decide_eq_true (Nat.le_refl _), decide_eq_true (Nat.succ_pos n)]
    rfl
  simp only [h2]
  unfold wyi
  rw [wsh h hh]
  cases hb : h[i]? with
  | none => rw [hb] at hx; cases hx
  | some b =>
    rw [hb] at hx
    cases b with
    | cells b =>
      have hx : (isNil b.lens && Nat.beq b.wver 0) = true := hx
      simp only [Bool.and_eq_true, Nat.beq_eq] at hx
      obtain ⟨h3, h4⟩ := hx
      have h5 : b.lens = [] := by cases hl : b.lens with | nil => rfl | cons a r => rw [hl] at h3; cases h3
      have h6 : rdOk b (aver ⟨i, 0, none⟩) (0 + (n + 1) * size) = decide ((n + 1) * size ≤ b.cells.length) := by
        unfold rdOk
        have e1 : b.top = 0 := by unfold CBlk.top; rw [h5]; rfl
        have e2 : b.lenAt 0 = b.cells.length := by unfold CBlk.lenAt; rw [h5]
        rw [h4, e1]
        show (Nat.ble 0 0 && (Nat.ble 0 0 && Nat.ble (0 + (n + 1) * size) (b.lenAt 0))) = _
        rw [e2, Nat.zero_add, nble, nble]
        simp
      simp only [h6]
      by_cases hq : (n + 1) * size ≤ b.cells.length
      · simp only [decide_eq_true hq, cond_true, appR]; rfl
      · simp only [decide_eq_false hq, cond_false, appR]
    | map es => cases hx
    | tok a b c => cases hx
theorem appN_nil {h : List ABlk} (hh : h.length ≤ 1099511627774) {elem size bytes n : Nat} {new : List Value} (hn : n ≤ 16777216) (hb : bytes ≤ 1048576) (ha : wvh new = true) :
    appN h elem size bytes (.slice none 0 0) n new = .eff (FO h.length n new) (HP (h ++ [.tok n elem size])) := by
  show (bif roomy n bytes then wfl true (HP h) elem size new n else .none) = _
  have h1 : roomy n bytes = true := by unfold roomy; rw [nble, nble, decide_eq_true hn, decide_eq_true hb]; rfl
  rw [h1, cond_true]
  show (bif whjb (HP h) (nfL new) then ARes.eff (FO (HP h).n n (nfL new)) ((HP h).push (.tok n elem size)) else .none) = _
  rw [wgeb ha]
  have h2 : whjb (HP h) new = true := by
    unfold whjb
    rw [wwq ha, wdz ha, HP_n, weh hh]; rfl
  rw [h2, cond_true, HP_n, wym]
def appT (h : List ABlk) (elem size t len n : Nat) (cs new : List Value) : Option ABlk → ARes
  | some (.tok m el es) => bif decide (m = len ∧ el = elem ∧ es = size) then .eff (FO t (len + n) (cs ++ new)) (HP (h.set t (.tok (len + n) elem size))) else .none
  | _ => .none
theorem appT_tok {h : List ABlk} {elem size t len n : Nat} {cs new : List Value} : appT h elem size t len n cs new (some (.tok len elem size)) = .eff (FO t (len + n) (cs ++ new)) (HP (h.set t (.tok (len + n) elem size))) := by
  simp [appT]
theorem appN_FO {h : List ABlk} (hh : h.length ≤ 1099511627774) {elem size bytes t len n : Nat} {cs new : List Value} (ht : t < h.length) (hn : len + n ≤ 16777216) (hb : bytes ≤ 1048576) (hc : cs.length = len * size) (ha : wvh new = true) :
    appN h elem size bytes (FO t len cs) n new = appT h elem size t len n cs new h[t]? := by
  show (bif roomy (len + n) bytes then wos (HP h) elem size t len cs (nfL new) n else .none) = _
  have h1 : roomy (len + n) bytes = true := by unfold roomy; rw [nble, nble, decide_eq_true hn, decide_eq_true hb]; rfl
  rw [h1, cond_true, wgeb ha]
  unfold wos
  rw [wsh h hh]
  cases hq : h[t]? with
  | none => rfl
  | some b =>
    cases b with
    | cells b => rfl
    | map es => rfl
    | tok m el es =>
      show (bif wqx m el es elem size t len cs new then _ else _) = (bif decide (m = len ∧ el = elem ∧ es = size) then _ else _)
      have h2 : wqx m el es elem size t len cs new = decide (m = len ∧ el = elem ∧ es = size) := by
        unfold wqx
        rw [wwq ha, wdz ha, hc, Nat.beq_refl, weh (by omega), nbeq, nbeq, nbeq]
        by_cases q1 : m = len <;> by_cases q2 : el = elem <;> by_cases q3 : es = size <;> simp [q1, q2, q3]
      rw [h2, wsq _ _ _ ht]
      by_cases q : m = len ∧ el = elem ∧ es = size
      · obtain ⟨rfl, rfl, rfl⟩ := q; rfl
      · rw [decide_eq_false q]; rfl
def pfX : Option ABlk → Bool
  | some (.cells b) => isNil b.lens && (Nat.beq b.wver 0 && b.pf)
  | _ => false
theorem pfX_X {cs : List Value} {t z : Nat} : pfX (some (X cs t z true)) = true := rfl
theorem wxdc {h : List ABlk} (hh : h.length ≤ 1099511627774) {i n c : Nat} {sl : List Value → Option (List Value × Frs)} (hx : pfX h[i]? = true) :
    weg P (HP h) sl (.slice (some ⟨i, 0, none⟩) (n + 1) (c + 1)) = rowS P i (n + 1) c h[i]? := by
  show wam P (HP h) sl ⟨i, 0, none⟩ (n + 1) (c + 1) = _
  unfold wam
  rw [wsh h hh]
  cases hb : h[i]? with
  | none => rw [hb] at hx; cases hx
  | some b =>
    rw [hb] at hx
    cases b with
    | map es => cases hx
    | tok a b c => cases hx
    | cells b =>
      have hx : (isNil b.lens && (Nat.beq b.wver 0 && b.pf)) = true := hx
      simp only [Bool.and_eq_true, Nat.beq_eq] at hx
      obtain ⟨h3, h4, h7⟩ := hx
      have h5 : b.lens = [] := by cases hl : b.lens with | nil => rfl | cons a r => rw [hl] at h3; cases h3
      have e0 : wch P b = tsz P b.elem := by unfold wch; rw [h5]; rfl
      have hi : wvb i = true := weh (by have := wqu hb; omega)
      have h6 : rdOk b (aver ⟨i, 0, none⟩) (0 + (n + 1) * tsz P b.elem) = Nat.ble ((n + 1) * tsz P b.elem) b.cells.length := by
        unfold rdOk
        have e1 : b.top = 0 := by unfold CBlk.top; rw [h5]; rfl
        have e2 : b.lenAt 0 = b.cells.length := by unfold CBlk.lenAt; rw [h5]
        rw [h4, e1]
        show (Nat.ble 0 0 && (Nat.ble 0 0 && Nat.ble (0 + (n + 1) * tsz P b.elem) (b.lenAt 0))) = _
        rw [e2, Nat.zero_add, nble 0 0]
        simp
      simp only [e0, h6, h7, cond_true]
      show (bif (Nat.ble (n + 1) c && Nat.blt 0 (tsz P b.elem)) && Nat.ble ((n + 1) * tsz P b.elem) b.cells.length then _ else none) = (bif Nat.ble (n + 1) c && (isNil b.lens && (b.pf && (Nat.blt 0 (tsz P b.elem) && Nat.ble ((n + 1) * tsz P b.elem) b.cells.length))) then _ else none)
      rw [h3, h7, Bool.and_assoc, Bool.true_and, Bool.true_and]
      cases (Nat.ble (n + 1) c && (Nat.blt 0 (tsz P b.elem) && Nat.ble ((n + 1) * tsz P b.elem) b.cells.length)) with
      | false => rfl
      | true =>
        simp only [cond_true, hi, Bool.and_true, Nat.zero_add]
end
end Go.Den
namespace Go.Den
set_option linter.defProp false
theorem ai {a b : Prop} (h : a) (k : b) : a ∧ b := ⟨h, k⟩
def zA := (ai @Bool.and_eq_true (ai @and_true @true_and))
def zH := (ai (ai (ai @decide_eq_true_eq @decide_eq_false_iff_not) (ai @Bool.not_true @Bool.not_false)) (ai (ai @Bool.not_eq_true @Bool.not_eq_false) (ai @Classical.not_not @ne_eq.{1})))
def zT := (ai (ai (ai (ai (ai @over_all @wgib) (ai @wkub (ai @slots_0 @slots_00))) (ai (ai @wacb (ai @wedc @mt_set)) (ai @wfdc (ai @mt_fz @whib)))) (ai (ai (ai @st_fz @st_get0) (ai @wldc (ai @wkdc @st_set0))) (ai (ai @st_over1 (ai @wmdc @wkm)) (ai @wneb (ai @wri @wndc))))) (ai (ai (ai (ai @mts_slot @wbpb) (ai @rx_fz (ai @rx_get0 @rx_get1))) (ai (ai @rx_get2 (ai @rx_get3 @rx_get8)) (ai @wqdc (ai @woeb @wvu)))) (ai (ai (ai @rxs_fz @wxi) (ai @set_flat (ai @rx_kind @rx_mn))) (ai (ai @rx_mx (ai @rx_n @rx_set)) (ai @wodc (ai @sts_bq @rxs_bq))))))
def zD := (ai (ai (ai (ai @wacb (ai @whib @wmdc)) (ai @wndc (ai @wbpb @woeb))) (ai (ai @wnz (ai @mt_fz @st_fz)) (ai @wfo (ai @mts_fz @rx_fz)))) (ai (ai (ai @rxs_fz (ai @wxi @widc)) (ai @wtmb (ai @wpz @mt_bq))) (ai (ai @st_bq (ai @sts_bq @mts_bq)) (ai @set_bq (ai @rx_bq @rxs_bq)))))
def zS := (ai (ai (ai (ai (ai (ai (ai (ai @wyrb (ai @wdyb @wzrb)) (ai (ai @weyb @wfyb) (ai @wjlb @wcsb))) (ai (ai (ai @wdsb @wklb) (ai @wllb @seqK_ret)) (ai (ai @wiyb @wbeb) (ai @wesb @wmlb)))) (ai (ai (ai (ai @opsR_nil @opsR_ins) (ai @wjyb @wfsb)) (ai (ai @wkyb @opsR_un) (ai @opsR_eqb @wlyb))) (ai (ai (ai @wmyb @wnyb) (ai @opsR_ssl @woyb)) (ai (ai @opsR_slS @wpyb) (ai @wqyb @opsR_b2s))))) (ai (ai (ai (ai @wryb (ai @wsyb @opsI_val)) (ai (ai @wtyb @opsI_new) (ai @opsI_eff @wuyb))) (ai (ai (ai @evl_tmp @wvyb) (ai @evls_nil @wwyb)) (ai (ai @SE_put @wilb) (ai @int2_add @int2_sub)))) (ai (ai (ai (ai @int2_quo @int2_rem) (ai @int2_eql @int2_neq)) (ai (ai @int2_lss @int2_leq) (ai @int2_gtr @int2_geq))) (ai (ai (ai @int2_and @int2_or) (ai @shift_shl @shift_shr)) (ai (ai @conv_int @un_not) (ai @un_neg @eqb_eq)))))) (ai (ai (ai (ai (ai @eqb_ne (ai @slen_str @isJK_int)) (ai (ai @wxyb @wnlb) (ai @isJK_agg @isJK_ptr))) (ai (ai (ai @wgsb @wolb) (ai @wplb @wyyb)) (ai (ai @wzyb @whsb) (ai @wihb @wqlb)))) (ai (ai (ai (ai @cells_func @wazb) (ai @wrlb @wjhb)) (ai (ai @wmab @wceb) (ai @wslb @wsbb))) (ai (ai (ai @wisb @wjsb) (ai @wtlb @wdeb)) (ai (ai @wbzb @wulb) (ai @load1_HP @load1X_X))))) (ai (ai (ai (ai @loadN_HP (ai @loadNX_X @store_HP)) (ai (ai @storeX_X @exact_X) (ai @wtq @cond_true.{1}))) (ai (ai (ai @cond_false.{1} @nble) (ai @nblt @nbeq)) (ai (ai @decide_eq_true_eq @wrap_i64) (ai @wrap_u8 @wrap_u64)))) (ai (ai (ai (ai @Int.tdiv_eq_ediv_of_nonneg @Int.tmod_eq_emod_of_nonneg) (ai @List.nil_append.{0} @List.cons_append.{0})) (ai (ai @List.append_assoc.{0} @List.length_cons.{0}) (ai @List.length_nil.{0} @List.getElem?_cons_zero.{0}))) (ai (ai (ai @List.getElem?_cons_succ.{0} @List.set_cons_zero.{0}) (ai @List.set_cons_succ.{0} @Nat.zero_add)) (ai (ai @Nat.add_zero @Bool.true_and) (ai @Bool.and_true @Bool.and_self))))))) (ai (ai (ai (ai (ai (ai @Bool.not_false (ai @Bool.not_true @Int.toNat_natCast)) (ai (ai @HP_n @List.drop_zero.{0}) (ai @List.drop_succ_cons.{0} @List.take_zero.{0}))) (ai (ai (ai @List.take_succ_cons.{0} @Nat.add_eq) (ai @Nat.mul_eq @Nat.mul_one)) (ai (ai @wgyb @whyb) (ai @wksb @arr_size)))) (ai (ai (ai (ai @wuq @resR_nil) (ai @wczb @wdzb)) (ai (ai @resA_tmp @wlsb) (ai @wmsb @resV_val))) (ai (ai (ai @wezb @wfzb) (ai @wgzb @len_FL)) (ai (ai @len_FO @whzb) (ai @wizb @wjzb))))) (ai (ai (ai (ai @wasb (ai @opsD_ins @wrzb)) (ai (ai @wszb @opsD_un) (ai @wtzb @wuzb))) (ai (ai (ai @wvzb @opsD_ssl) (ai @wwzb @opsD_slS)) (ai (ai @opsD_eqc @opsD_nil) (ai @wxzb @wrsb)))) (ai (ai (ai (ai @wyzb @wzzb) (ai @wssb @wmzb)) (ai (ai @wnhb @wfeb) (ai @opsR_eqc @opsR_mm))) (ai (ai (ai @List.map_cons.{0, 0} @List.map_nil.{0, 0}) (ai @List.length_append.{0} @fld1_agg)) (ai (ai @wkzb @wmhb) (ai @faddr_FP @wosb)))))) (ai (ai (ai (ai (ai @wpsb (ai @wnzb @Bool.decide_eq_true)) (ai (ai @Bool.decide_eq_false @if_true.{1}) (ai @if_false.{1} @str2_neq))) (ai (ai (ai @str2_add @sidx_str) (ai @ssl_both @ssl_lo)) (ai (ai @Option.map_some.{0, 0} @Option.map_none.{0, 0}) (ai @eq_self.{1} @decide_true)))) (ai (ai (ai (ai @decide_false @wusb) (ai @opsD_eqb @opsD_mm)) (ai (ai @wvsb @waac) (ai @wbac @opsD_b2s))) (ai (ai (ai @look_HP @okd_true) (ai @wcac @upd_HP)) (ai (ai @wphb @okV_some) (ai @okV_none @wrob))))) (ai (ai (ai (ai (ai @wtbb @gselV_tt) (ai @gselV_tf @gselV_ft)) (ai (ai @gselV_ff @List.all_cons.{0}) (ai @List.all_nil.{0} @wbsb))) (ai (ai (ai @wkhb @weac) (ai @wzv @atom_int)) (ai (ai @wgac @wvlb) (ai @atom_FL @atom_FP)))) (ai (ai (ai (ai @whac @wiac) (ai @wjac @watb)) (ai (ai @wwlb @wbtb) (ai @wkac @seal_int))) (ai (ai (ai @wlac @wxlb) (ai @wthb @seal_FL)) (ai (ai @seal_FO @seal_FP) (ai @wmac @seal_noS)))))))) (ai (ai (ai (ai (ai (ai (ai @seal_ptr (ai @seal_map @wnac)) (ai (ai @woac @seal_agg) (ai @wctb @wpac))) (ai (ai (ai @wqac @wrac) (ai @wsac @EJ_n)) (ai (ai @EJ_g @SE_n) (ai @SE_g @E0_n)))) (ai (ai (ai (ai @E0_g @zipR_nil) (ai @wvac @envL_SE)) (ai (ai @lvOk_nil @wwac) (ai @evs_nil @evs_cons))) (ai (ai (ai @normA_X @cloL_nil) (ai @wxac @memN_nil)) (ai (ai @wzac @wetb) (ai @wbbc @wftb))))) (ai (ai (ai (ai @pins_nil (ai @wcbc @hasL_nil)) (ai (ai @wdbc @webc) (ai @wgtb @whtb))) (ai (ai (ai @wzlb @wfbc) (ai @wgbc @witb)) (ai (ai @whbc @renBX_X) (ai @wibc @wjbc)))) (ai (ai (ai (ai @exactB_X @wjtb) (ai @wktb @refsB_X)) (ai (ai @wkbc @wlbc) (ai @nm1_at @wltb))) (ai (ai (ai @upto_0 @upto_1) (ai @upto_2 @upto_3)) (ai (ai @upto_4 @upto_5) (ai @upto_6 @wmbc)))))) (ai (ai (ai (ai (ai @wmtb (ai @refs_ptr @wrbc)) (ai (ai @refs_row @wsbc) (ai @refs_map @refs_FO))) (ai (ai (ai @refs_agg @wotb) (ai @wtbc @wubc)) (ai (ai @wptb @wvbc) (ai @wqtb @ren_ptr)))) (ai (ai (ai (ai @wwbc @ren_nilS) (ai @ren_row @ren_row0)) (ai (ai @ren_map @ren_FO) (ai @ren_agg @wxbc))) (ai (ai (ai @ren_func @renM_nil) (ai @wybc @wacc)) (ai (ai @wttb @wutb) (ai @wcmb @wdmb))))) (ai (ai (ai (ai (ai @wemb @wccc) (ai @wvtb @retR_end)) (ai (ai @wdcc @wecc) (ai @wwtb @valK_raw))) (ai (ai (ai @wfcc @one_1) (ai @one_0 @one_2)) (ai (ai @wgcc @raise_HP) (ai @AH0_HP @whcc)))) (ai (ai (ai (ai @wxtb @frzSet_X) (ai @wfmb @wgmb)) (ai (ai @wimb @wlmb) (ai @wez @wfz))) (ai (ai (ai @opsK_did @wadc) (ai @wiub @womb)) (ai (ai @bk_at @getN_0) (ai @getN_s @fzn1_agg))))))) (ai (ai (ai (ai (ai (ai @fzn1_int (ai @wkcc @wjmb)) (ai (ai @wzhb @fzn1_FL) (ai @fzn1_FP @wlcc))) (ai (ai (ai @wmcc @wztb) (ai @frzV_agg @frzV_int)) (ai (ai @wncc @wkmb) (ai @waib @frzV_FL)))) (ai (ai (ai (ai @frzV_FP @wocc) (ai @wpcc @fl_int)) (ai (ai @fl_bool @wvcc) (ai @wcub @fl_FL))) (ai (ai (ai @fl_FO @fl_ptr) (ai @fl_map @fl_agg)) (ai (ai @fl_tuple @wwcc) (ai @wwr @wdub))))) (ai (ai (ai (ai @wxcc (ai @gd_skip @gd_skip')) (ai (ai @gd_do @gd_do') (ai @wscc @waub))) (ai (ai (ai @wbib @wbub) (ai @wtcc @wmmb)) (ai (ai @Option.isSome_some.{0} @Bool.or_false) (ai @Bool.false_or @Bool.or_true)))) (ai (ai (ai (ai @Bool.true_or @Bool.and_false) (ai @Bool.false_and @List.append_nil.{0})) (ai (ai @wlzb @wnsb) (ai @lkE_nil @lkE_cons))) (ai (ai (ai @look_E0 @look_EJ) (ai @lkB_true @wtac)) (ai (ai @lkH_true @app_FL0) (ai @wmub @app_row1)))))) (ai (ai (ai (ai (ai @appR_X (ai @exactX_X @appN_nil)) (ai (ai @appN_FO @appT_tok) (ai @wxdc @pfX_X))) (ai (ai (ai @rowS_X @wucc) (ai @isJK_map @nilc_ptr)) (ai (ai @nilc_FP @weub) (ai @mm_min2 @mm_max2)))) (ai (ai (ai (ai @bq_X @bq_map) (ai @bq_tok @wgz)) (ai (ai @wxj @bqP_nil) (ai @bqP_cons @wsu))) (ai (ai (ai @wycc @bq_str) (ai @bq_ptr @bq_nilP)) (ai (ai @bq_nilS @wzcc) (ai @bq_FL @bq_FO))))) (ai (ai (ai (ai (ai @chg_same @refs_int) (ai @ren_int @wnbc)) (ai (ai @ren_bool @wamb) (ai @wntb @wwhb))) (ai (ai (ai @wbmb @refs_FL) (ai @ren_FL @refs_FP)) (ai (ai @ren_FP @wobc) (ai @ren_nilP @wpbc)))) (ai (ai (ai (ai @ren_nilF @wqbc) (ai @ren_nilI @wyac)) (ai (ai @wdtb @flz_int) (ai @flz_bool @wwsb))) (ai (ai (ai @flz_agg @flz_nilS) (ai @flz_ptr @flz_map)) (ai (ai @flz_FL @ne_eq.{1}) (ai @not_false_eq_true @not_true_eq_false)))))))))
theorem z1 : type_of% @wbdc := @wbdc
theorem z2 : type_of% @wyob := @wyob
theorem z3 : type_of% @gd_ok := @gd_ok
theorem z4 : type_of% @gdD_ok := @gdD_ok
theorem z5 : type_of% @wwbb := @wwbb
theorem z6 : type_of% @AccLe.chg := @AccLe.chg
theorem z7 : type_of% @AccLe.same := @AccLe.same
end Go.Den
namespace Go.Proofs.Ytjihbfdbgamcdaa
open Go.Den
noncomputable section
theorem mixed : Try.prog.follows .mixedOrders = true := by kernel_rfl
def rawC (f : FuncId) : Bool × Bool := bif Nat.beq f 138 then (true, true) else (false, false)
def ownC (f : FuncId) : Bool := !([57, 58, 72, 81] : List Nat).any fun k => Nat.beq k f
def cfgC0 : Cfg := { raw := fun _ => (false, false), own := ownC, live := fun _ _ => none, glob := fun _ => none, know := wnbb }
theorem wydc : ∀ c, wblb (den Try.prog cfgC0 100 (.call 138 [.slice none 0 c]) AH0) = true := fun c => by kernel_rfl
theorem clone_no : wblb (den Try.prog cfgC0 100 (.call 138 [.slice (some ⟨0, 0, none⟩) 0 0]) AH0) = true := by kernel_rfl
def knowC : FuncId → Option (List Value → Option Value) := wygb [138] wnbb
theorem wkx : wqj Try.prog (fun _ => none) knowC :=
  wrxb (fun f hf => by
      rw [List.mem_singleton] at hf
      subst hf
      exact known_no (cfg := cfgC0) wrq mixed wydc clone_no) wrq
def cfgC : Cfg := { raw := rawC, own := ownC, live := fun _ _ => none, glob := fun _ => none, know := knowC }
end
end Go.Proofs.Ytjihbfdbgamcdaa
namespace Go.Den
noncomputable section
abbrev setX (S : BitVec 256) : Rx := .mk 1 0 0 0 S []
abbrev repX (mn mx : Int) (S : BitVec 256) : Rx := .mk 4 mn mx 0 0#256 [setX S]
abbrev rxCat (l : List Rx) : Rx := .mk 2 0 0 0 0#256 l
abbrev rxAlt (l : List Rx) : Rx := .mk 3 0 0 0 0#256 l
abbrev rxGrp (n : Int) (r : Rx) : Rx := .mk 5 0 0 n 0#256 [r]
abbrev AB : BitVec 256 := one 97 ||| one 98
def rxA : Rx := repX 0 (-1) (one 97)
def rxW : Rx := rxCat [rxGrp 1 (rxAlt [setX (one 97), rxCat [setX (one 97), setX (one 98)]]), rxGrp 2 (rxAlt [setX (one 99), rxCat [setX (one 98), setX (one 99), setX (one 100)]])]
def prV (r : Rx) : Value := .tuple ⟨[.agg ⟨rxC r⟩, .int .i64 0, .int .i64 0]⟩
end
end Go.Den
namespace Go.Proofs.Ytjihbfdbgamcdaa
open Go.Den
noncomputable section
def noSp : List Value := [.int .i64 (-1), .int .i64 (-1)]
def stV (a : Int) (g1 g2 : List Value) : List Value := .int .i64 a :: (noSp ++ g1 ++ g2 ++ noSp)
def sp2 (a b : Int) : List Value := [.int .i64 a, .int .i64 b]
def wrP1 : List Value := [str [97, 42], .bool false]
def wrP2 : List Value := [str [40, 97, 124, 97, 98, 41, 40, 99, 124, 98, 99, 100, 41], .bool true]
def wrW1 : List Value := [.agg ⟨rxC rxA⟩, str [97, 97, 98], .bool true, .int .i64 0]
def wrV1 : Value := FL 3 (stV 2 noSp noSp ++ stV 1 noSp noSp ++ stV 0 noSp noSp)
def wrW2 : List Value := [.agg ⟨rxC rxW⟩, str [97, 98, 99, 100], .bool true, .int .i64 0]
def wrV2 : Value := FL 2 (stV 4 (sp2 0 1) (sp2 1 4) ++ stV 3 (sp2 0 2) (sp2 2 3))
def wrE2 : Value := FL 2 [.int .i64 3, .int .i64 4]
def wdpb : List (FuncId × List Value × Value) := [(65, wrP1, prV rxA), (65, wrP2, prV rxW), (30, wrW1, wrV1), (30, wrW2, wrV2)]
theorem wjib : ∀ e ∈ wdpb, wbm Try.prog (fun _ => none) e.1 e.2.1 e.2.2 := by
  intro e he
  simp only [wdpb, List.mem_cons, List.not_mem_nil, or_false] at he
  rcases he with rfl | rfl | rfl | rfl
  · exact wql (cfg := cfgC) (n := 3000) wkx mixed (by kernel_rfl) (by kernel_rfl) (by kernel_rfl)
  · exact wql (cfg := cfgC) (n := 3000) wkx mixed (by kernel_rfl) (by kernel_rfl) (by kernel_rfl)
  · exact wql (cfg := cfgC) (n := 3000) wkx mixed (by kernel_rfl) (by kernel_rfl) (by kernel_rfl)
  · exact wql (cfg := cfgC) (n := 3000) wkx mixed (by kernel_rfl) (by kernel_rfl) (by kernel_rfl)
def cfgE : Cfg := { raw := fun f => (([68, 99, 115] : List Nat).any fun k => Nat.beq k f, false), own := fun f => !([31, 68, 99, 115, 69] : List Nat).any fun k => Nat.beq k f, live := fun _ _ => none, glob := fun _ => none, know := wzy wdpb wnbb }
theorem ends_run : wbm Try.prog (fun _ => none) 31 wrW2 wrE2 := wql (cfg := cfgE) (n := 3000) (wvv wjib wrq) mixed (by kernel_rfl) (by kernel_rfl) (by kernel_rfl)
def wrTab : List (FuncId × List Value × Value) := (31, wrW2, wrE2) :: wdpb
def cfgW : Cfg := { raw := fun _ => (false, false), own := ownC, live := fun _ _ => none, glob := fun _ => none, know := wzy wrTab wnbb }
theorem wxmb : wwdb (den Try.prog cfgW 3000 (.call 39 []) AH0) = true := by kernel_rfl
theorem wqeb : wbm Try.prog (fun _ => none) 39 [] (.bool true) := wrrb (cfg := cfgW) (wvv (fun e he => by
  rcases List.mem_cons.1 he with rfl | he
  · exact ends_run
  · exact wjib e he) wrq) mixed wxmb
end
end Go.Proofs.Ytjihbfdbgamcdaa
namespace Go.Proofs.Ytjihbfdbgamcdaa
open Go.Den
noncomputable section
def live8 (i : Nat) : Option (List Tmp × List Tmp × Nat) := bif Nat.beq i 7 then some ([9, 10, 11, 12, 13, 14], [9, 10, 11, 12, 13, 14], 999999) else bif Nat.beq i 11 then some ([9, 10, 11, 12, 13, 14, 15, 16, 17], [9, 10, 11, 12, 13, 15, 16], 999999) else bif Nat.beq i 18 then some ([9, 10, 11, 12, 13, 15, 16, 18, 90, 91, 92], [8, 9, 10, 11, 12, 13, 15, 16, 18], 999999) else none
def live21 (i : Nat) : Option (List Tmp × List Tmp × Nat) := bif Nat.beq i 3 then some ([0, 1, 5, 6], [5], 999999) else none
def live31 (i : Nat) : Option (List Tmp × List Tmp × Nat) := bif Nat.beq i 3 then some ([9, 16, 17, 18], [9], 999999) else none
def live32 (i : Nat) : Option (List Tmp × List Tmp × Nat) := bif Nat.beq i 3 then some ([0, 1, 3], [0, 1], 999999) else none
def live37 (i : Nat) : Option (List Tmp × List Tmp × Nat) := bif Nat.beq i 3 then some ([2, 3, 6, 7, 8], [2, 3], 999999) else none
def live40 (i : Nat) : Option (List Tmp × List Tmp × Nat) := bif Nat.beq i 4 then some ([0, 1, 5], [4], 999999) else none
def live67 (i : Nat) : Option (List Tmp × List Tmp × Nat) := bif Nat.beq i 18 then some ([4, 5, 8, 80, 81, 82], [8], 999999) else bif Nat.beq i 27 then some ([3, 5, 11, 108, 109, 110], [11], 999999) else bif Nat.beq i 34 then some ([3, 7, 128, 129, 130], [7], 999999) else none
def live69 (i : Nat) : Option (List Tmp × List Tmp × Nat) := bif Nat.beq i 4 then some ([0, 3], [0, 2], 999999) else bif Nat.beq i 9 then some ([0, 3, 4, 5], [0, 3], 999999) else none
def live88 (i : Nat) : Option (List Tmp × List Tmp × Nat) := bif Nat.beq i 3 then some ([3, 7, 8, 9], [3], 999999) else none
def live89 (i : Nat) : Option (List Tmp × List Tmp × Nat) := bif Nat.beq i 4 then some ([3, 17, 18, 19], [4], 999999) else none
def live90 (i : Nat) : Option (List Tmp × List Tmp × Nat) := bif Nat.beq i 12 then some ([0, 2, 77, 78, 79], [6], 999999) else none
def live96 (i : Nat) : Option (List Tmp × List Tmp × Nat) := bif Nat.beq i 1 then some ([0, 6, 7, 8], [], 999999) else none
def live97 (i : Nat) : Option (List Tmp × List Tmp × Nat) := bif Nat.beq i 3 then some ([3, 4, 7, 11, 12, 13], [7], 999999) else none
def live98 (i : Nat) : Option (List Tmp × List Tmp × Nat) := bif Nat.beq i 5 then some ([0, 1, 5, 52, 53, 54], [0, 1, 5], 999999) else none
def live99 (i : Nat) : Option (List Tmp × List Tmp × Nat) := bif Nat.beq i 2 then some ([0, 1, 2, 3, 8, 9], [], 999999) else none
def live115 (i : Nat) : Option (List Tmp × List Tmp × Nat) := bif Nat.beq i 1 then some ([0, 1, 2, 6], [], 999999) else bif Nat.beq i 4 then some ([0, 1, 2, 6, 7], [0, 1, 2, 6], 999999) else none
def live162 (i : Nat) : Option (List Tmp × List Tmp × Nat) := bif Nat.beq i 2 then some ([0, 1, 7, 8], [4], 999999) else none
def live163 (i : Nat) : Option (List Tmp × List Tmp × Nat) := bif Nat.beq i 2 then some ([0, 1, 7, 8], [4], 999999) else none
def liveT (f i : Nat) : Option (List Tmp × List Tmp × Nat) := bif Nat.blt f 89 then (bif Nat.blt f 37 then (bif Nat.blt f 31 then (bif Nat.blt f 21 then (bif Nat.beq f 8 then live8 i else none) else (bif Nat.beq f 21 then live21 i else none)) else (bif Nat.blt f 32 then (bif Nat.beq f 31 then live31 i else none) else (bif Nat.beq f 32 then live32 i else none))) else (bif Nat.blt f 67 then (bif Nat.blt f 40 then (bif Nat.beq f 37 then live37 i else none) else (bif Nat.beq f 40 then live40 i else none)) else (bif Nat.blt f 69 then (bif Nat.beq f 67 then live67 i else none) else (bif Nat.blt f 88 then (bif Nat.beq f 69 then live69 i else none) else (bif Nat.beq f 88 then live88 i else none))))) else (bif Nat.blt f 98 then (bif Nat.blt f 96 then (bif Nat.blt f 90 then (bif Nat.beq f 89 then live89 i else none) else (bif Nat.beq f 90 then live90 i else none)) else (bif Nat.blt f 97 then (bif Nat.beq f 96 then live96 i else none) else (bif Nat.beq f 97 then live97 i else none))) else (bif Nat.blt f 115 then (bif Nat.blt f 99 then (bif Nat.beq f 98 then live98 i else none) else (bif Nat.beq f 99 then live99 i else none)) else (bif Nat.blt f 162 then (bif Nat.beq f 115 then live115 i else none) else (bif Nat.blt f 163 then (bif Nat.beq f 162 then live162 i else none) else (bif Nat.beq f 163 then live163 i else none)))))
def tabK : List (FuncId × List Value × Value) := [(39, [], .bool true)]
def cfg : Cfg := { raw := fun f => (Nat.beq f 68 || Nat.beq f 99 || Nat.beq f 115, Nat.beq f 87), own := fun f => bif Nat.beq f 31 then false else bif Nat.beq f 68 then false else bif Nat.beq f 69 then false else bif Nat.beq f 99 then false else bif Nat.beq f 115 then false else bif Nat.beq f 41 then false else true, live := liveT, glob := fun _ => none, know := wzy tabK wnbb }
theorem hc : PlainA cfg := ⟨rfl⟩
theorem wck : wqj Try.prog cfg.glob cfg.know := wvv (fun e he => by
  simp only [tabK, List.mem_cons, List.not_mem_nil, or_false] at he
  subst he; exact wqeb) wrq
theorem wzdc : (∀ (rec : Rec) (args : List Value) (H : AH), callS Try.prog cfg rec 8 args H = wof rec 8 H (wwd Try.prog H 20 args) (cfg.know 8)) ∧ (∀ (rec : Rec) (args : List Value) (H : AH), callS Try.prog cfg rec 10 args H = wof rec 10 H (wwd Try.prog H 20 args) (cfg.know 10)) ∧ (∀ (rec : Rec) (args : List Value) (H : AH), callS Try.prog cfg rec 21 args H = wof rec 21 H (wwd Try.prog H 20 args) (cfg.know 21)) ∧ (∀ (rec : Rec) (args : List Value) (H : AH), callS Try.prog cfg rec 30 args H = wof rec 30 H (wwd Try.prog H 20 args) (cfg.know 30)) ∧ (∀ (rec : Rec) (args : List Value) (H : AH), callS Try.prog cfg rec 31 args H = wof rec 31 H (wwd Try.prog H 20 args) (cfg.know 31)) ∧ (∀ (rec : Rec) (args : List Value) (H : AH), callS Try.prog cfg rec 32 args H = wof rec 32 H (wwd Try.prog H 20 args) (cfg.know 32)) ∧ (∀ (rec : Rec) (args : List Value) (H : AH), callS Try.prog cfg rec 37 args H = wof rec 37 H (wwd Try.prog H 20 args) (cfg.know 37)) ∧ (∀ (rec : Rec) (args : List Value) (H : AH), callS Try.prog cfg rec 39 args H = wof rec 39 H (wwd Try.prog H 20 args) (cfg.know 39)) ∧ (∀ (rec : Rec) (args : List Value) (H : AH), callS Try.prog cfg rec 40 args H = wof rec 40 H (wwd Try.prog H 20 args) (cfg.know 40)) ∧ (∀ (rec : Rec) (args : List Value) (H : AH), callS Try.prog cfg rec 46 args H = wof rec 46 H (wwd Try.prog H 20 args) (cfg.know 46)) ∧ (∀ (rec : Rec) (args : List Value) (H : AH), callS Try.prog cfg rec 63 args H = wof rec 63 H (wwd Try.prog H 20 args) (cfg.know 63)) ∧ (∀ (rec : Rec) (args : List Value) (H : AH), callS Try.prog cfg rec 67 args H = wof rec 67 H (wwd Try.prog H 20 args) (cfg.know 67)) ∧ (∀ (rec : Rec) (args : List Value) (H : AH), callS Try.prog cfg rec 68 args H = wof rec 68 H (some (args, [])) (cfg.know 68)) ∧ (∀ (rec : Rec) (args : List Value) (H : AH), callS Try.prog cfg rec 69 args H = wof rec 69 H (wwd Try.prog H 20 args) (cfg.know 69)) ∧ (∀ (rec : Rec) (args : List Value) (H : AH), callS Try.prog cfg rec 78 args H = wof rec 78 H (wwd Try.prog H 20 args) (cfg.know 78)) ∧ (∀ (rec : Rec) (args : List Value) (H : AH), callS Try.prog cfg rec 88 args H = wof rec 88 H (wwd Try.prog H 20 args) (cfg.know 88)) ∧ (∀ (rec : Rec) (args : List Value) (H : AH), callS Try.prog cfg rec 89 args H = wof rec 89 H (wwd Try.prog H 20 args) (cfg.know 89)) ∧ (∀ (rec : Rec) (args : List Value) (H : AH), callS Try.prog cfg rec 90 args H = wof rec 90 H (wwd Try.prog H 20 args) (cfg.know 90)) ∧ (∀ (rec : Rec) (args : List Value) (H : AH), callS Try.prog cfg rec 94 args H = wof rec 94 H (wwd Try.prog H 20 args) (cfg.know 94)) ∧ (∀ (rec : Rec) (args : List Value) (H : AH), callS Try.prog cfg rec 95 args H = wof rec 95 H (wwd Try.prog H 20 args) (cfg.know 95)) ∧ (∀ (rec : Rec) (args : List Value) (H : AH), callS Try.prog cfg rec 96 args H = wof rec 96 H (wwd Try.prog H 20 args) (cfg.know 96)) ∧ (∀ (rec : Rec) (args : List Value) (H : AH), callS Try.prog cfg rec 97 args H = wof rec 97 H (wwd Try.prog H 20 args) (cfg.know 97)) ∧ (∀ (rec : Rec) (args : List Value) (H : AH), callS Try.prog cfg rec 98 args H = wof rec 98 H (wwd Try.prog H 20 args) (cfg.know 98)) ∧ (∀ (rec : Rec) (args : List Value) (H : AH), callS Try.prog cfg rec 99 args H = wof rec 99 H (some (args, [])) (cfg.know 99)) ∧ (∀ (rec : Rec) (args : List Value) (H : AH), callS Try.prog cfg rec 100 args H = wof rec 100 H (wwd Try.prog H 20 args) (cfg.know 100)) ∧ (∀ (rec : Rec) (args : List Value) (H : AH), callS Try.prog cfg rec 107 args H = wof rec 107 H (wwd Try.prog H 20 args) (cfg.know 107)) ∧ (∀ (rec : Rec) (args : List Value) (H : AH), callS Try.prog cfg rec 108 args H = wof rec 108 H (wwd Try.prog H 20 args) (cfg.know 108)) ∧ (∀ (rec : Rec) (args : List Value) (H : AH), callS Try.prog cfg rec 114 args H = wof rec 114 H (wwd Try.prog H 20 args) (cfg.know 114)) ∧ (∀ (rec : Rec) (args : List Value) (H : AH), callS Try.prog cfg rec 115 args H = wof rec 115 H (some (args, [])) (cfg.know 115)) ∧ (∀ (rec : Rec) (args : List Value) (H : AH), callS Try.prog cfg rec 116 args H = wof rec 116 H (wwd Try.prog H 20 args) (cfg.know 116)) ∧ (∀ (rec : Rec) (args : List Value) (H : AH), callS Try.prog cfg rec 117 args H = wof rec 117 H (wwd Try.prog H 20 args) (cfg.know 117)) ∧ (∀ (rec : Rec) (args : List Value) (H : AH), callS Try.prog cfg rec 118 args H = wof rec 118 H (wwd Try.prog H 20 args) (cfg.know 118)) ∧ (∀ (rec : Rec) (args : List Value) (H : AH), callS Try.prog cfg rec 119 args H = wof rec 119 H (wwd Try.prog H 20 args) (cfg.know 119)) ∧ (∀ (rec : Rec) (args : List Value) (H : AH), callS Try.prog cfg rec 120 args H = wof rec 120 H (wwd Try.prog H 20 args) (cfg.know 120)) ∧ (∀ (rec : Rec) (args : List Value) (H : AH), callS Try.prog cfg rec 121 args H = wof rec 121 H (wwd Try.prog H 20 args) (cfg.know 121)) ∧ (∀ (rec : Rec) (args : List Value) (H : AH), callS Try.prog cfg rec 122 args H = wof rec 122 H (wwd Try.prog H 20 args) (cfg.know 122)) ∧ (∀ (rec : Rec) (args : List Value) (H : AH), callS Try.prog cfg rec 123 args H = wof rec 123 H (wwd Try.prog H 20 args) (cfg.know 123)) ∧ (∀ (rec : Rec) (args : List Value) (H : AH), callS Try.prog cfg rec 124 args H = wof rec 124 H (wwd Try.prog H 20 args) (cfg.know 124)) ∧ (∀ (rec : Rec) (args : List Value) (H : AH), callS Try.prog cfg rec 125 args H = wof rec 125 H (wwd Try.prog H 20 args) (cfg.know 125)) ∧ (∀ (rec : Rec) (args : List Value) (H : AH), callS Try.prog cfg rec 133 args H = wof rec 133 H (wwd Try.prog H 20 args) (cfg.know 133)) ∧ (∀ (rec : Rec) (args : List Value) (H : AH), callS Try.prog cfg rec 134 args H = wof rec 134 H (wwd Try.prog H 20 args) (cfg.know 134)) ∧ (∀ (rec : Rec) (args : List Value) (H : AH), callS Try.prog cfg rec 149 args H = wof rec 149 H (wwd Try.prog H 20 args) (cfg.know 149)) ∧ (∀ (rec : Rec) (args : List Value) (H : AH), callS Try.prog cfg rec 150 args H = wof rec 150 H (wwd Try.prog H 20 args) (cfg.know 150)) ∧ (∀ (rec : Rec) (args : List Value) (H : AH), callS Try.prog cfg rec 151 args H = wof rec 151 H (wwd Try.prog H 20 args) (cfg.know 151)) ∧ (∀ (rec : Rec) (args : List Value) (H : AH), callS Try.prog cfg rec 162 args H = wof rec 162 H (wwd Try.prog H 20 args) (cfg.know 162)) ∧ (∀ (rec : Rec) (args : List Value) (H : AH), callS Try.prog cfg rec 163 args H = wof rec 163 H (wwd Try.prog H 20 args) (cfg.know 163)) := ⟨fun _ _ _ => rfl, fun _ _ _ => rfl, fun _ _ _ => rfl, fun _ _ _ => rfl, fun _ _ _ => rfl, fun _ _ _ => rfl, fun _ _ _ => rfl, fun _ _ _ => rfl, fun _ _ _ => rfl, fun _ _ _ => rfl, fun _ _ _ => rfl, fun _ _ _ => rfl, fun _ _ _ => rfl, fun _ _ _ => rfl, fun _ _ _ => rfl, fun _ _ _ => rfl, fun _ _ _ => rfl, fun _ _ _ => rfl, fun _ _ _ => rfl, fun _ _ _ => rfl, fun _ _ _ => rfl, fun _ _ _ => rfl, fun _ _ _ => rfl, fun _ _ _ => rfl, fun _ _ _ => rfl, fun _ _ _ => rfl, fun _ _ _ => rfl, fun _ _ _ => rfl, fun _ _ _ => rfl, fun _ _ _ => rfl, fun _ _ _ => rfl, fun _ _ _ => rfl, fun _ _ _ => rfl, fun _ _ _ => rfl, fun _ _ _ => rfl, fun _ _ _ => rfl, fun _ _ _ => rfl, fun _ _ _ => rfl, fun _ _ _ => rfl, fun _ _ _ => rfl, fun _ _ _ => rfl, fun _ _ _ => rfl, fun _ _ _ => rfl, fun _ _ _ => rfl, fun _ _ _ => rfl, fun _ _ _ => rfl⟩
def G0 : (Nat → Option (List Value)) × Bool := (fun _ => none, true)
theorem g0_K : G0.2 = true := rfl
def G1 : (Nat → Option (List Value)) × Bool := (fun _ => none, false)
theorem g1_K : G1.2 = false := rfl
theorem g_K : (cfg.glob, cfg.own 8) = G0 ∧ (cfg.glob, cfg.own 10) = G0 ∧ (cfg.glob, cfg.own 21) = G0 ∧ (cfg.glob, cfg.own 30) = G0 ∧ (cfg.glob, cfg.own 31) = G1 ∧ (cfg.glob, cfg.own 32) = G0 ∧ (cfg.glob, cfg.own 37) = G0 ∧ (cfg.glob, cfg.own 40) = G0 ∧ (cfg.glob, cfg.own 46) = G0 ∧ (cfg.glob, cfg.own 63) = G0 ∧ (cfg.glob, cfg.own 67) = G0 ∧ (cfg.glob, cfg.own 68) = G1 ∧ (cfg.glob, cfg.own 69) = G1 ∧ (cfg.glob, cfg.own 78) = G0 ∧ (cfg.glob, cfg.own 88) = G0 ∧ (cfg.glob, cfg.own 89) = G0 ∧ (cfg.glob, cfg.own 90) = G0 ∧ (cfg.glob, cfg.own 94) = G0 ∧ (cfg.glob, cfg.own 95) = G0 ∧ (cfg.glob, cfg.own 96) = G0 ∧ (cfg.glob, cfg.own 97) = G0 ∧ (cfg.glob, cfg.own 98) = G0 ∧ (cfg.glob, cfg.own 99) = G1 ∧ (cfg.glob, cfg.own 100) = G0 ∧ (cfg.glob, cfg.own 107) = G0 ∧ (cfg.glob, cfg.own 108) = G0 ∧ (cfg.glob, cfg.own 114) = G0 ∧ (cfg.glob, cfg.own 115) = G1 ∧ (cfg.glob, cfg.own 121) = G0 ∧ (cfg.glob, cfg.own 125) = G0 ∧ (cfg.glob, cfg.own 133) = G0 ∧ (cfg.glob, cfg.own 134) = G0 ∧ (cfg.glob, cfg.own 149) = G0 ∧ (cfg.glob, cfg.own 150) = G0 ∧ (cfg.glob, cfg.own 151) = G0 ∧ (cfg.glob, cfg.own 162) = G0 ∧ (cfg.glob, cfg.own 163) = G0 := ⟨rfl, rfl, rfl, rfl, rfl, rfl, rfl, rfl, rfl, rfl, rfl, rfl, rfl, rfl, rfl, rfl, rfl, rfl, rfl, rfl, rfl, rfl, rfl, rfl, rfl, rfl, rfl, rfl, rfl, rfl, rfl, rfl, rfl, rfl, rfl, rfl, rfl⟩
theorem kn_K : cfg.know 10 = none ∧ cfg.know 21 = none ∧ cfg.know 30 = none ∧ cfg.know 31 = none ∧ cfg.know 32 = none ∧ cfg.know 37 = none ∧ cfg.know 40 = none ∧ cfg.know 46 = none ∧ cfg.know 63 = none ∧ cfg.know 67 = none ∧ cfg.know 68 = none ∧ cfg.know 69 = none ∧ cfg.know 78 = none ∧ cfg.know 88 = none ∧ cfg.know 89 = none ∧ cfg.know 90 = none ∧ cfg.know 94 = none ∧ cfg.know 95 = none ∧ cfg.know 96 = none ∧ cfg.know 97 = none ∧ cfg.know 98 = none ∧ cfg.know 99 = none ∧ cfg.know 100 = none ∧ cfg.know 107 = none ∧ cfg.know 108 = none ∧ cfg.know 114 = none ∧ cfg.know 115 = none ∧ cfg.know 116 = none ∧ cfg.know 117 = none ∧ cfg.know 118 = none ∧ cfg.know 119 = none ∧ cfg.know 120 = none ∧ cfg.know 121 = none ∧ cfg.know 122 = none ∧ cfg.know 123 = none ∧ cfg.know 124 = none ∧ cfg.know 125 = none ∧ cfg.know 133 = none ∧ cfg.know 134 = none ∧ cfg.know 149 = none ∧ cfg.know 151 = none ∧ cfg.know 162 = none ∧ cfg.know 163 = none := ⟨rfl, rfl, rfl, rfl, rfl, rfl, rfl, rfl, rfl, rfl, rfl, rfl, rfl, rfl, rfl, rfl, rfl, rfl, rfl, rfl, rfl, rfl, rfl, rfl, rfl, rfl, rfl, rfl, rfl, rfl, rfl, rfl, rfl, rfl, rfl, rfl, rfl, rfl, rfl, rfl, rfl, rfl, rfl⟩
theorem kw_K : ∀ (rec : Rec) (H : AH) (fr : Frs), wof rec 39 H (some ([], fr)) (cfg.know 39) = .did (.bool true) none true (raise H fr) (wmo fr) := fun _ _ _ => by kernel_rfl
theorem tsz_K : tsz Try.prog 3 = 1 ∧ tsz Try.prog 5 = 1 ∧ tsz Try.prog 46 = 9 ∧ tsz Try.prog 81 = 9 := ⟨by kernel_rfl, by kernel_rfl, by kernel_rfl, by kernel_rfl⟩
theorem raw_K : (cfg.raw 8).2 = false ∧ (cfg.raw 10).2 = false ∧ (cfg.raw 21).2 = false ∧ (cfg.raw 30).2 = false ∧ (cfg.raw 31).2 = false ∧ (cfg.raw 32).2 = false ∧ (cfg.raw 37).2 = false ∧ (cfg.raw 40).2 = false ∧ (cfg.raw 46).2 = false ∧ (cfg.raw 63).2 = false ∧ (cfg.raw 67).2 = false ∧ (cfg.raw 68).2 = false ∧ (cfg.raw 69).2 = false ∧ (cfg.raw 78).2 = false ∧ (cfg.raw 88).2 = false ∧ (cfg.raw 89).2 = false ∧ (cfg.raw 90).2 = false ∧ (cfg.raw 94).2 = false ∧ (cfg.raw 95).2 = false ∧ (cfg.raw 96).2 = false ∧ (cfg.raw 97).2 = false ∧ (cfg.raw 98).2 = false ∧ (cfg.raw 99).2 = false ∧ (cfg.raw 100).2 = false ∧ (cfg.raw 107).2 = false ∧ (cfg.raw 108).2 = false ∧ (cfg.raw 114).2 = false ∧ (cfg.raw 115).2 = false ∧ (cfg.raw 121).2 = false ∧ (cfg.raw 125).2 = false ∧ (cfg.raw 133).2 = false ∧ (cfg.raw 134).2 = false ∧ (cfg.raw 149).2 = false ∧ (cfg.raw 150).2 = false ∧ (cfg.raw 151).2 = false ∧ (cfg.raw 162).2 = false ∧ (cfg.raw 163).2 = false := ⟨rfl, rfl, rfl, rfl, rfl, rfl, rfl, rfl, rfl, rfl, rfl, rfl, rfl, rfl, rfl, rfl, rfl, rfl, rfl, rfl, rfl, rfl, rfl, rfl, rfl, rfl, rfl, rfl, rfl, rfl, rfl, rfl, rfl, rfl, rfl, rfl, rfl⟩
theorem kK : type_of% @raw_K ∧ (type_of% @wzdc ∧ type_of% @g_K) ∧ ((type_of% @g0_K ∧ type_of% @g1_K) ∧ type_of% @tsz_K) ∧ (type_of% @kn_K ∧ type_of% @kw_K) := ⟨@raw_K, ⟨@wzdc, @g_K⟩, ⟨⟨@g0_K, @g1_K⟩, @tsz_K⟩, ⟨@kn_K, @kw_K⟩⟩
theorem wie : cfg.live 8 (wgd (wkb 0)) = some ([9, 10, 11, 12, 13, 14], [9, 10, 11, 12, 13, 14], 999999) := by kernel_rfl
theorem wwc : cfg.live 8 (wgd (wkb 1)) = some ([9, 10, 11, 12, 13, 14, 15, 16, 17], [9, 10, 11, 12, 13, 15, 16], 999999) := by kernel_rfl
theorem wxc : cfg.live 8 (wgd (wkb 2)) = some ([9, 10, 11, 12, 13, 15, 16, 18, 90, 91, 92], [8, 9, 10, 11, 12, 13, 15, 16, 18], 999999) := by kernel_rfl
theorem wki : cfg.live 21 (wgd (wgj 0)) = some ([0, 1, 5, 6], [5], 999999) := by kernel_rfl
theorem whj : cfg.live 31 (wgd (wcl 0)) = some ([9, 16, 17, 18], [9], 999999) := by kernel_rfl
theorem wep : cfg.live 32 (wgd (wyo 0)) = some ([0, 1, 3], [0, 1], 999999) := by kernel_rfl
theorem wbr : cfg.live 37 (wgd (wom 0)) = some ([2, 3, 6, 7, 8], [2, 3], 999999) := by kernel_rfl
theorem wli : cfg.live 40 (wgd (wmh 0)) = some ([0, 1, 5], [4], 999999) := by kernel_rfl
theorem wig : cfg.live 67 (wgd (wzb 0)) = some ([4, 5, 8, 80, 81, 82], [8], 999999) := by kernel_rfl
theorem wgf : cfg.live 67 (wgd (wzb 1)) = some ([3, 5, 11, 108, 109, 110], [11], 999999) := by kernel_rfl
theorem wjg : cfg.live 67 (wgd (wzb 2)) = some ([3, 7, 128, 129, 130], [7], 999999) := by kernel_rfl
theorem wyg : cfg.live 69 (wgd (wze 0)) = some ([0, 3], [0, 2], 999999) := by kernel_rfl
theorem wfp : cfg.live 88 (wgd (wap 0)) = some ([3, 7, 8, 9], [3], 999999) := by kernel_rfl
theorem wwb : cfg.live 90 (wgd (wfj 0)) = some ([0, 2, 77, 78, 79], [6], 999999) := by kernel_rfl
theorem wxd : cfg.live 96 (wgd (wph 0)) = some ([0, 6, 7, 8], [], 999999) := by kernel_rfl
theorem whf : cfg.live 97 (wgd (wpi 0)) = some ([3, 4, 7, 11, 12, 13], [7], 999999) := by kernel_rfl
theorem wz : cfg.live 98 (wgd (whg 0)) = some ([0, 1, 5, 52, 53, 54], [0, 1, 5], 999999) := by kernel_rfl
theorem wme : cfg.live 99 (wgd (wbe 0)) = some ([0, 1, 2, 3, 8, 9], [], 999999) := by kernel_rfl
theorem wgc : cfg.live 115 (wgd (wib 0)) = some ([0, 1, 2, 6], [], 999999) := by kernel_rfl
theorem wfd : cfg.live 115 (wgd (wib 1)) = some ([0, 1, 2, 6, 7], [0, 1, 2, 6], 999999) := by kernel_rfl
theorem wxb : cfg.live 162 (wgd (wae 0)) = some ([0, 1, 7, 8], [4], 999999) := by kernel_rfl
theorem wzd : cfg.live 163 (wgd (wmg 0)) = some ([0, 1, 7, 8], [4], 999999) := by kernel_rfl
end
end Go.Proofs.Ytjihbfdbgamcdaa
namespace Go.Proofs.Ytjihbfdbgamcdaa
set_option linter.unusedVariables false
set_option linter.unusedSimpArgs false
open Go.Den
noncomputable section
def wdj (n lo hi : Int) : Int := if n.tmod (hi - lo + 1) < 0 then lo + (n.tmod (hi - lo + 1) + hi - lo + 1) else lo + n.tmod (hi - lo + 1)
theorem wwu (n lo hi : Int) (h1 : -1000000 ≤ lo) (h2 : lo ≤ hi) (h3 : hi ≤ 1000000) : lim Try.prog cfg (.call 10 [.int .i64 n, .int .i64 lo, .int .i64 hi]) (HP []) = some (.val (.int .i64 (wdj n lo hi)), HP []) := by
  refine wub hc wvp (Nat.le_of_ble_eq_true rfl) (Nat.le_of_ble_eq_true rfl) ?_
  unfold wzm wdj
  have hb : -(hi - lo + 1) < n.tmod (hi - lo + 1) ∧ n.tmod (hi - lo + 1) < hi - lo + 1 := by
    have := Int.emod_nonneg n (show hi - lo + 1 ≠ 0 by omega)
    have h5 := Int.emod_lt_of_pos n (show 0 < hi - lo + 1 by omega)
    rw [Int.tmod_eq_emod]
    split <;> omega
  (repeat' (first | (simp -implicitDefEqProofs (maxSteps := 2000000) (disch := first | with_reducible assumption | omega | (simp only [zS, zA, seval] <;> omega) | fail) only [zS, argl, insA, Go.Den.wh, wo, wu, looks, wbb, wab, idOf, riA, seval, Go.Den.wm, kK, *]) | (with_reducible (first | apply z1 | apply z2 | apply z3 | apply z4) <;> intro hq <;> (try simp only [zH] at hq) <;> (try (exfalso; omega)))))
def wxu : Mt := ⟨[-1, -1, -1, -1, -1, -1, -1, -1], rfl⟩
theorem wkib (m : Mt) (i j : Nat) (a : Int) : (m.put i a).at j = if i = j ∧ j < 8 then a else m.at j := by
  rw [Mt.at, Mt.at, Mt.put, List.getD_eq_getElem?_getD, List.getD_eq_getElem?_getD, List.getElem?_set, m.2]
  by_cases h1 : i = j
  · subst h1
    by_cases h2 : i < 8
    · simp [h2]
    · have h3 := m.2
      simp [h2]
      rw [List.getElem?_eq_none (by omega)]
      rfl
  · simp [h1]
theorem waec (z : List Value) : ∀ (k i : Nat) (m : Mt), i + k = 4 → (∀ j, j < 2 * i → m.at j = -1) →
    lim Try.prog cfg (.loop 32 0 (wyo 0) (SE (EJ 11 G0) [(3, .int .i64 i), (1, .pointer (some ⟨1, 0, none⟩)), (0, .pointer (some ⟨0, 0, none⟩))])) (HP [X z 52 0 true, X (mtC m) 52 0 true]) = some (.code (.exit 0) (SE (EJ 11 G0) [(1, .pointer (some ⟨1, 0, none⟩)), (0, .pointer (some ⟨0, 0, none⟩))]), HP [X z 52 0 true, X (mtC wxu) 52 0 true]) := by
  intro k
  induction k with
  | zero =>
    intro i m hi hm
    have : m = wxu := by
      apply Subtype.ext
      apply List.ext_getElem (by rw [m.2]; rfl)
      intro j h1 h2
      have h3 := hm j (by rw [m.2] at h1; omega)
      rw [Mt.at, List.getD_eq_getElem?_getD, List.getElem?_eq_getElem h1] at h3
      have h4 : wxu.1[j] = -1 := by
        have : ∀ x ∈ wxu.1, x = -1 := by decide
        exact this _ (List.getElem_mem h2)
      rw [h4]
      exact h3
    subst this
    refine wcb wip ?_
    unfold wzo
    (repeat' (first | (simp -implicitDefEqProofs (maxSteps := 2000000) (disch := first | with_reducible assumption | omega | (simp only [zS, zA, seval, zD] <;> omega) | fail) only [zS, argl, insA, Go.Den.wh, wo, wu, looks, wbb, wab, idOf, riA, seval, Go.Den.wm, kK, wep, *, zT]) | (with_reducible (first | apply z1 | apply z2 | apply z3 | apply z4) <;> intro hq <;> (try simp only [zH] at hq) <;> (try (exfalso; omega)))))
  | succ k ih =>
    intro i m hi hm
    refine wcb wip ?_
    unfold wzo
    (repeat' (first | (simp -implicitDefEqProofs (maxSteps := 2000000) (disch := first | with_reducible assumption | omega | (simp only [zS, zA, seval, zD] <;> omega) | fail) only [zS, argl, insA, Go.Den.wh, wo, wu, looks, wbb, wab, idOf, riA, seval, Go.Den.wm, kK, wep, *, zT]) | (with_reducible (first | apply z1 | apply z2 | apply z3 | apply z4) <;> intro hq <;> (try simp only [zH] at hq) <;> (try (exfalso; omega)))))
    refine ih (i + 1) _ (by omega) fun j hj => ?_
    rw [wkib, wkib]
    split
    · rfl
    · split
      · rfl
      · exact hm j (by omega)
theorem ev_None : lim Try.prog cfg (.call 32 []) (HP []) = some (.val (.agg ⟨mtC wxu⟩), HP []) := by
  refine wub hc wnab (Nat.le_of_ble_eq_true rfl) (Nat.le_of_ble_eq_true rfl) ?_
  unfold whz
  have h := waec (mtC Mt.zero) 4 0 Mt.zero rfl (fun j hj => by omega)
  rw [show ((0 : Nat) : Int) = 0 from rfl, show mtC Mt.zero = [.int .i64 0, .int .i64 0, .int .i64 0, .int .i64 0, .int .i64 0, .int .i64 0, .int .i64 0, .int .i64 0] from rfl] at h
  (repeat' (first | (simp -implicitDefEqProofs (maxSteps := 2000000) (disch := first | with_reducible assumption | omega | (simp only [zS, zA, seval, zD] <;> omega) | fail) only [zS, argl, insA, Go.Den.wh, wo, wu, looks, wbb, wab, idOf, riA, seval, Go.Den.wm, kK, wep, h, *, zT]) | (with_reducible (first | apply z1 | apply z2 | apply z3 | apply z4) <;> intro hq <;> (try simp only [zH] at hq) <;> (try (exfalso; omega)))))
theorem ev_Has (s : BitVec 256) (x : Nat) (hx : x < 256) : lim Try.prog cfg (.call 46 [.agg ⟨setC s⟩, .int .u8 x]) (HP []) = some (.val (.bool (s.getLsbD x)), HP []) := by
  refine wub hc wrab (Nat.le_of_ble_eq_true rfl) (Nat.le_of_ble_eq_true rfl) ?_
  unfold wlz
  have h1 : BitVec.ofInt (IntKind.bits .u64) 1 = BitVec.ofInt (IntKind.bits .u64) (((1#64).toNat : Nat) : Int) := rfl
  (repeat' (first | (simp -implicitDefEqProofs (maxSteps := 2000000) (disch := first | with_reducible assumption | omega | (simp only [zS, zA, seval, zD] <;> omega) | fail) only [zS, argl, insA, Go.Den.wh, wo, wu, looks, wbb, wab, idOf, riA, seval, Go.Den.wm, kK, wzob, shr_u64, h1, and_u64, bit_one, *, zT]) | (with_reducible (first | apply z1 | apply z2 | apply z3 | apply z4) <;> intro hq <;> (try simp only [zH] at hq) <;> (try (exfalso; omega)))))
  have e1 : ((x : Int) / 64).toNat = x / 64 := by omega
  have e2 : ((x : Int) % 64).toNat = x % 64 := by omega
  rw [e1, e2, has_bit s x hx]
end
end Go.Proofs.Ytjihbfdbgamcdaa
namespace Go.Den
noncomputable section
variable {P : Program}
def nfX : Option ABlk → Bool
  | some (.cells b) => isNil b.lens && (Nat.beq b.wver 0 && !b.pf)
  | _ => false
theorem nfX_X {cs : List Value} {t z : Nat} : nfX (some (X cs t z false)) = true := rfl
def rowU (i n k : Nat) : Option (List Value × Frs) → Option (Value × Frs)
  | some (cs, f) => bif wlb cs then some (FL n cs, (i, k) :: f) else none
  | none => none
theorem wlib {i n k : Nat} {cs : List Value} {f : Frs} : rowU i n k (some (cs, f)) = bif wlb cs then some (FL n cs, (i, k) :: f) else none := rfl
def rowT (P : Program) (i n c : Nat) (sl : List Value → Option (List Value × Frs)) : Option ABlk → Option (Value × Frs)
  | some (.cells b) => bif Nat.ble n c && (Nat.blt 0 (tsz P b.elem) && Nat.ble (n * tsz P b.elem) b.cells.length) then rowU i n (n * tsz P b.elem) (sl (slotsOf b.cells 0 (n * tsz P b.elem))) else none
  | _ => none
theorem rowT_X {i n c : Nat} {sl : List Value → Option (List Value × Frs)} {cs : List Value} {t z : Nat} {pf : Bool} : rowT P i n c sl (some (X cs t z pf)) = bif Nat.ble n c && (Nat.blt 0 (tsz P t) && Nat.ble (n * tsz P t) cs.length) then rowU i n (n * tsz P t) (sl (slotsOf cs 0 (n * tsz P t))) else none := rfl
theorem wmib {h : List ABlk} (hh : h.length ≤ 1099511627774) {i n c : Nat} {sl : List Value → Option (List Value × Frs)} (hx : nfX h[i]? = true) :
    weg P (HP h) sl (.slice (some ⟨i, 0, none⟩) (n + 1) (c + 1)) = rowT P i (n + 1) c sl h[i]? := by
  show wam P (HP h) sl ⟨i, 0, none⟩ (n + 1) (c + 1) = _
  unfold wam
  rw [wsh h hh]
  cases hb : h[i]? with
  | none => rw [hb] at hx; cases hx
  | some b =>
    rw [hb] at hx
    cases b with
    | map es => cases hx
    | tok a b c => cases hx
    | cells b =>
      have hx : (isNil b.lens && (Nat.beq b.wver 0 && !b.pf)) = true := hx
      simp only [Bool.and_eq_true, Nat.beq_eq, Bool.not_eq_true'] at hx
      obtain ⟨h3, h4, h7⟩ := hx
      have h5 : b.lens = [] := by cases hl : b.lens with | nil => rfl | cons a r => rw [hl] at h3; cases h3
      have e0 : wch P b = tsz P b.elem := by unfold wch; rw [h5]; rfl
      have hi : wvb i = true := weh (by have := wqu hb; omega)
      have h6 : rdOk b (aver ⟨i, 0, none⟩) (0 + (n + 1) * tsz P b.elem) = Nat.ble ((n + 1) * tsz P b.elem) b.cells.length := by
        unfold rdOk
        have e1 : b.top = 0 := by unfold CBlk.top; rw [h5]; rfl
        have e2 : b.lenAt 0 = b.cells.length := by unfold CBlk.lenAt; rw [h5]
        rw [h4, e1]
        show (Nat.ble 0 0 && (Nat.ble 0 0 && Nat.ble (0 + (n + 1) * tsz P b.elem) (b.lenAt 0))) = _
        rw [e2, Nat.zero_add, nble 0 0]
        simp
      simp only [e0, h6, h7, cond_false]
      show (bif (Nat.ble (n + 1) c && Nat.blt 0 (tsz P b.elem)) && Nat.ble ((n + 1) * tsz P b.elem) b.cells.length then _ else none) = (bif Nat.ble (n + 1) c && (Nat.blt 0 (tsz P b.elem) && Nat.ble ((n + 1) * tsz P b.elem) b.cells.length) then _ else none)
      rw [Bool.and_assoc]
      cases (Nat.ble (n + 1) c && (Nat.blt 0 (tsz P b.elem) && Nat.ble ((n + 1) * tsz P b.elem) b.cells.length)) with
      | false => rfl
      | true =>
        simp only [cond_true, hi, Bool.and_true, Nat.zero_add]
        cases sl (slotsOf b.cells 0 ((n + 1) * tsz P b.elem)) <;> rfl
end
end Go.Den
namespace Go.Den
noncomputable section
end
end Go.Den
namespace Go.Den
noncomputable section
variable {P : Program}
end
end Go.Den
namespace Go.Proofs.Ytjihbfdbgamcdaa
set_option linter.unusedVariables false
set_option linter.unusedSimpArgs false
open Go.Den
noncomputable section
end
end Go.Proofs.Ytjihbfdbgamcdaa
namespace Go.Den
noncomputable section
def addF : List St → List St → List St
  | l, [] => l
  | l, x :: xs => addF (if x ∈ l then l else l ++ [x]) xs
theorem addF_nil {l : List St} : addF l [] = l := rfl
theorem wcr {l xs : List St} {x : St} : addF l (x :: xs) = addF (if x ∈ l then l else l ++ [x]) xs := rfl
theorem wreb {y : St} : ∀ (xs l : List St), y ∈ addF l xs ↔ y ∈ l ∨ y ∈ xs := by
  intro xs
  induction xs with
  | nil => intro l; simp [addF]
  | cons x xs ih =>
    intro l
    rw [wcr, ih]
    by_cases h : x ∈ l
    · rw [if_pos h]
      constructor
      · rintro (h1 | h1)
        · exact .inl h1
        · exact .inr (List.mem_cons_of_mem _ h1)
      · rintro (h1 | h1)
        · exact .inl h1
        · rcases List.mem_cons.1 h1 with rfl | h1
          · exact .inl h
          · exact .inr h1
    · rw [if_neg h]
      simp only [List.mem_append, List.mem_cons, List.not_mem_nil, or_false]
      constructor
      · rintro ((h1 | h1) | h1)
        · exact .inl h1
        · exact .inr (.inl h1)
        · exact .inr (.inr h1)
      · rintro (h1 | h1 | h1)
        · exact .inl (.inl h1)
        · exact .inl (.inr h1)
        · exact .inr h1
theorem wnub : ∀ (xs l : List St), l.Nodup → (addF l xs).Nodup := by
  intro xs
  induction xs with
  | nil => intro l h; exact h
  | cons x xs ih =>
    intro l h
    rw [wcr]
    by_cases hx : x ∈ l
    · rw [if_pos hx]; exact ih l h
    · rw [if_neg hx]
      refine ih _ ?_
      rw [List.nodup_append]
      refine ⟨h, by simp, ?_⟩
      intro a ha b hb
      rw [List.mem_singleton] at hb
      subst hb
      intro hab
      subst hab
      exact hx ha
theorem wepb : ∀ (xs l : List St), l.length ≤ (addF l xs).length := by
  intro xs
  induction xs with
  | nil => intro l; exact Nat.le_refl _
  | cons x xs ih =>
    intro l
    rw [wcr]
    refine Nat.le_trans ?_ (ih _)
    split
    · exact Nat.le_refl _
    · simp
theorem wdk {l xs : List St} (h : l ≠ [] ∨ xs ≠ []) : addF l xs ≠ [] := by
  intro he
  rcases h with h | h
  · obtain ⟨a, ha⟩ := List.exists_mem_of_ne_nil l h
    have := (wreb xs l).2 (.inl ha)
    rw [he] at this; cases this
  · obtain ⟨a, ha⟩ := List.exists_mem_of_ne_nil xs h
    have := (wreb xs l).2 (.inr ha)
    rw [he] at this; cases this
def keyF (mn mx n : Int) (x : St) : Int × St := (if mx < 0 then min n mn else n, x)
def onF (w : St → List St) (mn mx : Int) : Nat → Int → St → List (Int × St) × List St → List (Int × St) × List St
  | 0, _, _, a => a
  | k + 1, n, x, a =>
    if keyF mn mx n x ∈ a.1 then a
    else
      let b := if mx < 0 ∨ n < mx then (w x).foldl (fun b y => if y.1 ≠ x.1 ∨ n < mn then onF w mn mx k (n + 1) y b else b) (a.1 ++ [keyF mn mx n x], a.2) else (a.1 ++ [keyF mn mx n x], a.2)
      if n ≥ mn then (b.1, addF b.2 [x]) else b
def woub (s : List UInt8) (n : Int) (x : St) : List St :=
  if x.2.at (n.toNat * 2) < 0 then []
  else if x.2.at (n.toNat * 2 + 1) - x.2.at (n.toNat * 2) > s.length - x.1 then []
  else if (s.take (x.2.at (n.toNat * 2 + 1)).toNat).drop (x.2.at (n.toNat * 2)).toNat ≠ (s.take (x.1 + (x.2.at (n.toNat * 2 + 1) - x.2.at (n.toNat * 2))).toNat).drop x.1.toNat then []
  else [(x.1 + (x.2.at (n.toNat * 2 + 1) - x.2.at (n.toNat * 2)), x.2)]
def wymb (w : St → List St) (l : List St) : List St := l.foldl (fun out y => addF out (w y)) []
def groupW (n : Int) (x : St) (l : List St) : List St := l.foldl (fun out y => addF out [(y.1, (y.2.put (n.toNat * 2) x.1).put (n.toNat * 2 + 1) y.1)]) []
mutual
def wti (s : List UInt8) (bol : Bool) : Rx → St → List St
  | .mk k mn mx n set kids, x =>
    if k = 1 then (if x.1 < s.length ∧ set.getLsbD (s.getD x.1.toNat 0).toNat = true then [(x.1 + 1, x.2)] else [])
    else if k = 7 then (if x.1 = 0 ∧ bol = true then [x] else [])
    else if k = 8 then (if x.1 = s.length then [x] else [])
    else if k = 6 then woub s n x
    else if k = 5 then groupW n x (kidF s bol kids x)
    else if k = 3 then altF s bol kids x []
    else if k = 2 then catF s bol kids [x]
    else if k = 4 then (onF (fun y => kidF s bol kids y) mn mx 100 0 x ([], [])).2
    else []
def kidF (s : List UInt8) (bol : Bool) : List Rx → St → List St
  | [], _ => []
  | r :: _, x => wti s bol r x
def altF (s : List UInt8) (bol : Bool) : List Rx → St → List St → List St
  | [], _, out => out
  | r :: rs, x, out => altF s bol rs x (addF out (wti s bol r x))
def catF (s : List UInt8) (bol : Bool) : List Rx → List St → List St
  | [], l => l
  | r :: rs, l => catF s bol rs (wymb (fun y => wti s bol r y) l)
end
mutual
def okR : Rx → Bool
  | .mk k mn mx n _ kids =>
    (if k = 5 then decide (kids ≠ []) && (decide (1 ≤ n) && decide (n ≤ 3)) else if k = 4 then decide (kids ≠ []) && (decide (0 ≤ mn) && (decide (mn ≤ 20) && (decide (-1 ≤ mx) && decide (mx ≤ 20)))) else if k = 6 then decide (1 ≤ n) && decide (n ≤ 3) else true) && okRs kids
def okRs : List Rx → Bool
  | [] => true
  | r :: rs => okR r && okRs rs
end
def wbec (len : Nat) (a b : Int) : Prop := (a = -1 ∧ b = -1) ∨ (0 ≤ a ∧ a ≤ b ∧ b ≤ len)
structure GdS (len : Nat) (x : St) : Prop where
  lo : 0 ≤ x.1
  hi : x.1 ≤ len
  m0 : x.2.at 0 = -1
  m1 : x.2.at 1 = -1
  sp : ∀ g : Nat, 1 ≤ g → g ≤ 3 → wbec len (x.2.at (g * 2)) (x.2.at (g * 2 + 1))
theorem Mt.at_put (m : Mt) (i j : Nat) (a : Int) : (m.put i a).at j = if i = j ∧ j < 8 then a else m.at j := by
  rw [Mt.at, Mt.at, Mt.put, List.getD_eq_getElem?_getD, List.getD_eq_getElem?_getD, List.getElem?_set, m.2]
  by_cases h1 : i = j
  · subst h1
    by_cases h2 : i < 8
    · simp [h2]
    · have h3 := m.2
      simp [h2]
      rw [List.getElem?_eq_none (by omega)]
      rfl
  · simp [h1]
theorem GdS.move {len : Nat} {x : St} (h : GdS len x) {a : Int} (h1 : 0 ≤ a) (h2 : a ≤ len) : GdS len (a, x.2) := ⟨h1, h2, h.m0, h.m1, h.sp⟩
theorem GdS.group {len : Nat} {x y : St} (hx : GdS len x) (hy : GdS len y) (hxy : x.1 ≤ y.1) {n : Int} (n1 : 1 ≤ n) (n3 : n ≤ 3) : GdS len (y.1, (y.2.put (n.toNat * 2) x.1).put (n.toNat * 2 + 1) y.1) := by
  refine ⟨hy.lo, hy.hi, ?_, ?_, fun g g1 g3 => ?_⟩
  · show Mt.at _ 0 = -1
    rw [Mt.at_put, if_neg (by omega), Mt.at_put, if_neg (by omega)]; exact hy.m0
  · show Mt.at _ 1 = -1
    rw [Mt.at_put, if_neg (by omega), Mt.at_put, if_neg (by omega)]; exact hy.m1
  · show wbec len (Mt.at _ (g * 2)) (Mt.at _ (g * 2 + 1))
    rw [Mt.at_put, Mt.at_put, Mt.at_put, Mt.at_put]
    by_cases h : n.toNat = g
    · rw [if_neg (by omega), if_pos (by omega), if_pos (by omega)]
      exact .inr ⟨hx.lo, hxy, hy.hi⟩
    · rw [if_neg (by omega), if_neg (by omega), if_neg (by omega), if_neg (by omega)]
      exact hy.sp g g1 g3
structure RwS (len : Nat) (at0 : Int) (l : List St) : Prop where
  nd : l.Nodup
  good : ∀ y ∈ l, GdS len y ∧ at0 ≤ y.1
theorem RwS.nil {len : Nat} {a : Int} : RwS len a [] := ⟨List.nodup_nil, fun y h => (by cases h)⟩
theorem RwS.one {len : Nat} {a : Int} {x : St} (h : GdS len x) (ha : a ≤ x.1) : RwS len a [x] := ⟨by simp, fun y hy => by rw [List.mem_singleton] at hy; subst hy; exact ⟨h, ha⟩⟩
theorem RwS.add {len : Nat} {a : Int} {l xs : List St} (h : RwS len a l) (hx : ∀ y ∈ xs, GdS len y ∧ a ≤ y.1) : RwS len a (addF l xs) :=
  ⟨wnub _ _ h.nd, fun y hy => by rcases (wreb _ _).1 hy with h1 | h1; exact h.good y h1; exact hx y h1⟩
theorem RwS.fold {len : Nat} {a : Int} {α : Type} (f : α → List St) : ∀ (l : List α), (∀ z ∈ l, ∀ y ∈ f z, GdS len y ∧ a ≤ y.1) → ∀ out, RwS len a out → RwS len a (l.foldl (fun out z => addF out (f z)) out) := by
  intro l
  induction l with
  | nil => intro _ out h; exact h
  | cons z l ih =>
    intro hf out h
    exact ih (fun z' hz' => hf z' (List.mem_cons_of_mem _ hz')) _ (h.add (hf z (List.mem_cons_self ..)))
theorem wnib {len : Nat} {a0 : Int} {w : St → List St} {mn mx : Int} (hw : ∀ x, GdS len x → a0 ≤ x.1 → RwS len x.1 (w x)) : ∀ (k : Nat) (n : Int) (x : St) (a : List (Int × St) × List St), GdS len x → a0 ≤ x.1 → RwS len a0 a.2 → RwS len a0 (onF w mn mx k n x a).2 := by
  intro k
  induction k with
  | zero => intro n x a _ _ h; exact h
  | succ k ih =>
    intro n x a hx hxa h
    have hf : ∀ (l : List St), (∀ y ∈ l, GdS len y ∧ x.1 ≤ y.1) → ∀ b : List (Int × St) × List St, RwS len a0 b.2 → RwS len a0 (l.foldl (fun b y => if y.1 ≠ x.1 ∨ n < mn then onF w mn mx k (n + 1) y b else b) b).2 := by
      intro l
      induction l with
      | nil => intro _ b hb; exact hb
      | cons y l ih2 =>
        intro hl b hb
        have hy := hl y (List.mem_cons_self ..)
        refine ih2 (fun z hz => hl z (List.mem_cons_of_mem _ hz)) _ ?_
        show RwS len a0 (if y.1 ≠ x.1 ∨ n < mn then onF w mn mx k (n + 1) y b else b).2
        split
        · exact ih _ _ _ hy.1 (by omega) hb
        · exact hb
    unfold onF
    split
    · exact h
    · simp only
      have hb : RwS len a0 (if mx < 0 ∨ n < mx then (w x).foldl (fun b y => if y.1 ≠ x.1 ∨ n < mn then onF w mn mx k (n + 1) y b else b) (a.1 ++ [keyF mn mx n x], a.2) else (a.1 ++ [keyF mn mx n x], a.2)).2 := by
        split
        · exact hf (w x) (hw x hx hxa).good _ h
        · exact h
      split
      · exact hb.add (fun y hy => by rw [List.mem_singleton] at hy; subst hy; exact ⟨hx, hxa⟩)
      · exact hb
theorem back_row {len : Nat} {s : List UInt8} (hs : s.length = len) {n : Int} (n1 : 1 ≤ n) (n3 : n ≤ 3) {x : St} (hx : GdS len x) : RwS len x.1 (woub s n x) := by
  unfold woub
  split
  · exact .nil
  rename_i h0
  split
  · exact .nil
  rename_i h1
  split
  · exact .nil
  have h := hx.sp n.toNat (by omega) (by omega)
  have hlo := hx.lo
  have hhi := hx.hi
  rcases h with h | h
  · omega
  · exact .one (hx.move (by omega) (by omega)) (by show x.1 ≤ x.1 + _; omega)
theorem wseb {len : Nat} {s : List UInt8} (hs : s.length = len) {bol : Bool} : ∀ (r : Rx), okR r = true → ∀ x, GdS len x → RwS len x.1 (wti s bol r x) := by
  refine Rx.rec (motive_1 := fun r => okR r = true → ∀ x, GdS len x → RwS len x.1 (wti s bol r x))
    (motive_2 := fun kids => okRs kids = true → (∀ r ∈ kids, ∀ x, GdS len x → RwS len x.1 (wti s bol r x))) ?_ ?_ ?_
  · intro k mn mx n set kids ih hok x hx
    rw [okR, Bool.and_eq_true] at hok
    have hk := ih hok.2
    have kid : kids ≠ [] → ∀ y, GdS len y → RwS len y.1 (kidF s bol kids y) := by
      intro hne y hy
      cases kids with
      | nil => exact absurd rfl hne
      | cons r rs => rw [kidF]; exact hk r (List.mem_cons_self ..) y hy
    rw [wti]
    have hlo := hx.lo
    split
    · split
      · rename_i h; exact .one (hx.move (by omega) (by omega)) (by show x.1 ≤ x.1 + 1; omega)
      · exact .nil
    split
    · split
      · exact .one hx (Int.le_refl _)
      · exact .nil
    split
    · split
      · exact .one hx (Int.le_refl _)
      · exact .nil
    split
    · rename_i h6
      have h := hok.1
      rw [if_neg (by omega), if_neg (by omega), if_pos h6] at h
      simp only [Bool.and_eq_true, decide_eq_true_eq] at h
      exact back_row hs h.1 h.2 hx
    split
    · rename_i h5
      have h := hok.1
      rw [if_pos h5] at h
      simp only [Bool.and_eq_true, decide_eq_true_eq] at h
      refine RwS.fold (fun y : St => [(y.1, (y.2.put (n.toNat * 2) x.1).put (n.toNat * 2 + 1) y.1)]) _ (fun z hz y hy => ?_) _ .nil
      rw [List.mem_singleton] at hy
      subst hy
      have hz := (kid h.1 x hx).good z hz
      exact ⟨hx.group hz.1 hz.2 h.2.1 h.2.2, hz.2⟩
    split
    · have alt : ∀ (l : List Rx), (∀ r ∈ l, ∀ x, GdS len x → RwS len x.1 (wti s bol r x)) → ∀ out, RwS len x.1 out → RwS len x.1 (altF s bol l x out) := by
        intro l
        induction l with
        | nil => intro _ out h; rw [altF]; exact h
        | cons r l ih =>
          intro hl out h
          rw [altF]
          exact ih (fun r hr => hl r (List.mem_cons_of_mem _ hr)) _ (h.add (hl r (List.mem_cons_self ..) x hx).good)
      exact alt kids hk [] .nil
    split
    · have cat : ∀ (l : List Rx), (∀ r ∈ l, ∀ x, GdS len x → RwS len x.1 (wti s bol r x)) → ∀ out, RwS len x.1 out → RwS len x.1 (catF s bol l out) := by
        intro l
        induction l with
        | nil => intro _ out h; rw [catF]; exact h
        | cons r l ih =>
          intro hl out h
          rw [catF]
          refine ih (fun r hr => hl r (List.mem_cons_of_mem _ hr)) _ ?_
          refine RwS.fold (fun y => wti s bol r y) _ (fun z hz y hy => ?_) _ .nil
          have h1 := h.good z hz
          have h2 := (hl r (List.mem_cons_self ..) z h1.1).good y hy
          exact ⟨h2.1, by omega⟩
      exact cat kids hk [x] (.one hx (Int.le_refl _))
    split
    · rename_i h4
      have h := hok.1
      rw [if_neg (by omega), if_pos h4] at h
      simp only [Bool.and_eq_true, decide_eq_true_eq] at h
      exact wnib (a0 := x.1) (fun y hy _ => kid h.1 y hy) 100 0 x _ hx (Int.le_refl _) .nil
    · exact .nil
  · intro _ r hr; cases hr
  · intro r rs ih1 ih2 hok
    rw [okRs, Bool.and_eq_true] at hok
    intro r' hr'
    rcases List.mem_cons.1 hr' with rfl | h
    · exact ih1 hok.1
    · exact ih2 hok.2 r' h
theorem nodup_le {α : Type} [DecidableEq α] : ∀ (l L : List α), l.Nodup → (∀ x ∈ l, x ∈ L) → l.length ≤ L.length := by
  intro l
  induction l with
  | nil => intro L _ _; exact Nat.zero_le _
  | cons a l ih =>
    intro L hn hs
    rw [List.nodup_cons] at hn
    have ha := hs a (List.mem_cons_self ..)
    have h1 := ih (L.erase a) hn.2 (fun x hx => by
      refine (List.mem_erase_of_ne ?_).2 (hs x (List.mem_cons_of_mem _ hx))
      intro h
      subst h
      exact hn.1 hx)
    rw [List.length_erase_of_mem ha] at h1
    have := List.length_pos_of_mem ha
    rw [List.length_cons]
    omega
theorem wteb {α β : Type} {f : α → List β} {k : Nat} (h : ∀ a, (f a).length = k) (l : List α) : (l.flatMap f).length = l.length * k := by
  induction l with
  | nil => simp
  | cons a l ih => rw [List.flatMap_cons, List.length_append, h, ih, List.length_cons, Nat.add_mul]; omega
def wwk (len : Nat) : List (Int × Int) := (-1, -1) :: (List.range (len + 1)).flatMap fun (a : Nat) => (List.range (len + 1 - a)).map fun (d : Nat) => ((a : Int), ((a + d : Nat) : Int))
def allSt (len : Nat) : List St := (List.range (len + 1)).flatMap fun (a : Nat) => (wwk len).flatMap fun p => (wwk len).flatMap fun q => (wwk len).map fun r => ((a : Int), ⟨[-1, -1, p.1, p.2, q.1, q.2, r.1, r.2], rfl⟩)
theorem wtz {len : Nat} {a b : Int} (h : wbec len a b) : (a, b) ∈ wwk len := by
  unfold wwk
  rcases h with ⟨rfl, rfl⟩ | ⟨h1, h2, h3⟩
  · exact List.mem_cons_self ..
  · refine List.mem_cons_of_mem _ (List.mem_flatMap.2 ⟨a.toNat, List.mem_range.2 (by omega), List.mem_map.2 ⟨(b - a).toNat, List.mem_range.2 (by omega), ?_⟩⟩)
    rw [Prod.mk.injEq]
    exact ⟨by omega, by omega⟩
theorem all_mem {len : Nat} {x : St} (h : GdS len x) : x ∈ allSt len := by
  obtain ⟨a, ⟨l, hl⟩⟩ := x
  match l, hl with
  | [c0, c1, c2, c3, c4, c5, c6, c7], hl =>
    obtain ⟨h1, h2, h3, h4, h5⟩ := h
    have e0 : c0 = -1 := h3
    have e1 : c1 = -1 := h4
    subst e0 e1
    have s1 := wtz (h5 1 (by omega) (by omega))
    have s2 := wtz (h5 2 (by omega) (by omega))
    have s3 := wtz (h5 3 (by omega) (by omega))
    have h1 : 0 ≤ a := h1
    have h2 : a ≤ len := h2
    refine List.mem_flatMap.2 ⟨a.toNat, List.mem_range.2 (by omega), List.mem_flatMap.2 ⟨_, s1, List.mem_flatMap.2 ⟨_, s2, List.mem_map.2 ⟨_, s3, ?_⟩⟩⟩⟩
    rw [Prod.mk.injEq]
    exact ⟨by omega, rfl⟩
theorem wcec : ∀ len : Nat, len ≤ 12 → (wwk len).length ≤ 92 := by
  intro len h
  match len, h with
  | 0, _ => decide
  | 1, _ => decide
  | 2, _ => decide
  | 3, _ => decide
  | 4, _ => decide
  | 5, _ => decide
  | 6, _ => decide
  | 7, _ => decide
  | 8, _ => decide
  | 9, _ => decide
  | 10, _ => decide
  | 11, _ => decide
  | 12, _ => decide
theorem row_len {len : Nat} {a : Int} {l : List St} (h : RwS len a l) (hl : len ≤ 12) : l.length ≤ 11000000 := by
  have h1 := nodup_le l (allSt len) h.nd (fun x hx => all_mem (h.good x hx).1)
  have h2 : (allSt len).length = (len + 1) * ((wwk len).length * ((wwk len).length * (wwk len).length)) := by
    unfold allSt
    rw [wteb (k := (wwk len).length * ((wwk len).length * (wwk len).length)), List.length_range]
    intro a
    rw [wteb (k := (wwk len).length * (wwk len).length)]
    intro p
    rw [wteb (k := (wwk len).length)]
    intro q
    rw [List.length_map]
  have h3 := wcec len hl
  have h4 : (len + 1) * ((wwk len).length * ((wwk len).length * (wwk len).length)) ≤ 13 * (92 * (92 * 92)) :=
    Nat.mul_le_mul (by omega) (Nat.mul_le_mul h3 (Nat.mul_le_mul h3 h3))
  omega
end
end Go.Den
namespace Go.Proofs.Ytjihbfdbgamcdaa
set_option linter.unusedVariables false
set_option linter.unusedSimpArgs false
open Go.Den
noncomputable section
theorem wtab : KeyT Try.prog 81 stC :=
  ⟨by kernel_rfl, ⟨[.int .i64, .int .i64, .int .i64, .int .i64, .int .i64, .int .i64, .int .i64, .int .i64, .int .i64], by kernel_rfl, fun _ => wtmb⟩, fun _ _ => st_eqL, fun _ => wjdc⟩
theorem wfb (l : List St) : beqP (setK stC l) (setK stC l) = true := wvdc (fun _ => st_bq) l
theorem wtl : lim Try.prog cfg (.call 95 []) (HP []) = some (.val (.pointer (some ⟨0, 0, none⟩)), HP [X [.slice none 0 0, .map (some 1)] 173 0 false, .map []]) := by
  refine wub hc wxw (Nat.le_of_ble_eq_true rfl) (Nat.le_of_ble_eq_true rfl) ?_
  unfold wtu
  (repeat' (first | (simp -implicitDefEqProofs (maxSteps := 2000000) (disch := first | with_reducible assumption | omega | (simp only [zS, zA, seval, zD] <;> omega) | fail) only [zS, argl, insA, Go.Den.wh, wo, wu, looks, wbb, wab, idOf, riA, seval, Go.Den.wm, kK, *, zT]) | (with_reducible (first | apply z1 | apply z2 | apply z3 | apply z4) <;> intro hq <;> (try simp only [zH] at hq) <;> (try (exfalso; omega)))))
abbrev rowB (l : List St) : List ABlk := [X [FO 2 l.length (stsC l), .map (some 1)] 173 0 false, .map (setK stC l), .tok l.length 81 9]
abbrev rowC (l : List St) : List ABlk := [X [FO 1 l.length (stsC l), .map (some 2)] 173 0 false, .tok l.length 81 9, .map (setK stC l)]
abbrev rowN : List ABlk := [X [.slice none 0 0, .map (some 1)] 173 0 false, .map []]
theorem wuj (xs : List St) {i : Nat} (h : i < xs.length) : xs.drop i = xs.getD i St.zero :: xs.drop (i + 1) := by
  rw [List.drop_eq_getElem_cons h, List.getD_eq_getElem?_getD, List.getElem?_eq_getElem h]; rfl
theorem wdec (xs : List St) (hx : xs.length ≤ 16000000) : ∀ (k i : Nat) (l : List St), i + k = xs.length → l ≠ [] → (addF l (xs.drop i)).length ≤ 16000000 →
    lim Try.prog cfg (.loop 96 3 (wph 0) (SE (EJ 35 G0) [(8, .int .i64 i), (7, .int .i64 xs.length), (6, FL xs.length (stsC xs)), (0, .pointer (some ⟨0, 0, none⟩))])) (HP (rowC l)) = some (.code (.exit 0) (SE (EJ 35 G0) []), HP (rowC (addF l (xs.drop i)))) := by
  intro k
  induction k with
  | zero =>
    intro i l hi hl hn
    rw [List.drop_of_length_le (by omega)]
    refine wcb wmf ?_
    unfold wkg
    (repeat' (first | (simp -implicitDefEqProofs (maxSteps := 2000000) (disch := first | with_reducible assumption | omega | (simp only [zS, zA, seval, wy, zD] <;> omega) | fail) only [zS, argl, insA, Go.Den.wh, wo, wu, looks, wbb, wab, idOf, riA, seval, Go.Den.wm, kK, wxd, wy, *, zT]) | (with_reducible (first | apply z1 | apply z2 | apply z3 | apply z4) <;> intro hq <;> (try simp only [zH] at hq) <;> (try (exfalso; omega))) | (with_reducible apply z5; (case hl => (repeat (first | exact .nil | with_reducible apply z6 | with_reducible apply z7))); (case h => kernel_rfl))))
    all_goals rfl
  | succ k ih =>
    intro i l hi hl hn
    rw [wuj xs (by omega), addF] at hn ⊢
    refine wcb wmf ?_
    unfold wkg
    have hn2 := Nat.le_trans (wepb _ _) hn
    by_cases hm : xs.getD i St.zero ∈ l
    · rw [if_pos hm] at hn hn2 ⊢
      (repeat' (first | (simp -implicitDefEqProofs (maxSteps := 2000000) (disch := first | with_reducible assumption | omega | (simp only [zS, zA, seval, wy, zD] <;> omega) | fail) only [zS, argl, insA, Go.Den.wh, wo, wu, looks, wbb, wab, idOf, riA, seval, Go.Den.wm, kK, wxd, wy, wff wtab, wrh wtab, *, zT]) | (with_reducible (first | apply z1 | apply z2 | apply z3 | apply z4) <;> intro hq <;> (try simp only [zH] at hq) <;> (try (exfalso; omega))) | (with_reducible apply z5; (case hl => (repeat (first | exact .nil | with_reducible apply z6 | with_reducible apply z7))); (case h => kernel_rfl))))
      exact ih (i + 1) l (by omega) hl hn
    · rw [if_neg hm] at hn hn2 ⊢
      have hn3 : l.length + 1 ≤ 16000000 := by rw [List.length_append] at hn2; exact hn2
      (repeat' (first | (simp -implicitDefEqProofs (maxSteps := 2000000) (disch := first | with_reducible assumption | omega | (simp only [zS, zA, seval, wy, zD] <;> omega) | fail) only [zS, argl, insA, Go.Den.wh, wo, wu, looks, wbb, wab, idOf, riA, seval, Go.Den.wm, kK, wxd, wy, wff wtab, wrh wtab, *, zT]) | (with_reducible (first | apply z1 | apply z2 | apply z3 | apply z4) <;> intro hq <;> (try simp only [zH] at hq) <;> (try (exfalso; omega))) | (with_reducible apply z5; (case hl => (repeat (first | exact .nil | with_reducible apply z6 | with_reducible apply z7))); (case h => kernel_rfl))))
      have h := ih (i + 1) (l ++ [xs.getD i St.zero]) (by omega) (by simp) hn
      unfold rowC at h
      rw [show (l ++ [xs.getD i St.zero]).length = l.length + 1 by simp, wapb] at h
      exact h
theorem weec (xs : List St) (hx : xs.length ≤ 16000000) : ∀ (k i : Nat) (l : List St), i + k = xs.length → l ≠ [] → (addF l (xs.drop i)).length ≤ 16000000 →
    lim Try.prog cfg (.loop 96 2 (wph 0) (SE (EJ 35 G0) [(8, .int .i64 i), (7, .int .i64 xs.length), (6, FL xs.length (stsC xs)), (0, .pointer (some ⟨0, 0, none⟩))])) (HP (rowB l)) = some (.code (.exit 0) (SE (EJ 35 G0) []), HP (rowB (addF l (xs.drop i)))) := by
  intro k
  induction k with
  | zero =>
    intro i l hi hl hn
    rw [List.drop_of_length_le (by omega)]
    refine wcb wmf ?_
    unfold wkg
    (repeat' (first | (simp -implicitDefEqProofs (maxSteps := 2000000) (disch := first | with_reducible assumption | omega | (simp only [zS, zA, seval, wy, zD] <;> omega) | fail) only [zS, argl, insA, Go.Den.wh, wo, wu, looks, wbb, wab, idOf, riA, seval, Go.Den.wm, kK, wxd, wy, *, zT]) | (with_reducible (first | apply z1 | apply z2 | apply z3 | apply z4) <;> intro hq <;> (try simp only [zH] at hq) <;> (try (exfalso; omega))) | (with_reducible apply z5; (case hl => (repeat (first | exact .nil | with_reducible apply z6 | with_reducible apply z7))); (case h => kernel_rfl))))
    all_goals rfl
  | succ k ih =>
    intro i l hi hl hn
    rw [wuj xs (by omega), addF] at hn ⊢
    refine wcb wmf ?_
    unfold wkg
    have hn2 := Nat.le_trans (wepb _ _) hn
    by_cases hm : xs.getD i St.zero ∈ l
    · rw [if_pos hm] at hn hn2 ⊢
      (repeat' (first | (simp -implicitDefEqProofs (maxSteps := 2000000) (disch := first | with_reducible assumption | omega | (simp only [zS, zA, seval, wy, zD] <;> omega) | fail) only [zS, argl, insA, Go.Den.wh, wo, wu, looks, wbb, wab, idOf, riA, seval, Go.Den.wm, kK, wxd, wy, wff wtab, wrh wtab, *, zT]) | (with_reducible (first | apply z1 | apply z2 | apply z3 | apply z4) <;> intro hq <;> (try simp only [zH] at hq) <;> (try (exfalso; omega))) | (with_reducible apply z5; (case hl => (repeat (first | exact .nil | with_reducible apply z6 | with_reducible apply z7))); (case h => kernel_rfl))))
      exact ih (i + 1) l (by omega) hl hn
    · rw [if_neg hm] at hn hn2 ⊢
      have hn3 : l.length + 1 ≤ 16000000 := by rw [List.length_append] at hn2; exact hn2
      (repeat' (first | (simp -implicitDefEqProofs (maxSteps := 2000000) (disch := first | with_reducible assumption | omega | (simp only [zS, zA, seval, wy, zD] <;> omega) | fail) only [zS, argl, insA, Go.Den.wh, wo, wu, looks, wbb, wab, idOf, riA, seval, Go.Den.wm, kK, wxd, wy, wff wtab, wrh wtab, *, zT]) | (with_reducible (first | apply z1 | apply z2 | apply z3 | apply z4) <;> intro hq <;> (try simp only [zH] at hq) <;> (try (exfalso; omega))) | (with_reducible apply z5; (case hl => (repeat (first | exact .nil | with_reducible apply z6 | with_reducible apply z7))); (case h => kernel_rfl))))
      have h := ih (i + 1) (l ++ [xs.getD i St.zero]) (by omega) (by simp) hn
      unfold rowB at h
      rw [show (l ++ [xs.getD i St.zero]).length = l.length + 1 by simp, wapb] at h
      exact h
theorem wfec (xs : List St) (hx : xs.length ≤ 16000000) (h0 : xs ≠ []) (hn : (addF [] xs).length ≤ 16000000) :
    lim Try.prog cfg (.loop 96 2 (wph 0) (SE (EJ 35 G0) [(8, .int .i64 0), (7, .int .i64 xs.length), (6, FL xs.length (stsC xs)), (0, .pointer (some ⟨0, 0, none⟩))])) (HP rowN) = some (.code (.exit 0) (SE (EJ 35 G0) []), HP (rowB (addF [] xs))) := by
  have hl : 0 < xs.length := List.length_pos_iff.2 h0
  have e : addF [] xs = addF [xs.getD 0 St.zero] (xs.drop 1) := by
    have h1 := wuj xs hl
    rw [List.drop_zero] at h1
    conv => lhs; rw [h1]
    rw [wcr, if_neg (by simp)]
    rfl
  rw [e] at hn ⊢
  refine wcb wmf ?_
  unfold wkg
  have hg := wkm (l := xs) (i := 0) hl
  rw [Nat.zero_mul] at hg
  have hm : xs.getD 0 St.zero ∉ ([] : List St) := by simp
  (repeat' (first | (simp -implicitDefEqProofs (maxSteps := 2000000) (disch := first | with_reducible assumption | omega | (simp only [zS, zA, seval, wy, zD] <;> omega) | fail) only [zS, argl, insA, Go.Den.wh, wo, wu, looks, wbb, wab, idOf, riA, seval, Go.Den.wm, kK, wxd, wy, wpeb (enc := stC), wff wtab, wrh wtab, *, zT]) | (with_reducible (first | apply z1 | apply z2 | apply z3 | apply z4) <;> intro hq <;> (try simp only [zH] at hq) <;> (try (exfalso; omega))) | (with_reducible apply z5; (case hl => (repeat (first | exact .nil | with_reducible apply z6 | with_reducible apply z7))); (case h => kernel_rfl))))
  have h := weec xs hx (xs.length - 1) 1 [xs.getD 0 St.zero] (by omega) (by simp) hn
  unfold rowB at h
  rw [show [xs.getD 0 St.zero].length = 1 from rfl, ← sts_one] at h
  exact h
theorem wxr (l xs : List St) (hl : l ≠ []) (hx : xs.length ≤ 16000000) (hn : (addF l xs).length ≤ 16000000) : lim Try.prog cfg (.call 96 [.pointer (some ⟨0, 0, none⟩), FL xs.length (stsC xs)]) (HP (rowC l)) = some (.val (.tuple ⟨[]⟩), HP (rowC (addF l xs))) := by
  refine wub hc wbl (Nat.le_of_ble_eq_true rfl) (Nat.le_of_ble_eq_true rfl) ?_
  unfold wil
  have h := wdec xs hx xs.length 0 l (by omega) hl hn
  rw [List.drop_zero, show ((0 : Nat) : Int) = 0 from rfl] at h
  (repeat' (first | (simp -implicitDefEqProofs (maxSteps := 2000000) (disch := first | with_reducible assumption | omega | (simp only [zS, zA, seval, wy, zD] <;> omega) | fail) only [zS, argl, insA, Go.Den.wh, wo, wu, looks, wbb, wab, idOf, riA, seval, Go.Den.wm, kK, wxd, wy, *, zT]) | (with_reducible (first | apply z1 | apply z2 | apply z3 | apply z4) <;> intro hq <;> (try simp only [zH] at hq) <;> (try (exfalso; omega)))))
theorem wyu (xs : List St) (h0 : xs ≠ []) (hx : xs.length ≤ 16000000) (hn : (addF [] xs).length ≤ 16000000) : lim Try.prog cfg (.call 96 [.pointer (some ⟨0, 0, none⟩), FL xs.length (stsC xs)]) (HP rowN) = some (.val (.tuple ⟨[]⟩), HP (rowB (addF [] xs))) := by
  refine wub hc wbl (Nat.le_of_ble_eq_true rfl) (Nat.le_of_ble_eq_true rfl) ?_
  unfold wil
  have h := wfec xs hx h0 hn
  (repeat' (first | (simp -implicitDefEqProofs (maxSteps := 2000000) (disch := first | with_reducible assumption | omega | (simp only [zS, zA, seval, wy, zD] <;> omega) | fail) only [zS, argl, insA, Go.Den.wh, wo, wu, looks, wbb, wab, idOf, riA, seval, Go.Den.wm, kK, wxd, wy, *, zT]) | (with_reducible (first | apply z1 | apply z2 | apply z3 | apply z4) <;> intro hq <;> (try simp only [zH] at hq) <;> (try (exfalso; omega)))))
theorem wfpb : lim Try.prog cfg (.call 96 [.pointer (some ⟨0, 0, none⟩), FL 0 []]) (HP rowN) = some (.val (.tuple ⟨[]⟩), HP rowN) := by
  refine wub hc wbl (Nat.le_of_ble_eq_true rfl) (Nat.le_of_ble_eq_true rfl) ?_
  unfold wil
  have h : lim Try.prog cfg (.loop 96 2 (wph 0) (SE (EJ 35 G0) [(8, .int .i64 0), (7, .int .i64 0), (6, FL 0 []), (0, .pointer (some ⟨0, 0, none⟩))])) (HP rowN) = some (.code (.exit 0) (SE (EJ 35 G0) []), HP rowN) := by
    refine wcb wmf ?_
    unfold wkg
    (repeat' (first | (simp -implicitDefEqProofs (maxSteps := 2000000) (disch := first | with_reducible assumption | omega | (simp only [zS, zA, seval, zD] <;> omega) | fail) only [zS, argl, insA, Go.Den.wh, wo, wu, looks, wbb, wab, idOf, riA, seval, Go.Den.wm, kK, wxd, *, zT]) | (with_reducible (first | apply z1 | apply z2 | apply z3 | apply z4) <;> intro hq <;> (try simp only [zH] at hq) <;> (try (exfalso; omega))) | (with_reducible apply z5; (case hl => (repeat (first | exact .nil | with_reducible apply z6 | with_reducible apply z7))); (case h => kernel_rfl))))
  (repeat' (first | (simp -implicitDefEqProofs (maxSteps := 2000000) (disch := first | with_reducible assumption | omega | (simp only [zS, zA, seval, zD] <;> omega) | fail) only [zS, argl, insA, Go.Den.wh, wo, wu, looks, wbb, wab, idOf, riA, seval, Go.Den.wm, kK, wxd, Int.natCast_zero, *, zT]) | (with_reducible (first | apply z1 | apply z2 | apply z3 | apply z4) <;> intro hq <;> (try simp only [zH] at hq) <;> (try (exfalso; omega))) | (with_reducible apply z5; (case hl => (repeat (first | exact .nil | with_reducible apply z6 | with_reducible apply z7))); (case h => kernel_rfl))))
end
end Go.Proofs.Ytjihbfdbgamcdaa
namespace Go.Proofs.Ytjihbfdbgamcdaa
set_option linter.unusedVariables false
set_option linter.unusedSimpArgs false
open Go.Den
noncomputable section
theorem ev_back (s : List UInt8) (hs : s.length ≤ 1000) (bol : Bool) (n : Int) (n1 : 1 ≤ n) (n3 : n ≤ 3) (x : St) (hx : GdS s.length x) :
    lim Try.prog cfg (.call 94 [.agg ⟨[str s, .bool bol]⟩, .int .i64 n, .agg ⟨stC x⟩]) (HP []) = some (.val (FL (woub s n x).length (stsC (woub s n x))), HP []) := by
  refine wub hc wct (Nat.le_of_ble_eq_true rfl) (Nat.le_of_ble_eq_true rfl) ?_
  unfold wkp
  have h := hx.sp n.toNat (by omega) (by omega)
  have hlo := hx.lo
  have hhi := hx.hi
  unfold woub
  obtain ⟨f, hf⟩ : ∃ f, x.2.at (n.toNat * 2) = f := ⟨_, rfl⟩
  obtain ⟨t, ht⟩ : ∃ t, x.2.at (n.toNat * 2 + 1) = t := ⟨_, rfl⟩
  rw [hf, ht] at h ⊢
  rcases h with ⟨rfl, rfl⟩ | ⟨h1, h2, h3⟩
  · (repeat' (first | (simp -implicitDefEqProofs (maxSteps := 2000000) (disch := first | with_reducible assumption | omega | (simp only [zS, zA, seval, zD] <;> omega) | fail) only [zS, argl, insA, Go.Den.wh, wo, wu, looks, wbb, wab, idOf, riA, seval, Go.Den.wm, kK, *, zT]) | (with_reducible (first | apply z1 | apply z2 | apply z3 | apply z4) <;> intro hq <;> (try simp only [zH] at hq) <;> (try (exfalso; omega))) | (with_reducible apply z5; (case hl => (repeat (first | exact .nil | with_reducible apply z6 | with_reducible apply z7))); (case h => kernel_rfl))))
  · have h0 : ¬ f < 0 := by omega
    (repeat' (first | (simp -implicitDefEqProofs (maxSteps := 2000000) (disch := first | with_reducible assumption | omega | (simp only [zS, zA, seval, zD] <;> omega) | fail) only [zS, argl, insA, Go.Den.wh, wo, wu, looks, wbb, wab, idOf, riA, seval, Go.Den.wm, kK, *, zT]) | (with_reducible (first | apply z1 | apply z2 | apply z3 | apply z4) <;> intro hq <;> (try simp only [zH] at hq) <;> (try (exfalso; omega))) | (with_reducible apply z5; (case hl => (repeat (first | exact .nil | with_reducible apply z6 | with_reducible apply z7))); (case h => kernel_rfl))))
    all_goals simp_all [wri, wneb]
def wzu (w : St → List St) (l : List St) (out : List St) : List St := l.foldl (fun out y => addF out (w y)) out
theorem waw (w : St → List St) (y : St) (l out : List St) : wzu w (y :: l) out = wzu w l (addF out (w y)) := rfl
abbrev frC (s : List UInt8) (bol : Bool) (r : Rx) (l : List St) : List ABlk := [X [str s, .bool bol] 129 0 true, X (rxC r) 46 0 true, X [FO 3 l.length (stsC l), .map (some 4)] 173 0 false, .tok l.length 81 9, .map (setK stC l)]
abbrev frN (s : List UInt8) (bol : Bool) (r : Rx) : List ABlk := [X [str s, .bool bol] 129 0 true, X (rxC r) 46 0 true, X [.slice none 0 0, .map (some 3)] 173 0 false, .map []]
theorem wgpb (w : St → List St) : ∀ (l out : List St), out ≠ [] → wzu w l out ≠ [] := by
  intro l
  induction l with
  | nil => intro out h; exact h
  | cons y l ih => intro out h; exact ih _ (wdk (.inl h))
def rowO (l : List St) : List ABlk := if l = [] then rowN else rowC l
theorem wpub (s : List UInt8) (hs : s.length ≤ 12) (bol : Bool) (r : Rx) (w : St → List St) (a : Int) (l : List St) (hll : l.length ≤ 16000000) (hl : ∀ y ∈ l, GdS s.length y ∧ a ≤ y.1) (hw : ∀ y, GdS s.length y → RwS s.length y.1 (w y) ∧ lim Try.prog cfg (.call 67 [.agg ⟨[str s, .bool bol]⟩, .agg ⟨rxC r⟩, .agg ⟨stC y⟩]) (HP []) = some (.val (FL (w y).length (stsC (w y))), HP [])) :
    ∀ (k i : Nat) (out : List St), i + k = l.length → out ≠ [] → RwS s.length a out →
    lim Try.prog cfg (.loop 97 0 (wpi 0) (SE (EJ 28 G0) [(13, .int .i64 i), (12, .int .i64 l.length), (11, FL l.length (stsC l)), (7, .pointer (some ⟨2, 0, none⟩)), (4, .pointer (some ⟨1, 0, none⟩)), (3, .pointer (some ⟨0, 0, none⟩))])) (HP (frC s bol r out)) = some (.code (.exit 0) (SE (EJ 28 G0) [(7, .pointer (some ⟨0, 0, none⟩))]), HP (rowC (wzu w (l.drop i) out))) := by
  intro k
  induction k with
  | zero =>
    intro i out hi ho hr
    rw [List.drop_of_length_le (by omega)]
    refine wcb wkh ?_
    unfold wjh
    (repeat' (first | (simp -implicitDefEqProofs (maxSteps := 2000000) (disch := first | with_reducible assumption | omega | (simp only [zS, zA, seval, wy, zD] <;> omega) | fail) only [zS, argl, insA, Go.Den.wh, wo, wu, looks, wbb, wab, idOf, riA, seval, Go.Den.wm, kK, whf, wy, *, zT]) | (with_reducible (first | apply z1 | apply z2 | apply z3 | apply z4) <;> intro hq <;> (try simp only [zH] at hq) <;> (try (exfalso; omega)))))
    all_goals rfl
  | succ k ih =>
    intro i out hi ho hr
    rw [wuj l (by omega), waw]
    have hy := hl (l.getD i St.zero) (by rw [List.getD_eq_getElem?_getD, List.getElem?_eq_getElem (by omega)]; exact List.getElem_mem _)
    have ⟨h1, h2⟩ := hw _ hy.1
    have h3 : RwS s.length a (addF out (w (l.getD i St.zero))) := hr.add (fun z hz => ⟨(h1.good z hz).1, by have := (h1.good z hz).2; omega⟩)
    have h4 := row_len h1 hs
    have h5 := row_len h3 hs
    have h6 := wxr out (w (l.getD i St.zero)) ho (by omega) (by omega)
    refine wcb wkh ?_
    unfold wjh
    (repeat' (first | (simp -implicitDefEqProofs (maxSteps := 2000000) (disch := first | with_reducible assumption | omega | (simp only [zS, zA, seval, wy, zD] <;> omega) | fail) only [zS, argl, insA, Go.Den.wh, wo, wu, looks, wbb, wab, idOf, riA, seval, Go.Den.wm, kK, whf, wy, wfb, *, zT]) | (with_reducible (first | apply z1 | apply z2 | apply z3 | apply z4) <;> intro hq <;> (try simp only [zH] at hq) <;> (try (exfalso; omega)))))
    exact ih (i + 1) _ (by omega) (wdk (.inl ho)) h3
theorem wqub (s : List UInt8) (hs : s.length ≤ 12) (bol : Bool) (r : Rx) (w : St → List St) (a : Int) (l : List St) (hll : l.length ≤ 16000000) (hl : ∀ y ∈ l, GdS s.length y ∧ a ≤ y.1) (hw : ∀ y, GdS s.length y → RwS s.length y.1 (w y) ∧ lim Try.prog cfg (.call 67 [.agg ⟨[str s, .bool bol]⟩, .agg ⟨rxC r⟩, .agg ⟨stC y⟩]) (HP []) = some (.val (FL (w y).length (stsC (w y))), HP [])) :
    ∀ (k i : Nat), i + k = l.length →
    lim Try.prog cfg (.loop 97 0 (wpi 0) (SE (EJ 28 G0) [(13, .int .i64 i), (12, .int .i64 l.length), (11, FL l.length (stsC l)), (7, .pointer (some ⟨2, 0, none⟩)), (4, .pointer (some ⟨1, 0, none⟩)), (3, .pointer (some ⟨0, 0, none⟩))])) (HP (frN s bol r)) = some (.code (.exit 0) (SE (EJ 28 G0) [(7, .pointer (some ⟨0, 0, none⟩))]), HP (rowO (wzu w (l.drop i) []))) := by
  intro k
  induction k with
  | zero =>
    intro i hi
    rw [List.drop_of_length_le (by omega)]
    refine wcb wkh ?_
    unfold wjh
    (repeat' (first | (simp -implicitDefEqProofs (maxSteps := 2000000) (disch := first | with_reducible assumption | omega | (simp only [zS, zA, seval, wy, zD] <;> omega) | fail) only [zS, argl, insA, Go.Den.wh, wo, wu, looks, wbb, wab, idOf, riA, seval, Go.Den.wm, kK, whf, wy, *, zT]) | (with_reducible (first | apply z1 | apply z2 | apply z3 | apply z4) <;> intro hq <;> (try simp only [zH] at hq) <;> (try (exfalso; omega)))))
    all_goals rfl
  | succ k ih =>
    intro i hi
    have hd := wuj l (show i < l.length by omega)
    rw [hd, waw]
    have hy := hl (l.getD i St.zero) (by rw [List.getD_eq_getElem?_getD, List.getElem?_eq_getElem (by omega)]; exact List.getElem_mem _)
    have ⟨h1, h2⟩ := hw _ hy.1
    have h3 : RwS s.length a (addF [] (w (l.getD i St.zero))) := RwS.nil.add (fun z hz => ⟨(h1.good z hz).1, by have := (h1.good z hz).2; omega⟩)
    have h4 := row_len h1 hs
    have h5 := row_len h3 hs
    have h7 := ih (i + 1) (by omega)
    refine wcb wkh ?_
    unfold wjh
    by_cases hz : w (l.getD i St.zero) = []
    · rw [hz] at h2 ⊢
      clear h1 h3 h4 h5
      rw [List.length_nil, wneb] at h2
      (repeat' (first | (simp -implicitDefEqProofs (maxSteps := 2000000) (disch := first | with_reducible assumption | omega | (simp only [zS, zA, seval, wy, zD] <;> omega) | fail) only [zS, argl, insA, Go.Den.wh, wo, wu, looks, wbb, wab, idOf, riA, seval, Go.Den.wm, kK, whf, wy, wfb, wfpb, *, zT]) | (with_reducible (first | apply z1 | apply z2 | apply z3 | apply z4) <;> intro hq <;> (try simp only [zH] at hq) <;> (try (exfalso; omega)))))
      exact h7
    · have h6 := wyu (w (l.getD i St.zero)) hz (by omega) (by omega)
      have h8 := wpub s hs bol r w a l hll hl hw k (i + 1) (addF [] (w (l.getD i St.zero))) (by omega) (wdk (.inr hz)) h3
      rw [rowO, if_neg (wgpb w _ _ (wdk (.inr hz)))]
      clear h7
      (repeat' (first | (simp -implicitDefEqProofs (maxSteps := 2000000) (disch := first | with_reducible assumption | omega | (simp only [zS, zA, seval, wy, zD] <;> omega) | fail) only [zS, argl, insA, Go.Den.wh, wo, wu, looks, wbb, wab, idOf, riA, seval, Go.Den.wm, kK, whf, wy, wfb, *, zT]) | (with_reducible (first | apply z1 | apply z2 | apply z3 | apply z4) <;> intro hq <;> (try simp only [zH] at hq) <;> (try (exfalso; omega)))))
      exact h8
theorem wgec (s : List UInt8) (hs : s.length ≤ 12) (bol : Bool) (r : Rx) (w : St → List St) (a : Int) (l : List St) (hll : l.length ≤ 16000000) (hl : ∀ y ∈ l, GdS s.length y ∧ a ≤ y.1) (hw : ∀ y, GdS s.length y → RwS s.length y.1 (w y) ∧ lim Try.prog cfg (.call 67 [.agg ⟨[str s, .bool bol]⟩, .agg ⟨rxC r⟩, .agg ⟨stC y⟩]) (HP []) = some (.val (FL (w y).length (stsC (w y))), HP [])) :
    lim Try.prog cfg (.call 97 [.agg ⟨[str s, .bool bol]⟩, .agg ⟨rxC r⟩, FL l.length (stsC l)]) (HP []) = some (.val (FL (wymb w l).length (stsC (wymb w l))), HP []) := by
  refine wub hc wdt (Nat.le_of_ble_eq_true rfl) (Nat.le_of_ble_eq_true rfl) ?_
  unfold wlp
  have h := wqub s hs bol r w a l hll hl hw l.length 0 (by omega)
  rw [List.drop_zero, show ((0 : Nat) : Int) = 0 from rfl] at h
  show _ = some (Out.val (FL (wzu w l []).length (stsC (wzu w l []))), HP [])
  clear hw
  by_cases hz : wzu w l [] = []
  · rw [rowO, if_pos hz] at h
    rw [hz]
    (repeat' (first | (simp -implicitDefEqProofs (maxSteps := 2000000) (disch := first | with_reducible assumption | omega | (simp only [zS, zA, seval, wy, zD] <;> omega) | fail) only [zS, argl, insA, Go.Den.wh, wo, wu, looks, wbb, wab, idOf, riA, seval, Go.Den.wm, kK, whf, wy, wtl, *, zT]) | (with_reducible (first | apply z1 | apply z2 | apply z3 | apply z4) <;> intro hq <;> (try simp only [zH] at hq) <;> (try (exfalso; omega)))))
  · rw [rowO, if_neg hz] at h
    (repeat' (first | (simp -implicitDefEqProofs (maxSteps := 2000000) (disch := first | with_reducible assumption | omega | (simp only [zS, zA, seval, wy, zD] <;> omega) | fail) only [zS, argl, insA, Go.Den.wh, wo, wu, looks, wbb, wab, idOf, riA, seval, Go.Den.wm, kK, whf, wy, wtl, *, zT]) | (with_reducible (first | apply z1 | apply z2 | apply z3 | apply z4) <;> intro hq <;> (try simp only [zH] at hq) <;> (try (exfalso; omega)))))
end
end Go.Proofs.Ytjihbfdbgamcdaa
namespace Go.Proofs.Ytjihbfdbgamcdaa
set_option linter.unusedVariables false
set_option linter.unusedSimpArgs false
open Go.Den
noncomputable section
abbrev Turn := Int × St
def trC (p : Turn) : List Value := .int .i64 p.1 :: stC p.2
theorem woib {p : Turn} : (trC p).length = 10 := by rw [trC, List.length_cons, whib]
theorem tr_atom {p : Turn} : wvh (trC p) = true := by rw [trC, wzv, wsmb]; rfl
theorem wwh (p : Turn) : FzL (trC p) := fzl tr_atom
theorem wmi {p : Turn} : won (trC p) = true := by rw [trC, wwr, wjdc]; rfl
theorem tr_bq {p : Turn} : beqL (trC p) (trC p) = true := by rw [trC, wxj, wsu, st_bq]; rfl
theorem tr_fits {p : Turn} : wuh [.int .i64, .int .i64, .int .i64, .int .i64, .int .i64, .int .i64, .int .i64, .int .i64, .int .i64, .int .i64] (trC p) = true := by
  rw [trC]; show (true && wuh _ (stC p.2)) = true; rw [wtmb]; rfl
theorem tr_eqL {p q : Turn} : eqL (trC p) (trC q) = decide (p = q) := by
  obtain ⟨a, m⟩ := p
  obtain ⟨b, n⟩ := q
  show ((a == b) && eqL (stC m) (stC n)) = _
  rw [st_eqL]
  by_cases h1 : a = b <;> by_cases h2 : m = n <;> simp [h1, h2]
theorem whec {n : Int} {x : St} : (Value.int .i64 n :: stC x) = trC (n, x) := rfl
theorem whpb {p : Turn} : slotsOf (trC p) 0 10 = trC p := wuq woib
theorem wij : KeyT Try.prog 194 trC :=
  ⟨by kernel_rfl, ⟨[.int .i64, .int .i64, .int .i64, .int .i64, .int .i64, .int .i64, .int .i64, .int .i64, .int .i64, .int .i64], by kernel_rfl, fun _ => tr_fits⟩, fun _ _ => tr_eqL, fun _ => wmi⟩
theorem wob (l : List Turn) : beqP (setK trC l) (setK trC l) = true := wvdc (fun _ => tr_bq) l
section
variable (s : List UInt8) (bol : Bool) (mn mx nn : Int) (set : BitVec 256) (kids : List Rx)
abbrev repB : ABlk := X [str s, .bool bol, .int .i64 4, .int .i64 mn, .int .i64 mx, .int .i64 nn, wdV set 0, wdV set 1, wdV set 2, wdV set 3, FL kids.length (rxsC kids), .pointer (some ⟨1, 0, none⟩), .map (some 2)] 178 0 false
abbrev reN (met : List Turn) : List ABlk := [repB s bol mn mx nn set kids, X [.slice none 0 0, .map (some 3)] 173 0 false, .map (setK trC met), .map []]
abbrev reC (met : List Turn) (out : List St) : List ABlk := [repB s bol mn mx nn set kids, X [FO 3 out.length (stsC out), .map (some 4)] 173 0 false, .map (setK trC met), .tok out.length 81 9, .map (setK stC out)]
abbrev reE (met : List Turn) (out : List St) : List ABlk := [repB s bol mn mx nn set kids, X [FO 4 out.length (stsC out), .map (some 3)] 173 0 false, .map (setK trC met), .map (setK stC out), .tok out.length 81 9]
theorem ev_key_N (met : List Turn) (n : Int) (x : St) : lim Try.prog cfg (.call 114 [.pointer (some ⟨0, 0, none⟩), .int .i64 n, .agg ⟨stC x⟩]) (HP (reN s bol mn mx nn set kids met)) = some (.val (.agg ⟨trC (keyF mn mx n x)⟩), HP (reN s bol mn mx nn set kids met)) := by
  refine wub hc wuk (Nat.le_of_ble_eq_true rfl) (Nat.le_of_ble_eq_true rfl) ?_
  unfold wak keyF
  (repeat' (first | (simp -implicitDefEqProofs (maxSteps := 2000000) (disch := first | with_reducible assumption | omega | (simp only [zS, zA, seval, wy, woib, wwh, zD] <;> omega) | fail) only [zS, argl, insA, Go.Den.wh, wo, wu, looks, wbb, wab, idOf, riA, seval, Go.Den.wm, kK, wy, whec, whpb, woib, wwh, *, zT]) | (with_reducible (first | apply z1 | apply z2 | apply z3 | apply z4) <;> intro hq <;> (try simp only [zH] at hq) <;> (try (exfalso; omega)))))
theorem ev_key_C (met : List Turn) (out : List St) (n : Int) (x : St) : lim Try.prog cfg (.call 114 [.pointer (some ⟨0, 0, none⟩), .int .i64 n, .agg ⟨stC x⟩]) (HP (reC s bol mn mx nn set kids met out)) = some (.val (.agg ⟨trC (keyF mn mx n x)⟩), HP (reC s bol mn mx nn set kids met out)) := by
  refine wub hc wuk (Nat.le_of_ble_eq_true rfl) (Nat.le_of_ble_eq_true rfl) ?_
  unfold wak keyF
  (repeat' (first | (simp -implicitDefEqProofs (maxSteps := 2000000) (disch := first | with_reducible assumption | omega | (simp only [zS, zA, seval, wy, woib, wwh, zD] <;> omega) | fail) only [zS, argl, insA, Go.Den.wh, wo, wu, looks, wbb, wab, idOf, riA, seval, Go.Den.wm, kK, wy, whec, whpb, woib, wwh, *, zT]) | (with_reducible (first | apply z1 | apply z2 | apply z3 | apply z4) <;> intro hq <;> (try simp only [zH] at hq) <;> (try (exfalso; omega)))))
def muF (mn mx : Int) (len : Nat) (n : Int) (x : St) : Nat := if mx < 0 then (mn - n).toNat + ((len : Int) - x.1).toNat else (mx - n).toNat
def KidOk (s : List UInt8) (bol : Bool) (kids : List Rx) (w : St → List St) : Prop :=
  ∃ kid, slotsOf (rxsC kids) 0 9 = rxC kid ∧ 0 < kids.length ∧ ∀ y, GdS s.length y → RwS s.length y.1 (w y) ∧ lim Try.prog cfg (.call 67 [.agg ⟨[str s, .bool bol]⟩, .agg ⟨rxC kid⟩, .agg ⟨stC y⟩]) (HP []) = some (.val (FL (w y).length (stsC (w y))), HP [])
def OnC (w : St → List St) (a : Int) (k : Nat) : Prop := ∀ (n : Int) (x : St) (met : List Turn) (out : List St), 0 ≤ n → n + k ≤ 1000 → GdS s.length x → a ≤ x.1 → muF mn mx s.length n x < k → out ≠ [] → RwS s.length a out →
  lim Try.prog cfg (.call 98 [.pointer (some ⟨0, 0, none⟩), .int .i64 n, .agg ⟨stC x⟩]) (HP (reC s bol mn mx nn set kids met out)) = some (.val (.tuple ⟨[]⟩), HP (reC s bol mn mx nn set kids (onF w mn mx k n x (met, out)).1 (onF w mn mx k n x (met, out)).2))
theorem on_ne {w : St → List St} {mn mx : Int} : ∀ (k : Nat) (n : Int) (x : St) (a : List Turn × List St), a.2 ≠ [] → (onF w mn mx k n x a).2 ≠ [] := by
  intro k
  induction k with
  | zero => intro n x a h; exact h
  | succ k ih =>
    intro n x a h
    have hf : ∀ (l : List St) (b : List Turn × List St), b.2 ≠ [] → (l.foldl (fun b y => if y.1 ≠ x.1 ∨ n < mn then onF w mn mx k (n + 1) y b else b) b).2 ≠ [] := by
      intro l
      induction l with
      | nil => intro b hb; exact hb
      | cons y l ih2 =>
        intro b hb
        refine ih2 _ ?_
        show (if y.1 ≠ x.1 ∨ n < mn then onF w mn mx k (n + 1) y b else b).2 ≠ []
        split
        · exact ih _ _ _ hb
        · exact hb
    unfold onF
    split
    · exact h
    · simp only
      have hb : (if mx < 0 ∨ n < mx then (w x).foldl (fun b y => if y.1 ≠ x.1 ∨ n < mn then onF w mn mx k (n + 1) y b else b) (a.1 ++ [keyF mn mx n x], a.2) else (a.1 ++ [keyF mn mx n x], a.2)).2 ≠ [] := by
        split
        · exact hf _ _ h
        · exact h
      split
      · exact wdk (.inl hb)
      · exact hb
def wyw (w : St → List St) (mn mx : Int) (k : Nat) (n : Int) (x : St) (l : List St) (b : List Turn × List St) : List Turn × List St := l.foldl (fun b y => if y.1 ≠ x.1 ∨ n < mn then onF w mn mx k (n + 1) y b else b) b
theorem wgo {w : St → List St} {mn mx : Int} {k : Nat} {n : Int} {x y : St} {l : List St} {b : List Turn × List St} : wyw w mn mx k n x (y :: l) b = wyw w mn mx k n x l (if y.1 ≠ x.1 ∨ n < mn then onF w mn mx k (n + 1) y b else b) := rfl
set_option maxHeartbeats 4000000 in
theorem on_loopC (hs : s.length ≤ 12) (hmn : 0 ≤ mn ∧ mn ≤ 20) (hmx : mx ≤ 20) (w : St → List St) (a : Int) (hk : ∀ y, GdS s.length y → RwS s.length y.1 (w y)) (k : Nat) (IH : OnC s bol mn mx nn set kids w a k) (n : Int) (hn : 0 ≤ n ∧ n + k < 1000) (hnm : mx < 0 ∨ n < mx) (x : St) (hx : GdS s.length x) (hxa : a ≤ x.1) (hmu : muF mn mx s.length n x < k + 1) (l : List St) (hll : l.length ≤ 16000000) (hl : ∀ y ∈ l, GdS s.length y ∧ x.1 ≤ y.1) :
    ∀ (j i : Nat) (met : List Turn) (out : List St), i + j = l.length → out ≠ [] → RwS s.length a out →
    lim Try.prog cfg (.loop 98 5 (whg 0) (SE (EJ 92 G0) [(54, .int .i64 i), (53, .int .i64 l.length), (52, FL l.length (stsC l)), (5, .pointer (some ⟨5, 0, none⟩)), (1, .int .i64 n), (0, .pointer (some ⟨0, 0, none⟩))])) (HP (reC s bol mn mx nn set kids met out ++ [X (stC x) 81 0 true])) = some (.code (.exit 0) (SE (EJ 92 G0) [(5, .pointer (some ⟨5, 0, none⟩)), (1, .int .i64 n), (0, .pointer (some ⟨0, 0, none⟩))]), HP (reC s bol mn mx nn set kids (wyw w mn mx k n x (l.drop i) (met, out)).1 (wyw w mn mx k n x (l.drop i) (met, out)).2 ++ [X (stC x) 81 0 true])) := by
  intro j
  induction j with
  | zero =>
    intro i met out hi ho hr
    rw [List.drop_of_length_le (by omega)]
    refine wcb whe ?_
    unfold wle
    clear IH hk hl
    (repeat' (first | (simp -implicitDefEqProofs (maxSteps := 2000000) (disch := first | with_reducible assumption | omega | (simp only [zS, zA, seval, wy, zD] <;> omega) | fail) only [zS, argl, insA, Go.Den.wh, wo, wu, looks, wbb, wab, idOf, riA, seval, Go.Den.wm, kK, wz, wy, *, zT]) | (with_reducible (first | apply z1 | apply z2 | apply z3 | apply z4) <;> intro hq <;> (try simp only [zH] at hq) <;> (try (exfalso; omega)))))
    all_goals rfl
  | succ j ih =>
    intro i met out hi ho hr
    rw [wuj l (by omega), wgo]
    have hy := hl (l.getD i St.zero) (by rw [List.getD_eq_getElem?_getD, List.getElem?_eq_getElem (by omega)]; exact List.getElem_mem _)
    refine wcb whe ?_
    unfold wle
    by_cases hc : (l.getD i St.zero).1 ≠ x.1 ∨ n < mn
    · have hmu2 : muF mn mx s.length (n + 1) (l.getD i St.zero) < k := by
        have h1 := hy.1.hi
        have h2 := hx.hi
        unfold muF at hmu ⊢
        split at hmu
        · rw [if_pos (by omega)]; omega
        · rw [if_neg (by omega)]; omega
      have h1 := IH (n + 1) (l.getD i St.zero) met out (by omega) (by omega) hy.1 (by omega) hmu2 ho hr
      have h2 := ih (i + 1) (onF w mn mx k (n + 1) (l.getD i St.zero) (met, out)).1 (onF w mn mx k (n + 1) (l.getD i St.zero) (met, out)).2 (by omega) (on_ne _ _ _ _ ho) (wnib (fun y hy _ => hk y hy) _ _ _ _ hy.1 (by omega) hr)
      rw [if_pos hc]
      clear IH ih hk
      by_cases hc1 : (l.getD i St.zero).1 = x.1
      · have hc2 : n < mn := by omega
        (repeat' (first | (simp -implicitDefEqProofs (maxSteps := 2000000) (disch := first | with_reducible assumption | omega | (simp only [zS, zA, seval, wy, zD] <;> omega) | fail) only [zS, argl, insA, Go.Den.wh, wo, wu, looks, wbb, wab, idOf, riA, seval, Go.Den.wm, kK, wz, wy, wfb, wob, *, zT]) | (with_reducible (first | apply z1 | apply z2 | apply z3 | apply z4) <;> intro hq <;> (try simp only [zH] at hq) <;> (try (exfalso; omega)))))
        exact h2
      · (repeat' (first | (simp -implicitDefEqProofs (maxSteps := 2000000) (disch := first | with_reducible assumption | omega | (simp only [zS, zA, seval, wy, zD] <;> omega) | fail) only [zS, argl, insA, Go.Den.wh, wo, wu, looks, wbb, wab, idOf, riA, seval, Go.Den.wm, kK, wz, wy, wfb, wob, *, zT]) | (with_reducible (first | apply z1 | apply z2 | apply z3 | apply z4) <;> intro hq <;> (try simp only [zH] at hq) <;> (try (exfalso; omega)))))
        exact h2
    · have h2 := ih (i + 1) met out (by omega) ho hr
      rw [if_neg hc]
      have hc1 : (l.getD i St.zero).1 = x.1 := by omega
      have hc2 : ¬ n < mn := by omega
      clear IH ih hk
      (repeat' (first | (simp -implicitDefEqProofs (maxSteps := 2000000) (disch := first | with_reducible assumption | omega | (simp only [zS, zA, seval, wy, zD] <;> omega) | fail) only [zS, argl, insA, Go.Den.wh, wo, wu, looks, wbb, wab, idOf, riA, seval, Go.Den.wm, kK, wz, wy, wfb, wob, *, zT]) | (with_reducible (first | apply z1 | apply z2 | apply z3 | apply z4) <;> intro hq <;> (try simp only [zH] at hq) <;> (try (exfalso; omega)))))
      exact h2
end
end
end Go.Proofs.Ytjihbfdbgamcdaa
