/-
  PARTS OF A PROOF, joined by a program (6 of 8): a proved reckoner of the model, and what the functions come to.
-/
import Derived.Test.YtdbhfmdndiphcaaQTplLaws5
import Derived.Test.YtdbhfmdndiphcaaProg
import Derived.KernelRfl
set_option linter.unusedVariables false
set_option linter.unusedSimpArgs false
namespace Go.Proofs.Ytdbhfmdndiphcaa
open Go.Den
@[reducible] def Mv (d n : Nat) : RO := ⟨some d, none, .ins (.mv (.tmp n))⟩
@[reducible] def Op (d : Nat) (i : RI) : RO := ⟨some d, none, i⟩
@[reducible] def Oi (d : Nat) (i : Ins) : RO := ⟨some d, none, .ins i⟩
@[reducible] def On (i : Ins) : RO := ⟨none, none, .ins i⟩
@[reducible] def Ot (d g : Nat) (i : RI) : RO := ⟨some d, some (some g, true), i⟩
@[reducible] def Of (d g : Nat) (i : RI) : RO := ⟨some d, some (some g, false), i⟩
@[reducible] def Tm (n : Nat) : Operand := .tmp n
@[reducible] def Kn (n : Int) : Operand := .const (.int .i64 n)
@[reducible] def Kb (b : Bool) : Operand := .const (.bool b)
noncomputable def wvl : RF := ⟨24, (.seq (.ops [Oi 6 (.mv (Kn 0))]) (.seq (.ops [Mv 7 0, Mv 8 2, Mv 9 1, Op 10 (.int2 .sub .i64 (Tm 8) (Tm 9)), Op 11 (.int2 .add .i64 (Tm 10) (Kn 1)), Op 12 (.int2 .rem .i64 (Tm 7) (Tm 11)), Mv 0 12]) (.seq (.seq (.ops [Mv 13 0, Op 14 (.int2 .lss .i64 (Tm 13) (Kn 0))]) (.cond (Tm 14) (.ops [Mv 15 0, Mv 16 2, Op 17 (.int2 .add .i64 (Tm 15) (Tm 16)), Mv 18 1, Op 19 (.int2 .sub .i64 (Tm 17) (Tm 18)), Op 20 (.int2 .add .i64 (Tm 19) (Kn 1)), Mv 0 20]) .skip)) (.seq (.ops [Mv 21 1, Mv 22 0, Op 23 (.int2 .add .i64 (Tm 21) (Tm 22)), Mv 6 23]) .ret)))), [(.tmp 6)]⟩
theorem wip : trF Try.prog 15 = some wvl := by kernel_rfl
noncomputable def wfo (i : Nat) : Code := lp Try.prog 30 i
noncomputable def wgo : RC := (.seq (.ops [Op 4 (.int2 .lss .i64 (Tm 3) (Kn 4))]) (.seq (.cond (Tm 4) .skip (.exit 0)) (.seq (.block 1 (.seq (.ops [Mv 5 3, Mv 2 5]) (.ops [Mv 6 2, Oi 7 (.build [(.int .i64 0), (.int .i64 0)] [(0, (1, (Kn (-1)))), (1, (1, (Kn (-1))))]), Oi 8 (.iaddrA 4 2 (Tm 1) (Tm 6)), On (.store 2 (Tm 8) (Tm 7))]))) (.ops [Op 9 (.int2 .add .i64 (Tm 3) (Kn 1)), Mv 3 9]))))
theorem wuo : trC Try.prog (wfo 0) = wgo := by kernel_rfl
noncomputable def wbz : RF := ⟨11, (.seq (.ops [Oi 0 (.new [(.int .i64 0), (.int .i64 0), (.int .i64 0), (.int .i64 0), (.int .i64 0), (.int .i64 0), (.int .i64 0), (.int .i64 0)] 55)]) (.seq (.ops [Oi 1 (.new [(.int .i64 0), (.int .i64 0), (.int .i64 0), (.int .i64 0), (.int .i64 0), (.int .i64 0), (.int .i64 0), (.int .i64 0)] 55)]) (.seq (.seq (.ops [Oi 3 (.mv (Kn 0))]) (.block 0 (.loop (wfo 0)))) (.seq (.ops [Oi 10 (.loadN 8 (Tm 1)), On (.store 8 (Tm 0) (Tm 10))]) .ret)))), [(.cellN 0 8)]⟩
theorem wnab : trF Try.prog 30 = some wbz := by kernel_rfl
noncomputable def wzt : RF := ⟨50, (.seq (.ops [Oi 3 (.box 55 (Tm 0)), Oi 6 (.mv (.const (str [])))]) (.seq (.seq (.draw #[0, 1, 3, 7, 15, 31, 63, 127, 255, 511, 1023, 2047, 4095, 8191, 16383, 32767, 65535, 131071, 16383, 278527, 802815, 1851391, 4194303, 8388607, 16777215, 33554431, 67108863, 134217727, 268435455, 33554431, 570425343, 2147483647, 4294967295] [Mv 7 2, Op 8 (.int2 .lss .i64 (Tm 7) (Kn 0)), Mv 9 8, Of 10 9 (.ins (.mv (Tm 2))), Of 11 9 (.int2 .geq .i64 (Tm 10) (Kn 4)), Oi 12 (.pick (Tm 9) (Kb true) (Tm 11)), Mv 13 12, Of 14 13 (.ins (.mv (Tm 2))), Of 15 13 (.ins (.iaddrA 4 2 (Tm 3) (Tm 14))), Of 16 13 (.ins (.faddr 0 (Tm 15))), Of 17 13 (.ins (.load1 (Tm 16))), Of 18 13 (.int2 .lss .i64 (Tm 17) (Kn 0)), Oi 19 (.pick (Tm 13) (Kb true) (Tm 18)), Mv 20 19, Of 21 20 (.ins (.mv (Tm 2))), Of 22 20 (.ins (.iaddrA 4 2 (Tm 3) (Tm 21))), Of 23 20 (.ins (.faddr 0 (Tm 22))), Of 24 20 (.ins (.load1 (Tm 23))), Of 25 20 (.ins (.mv (Tm 2))), Of 26 20 (.ins (.iaddrA 4 2 (Tm 3) (Tm 25))), Of 27 20 (.ins (.faddr 1 (Tm 26))), Of 28 20 (.ins (.load1 (Tm 27))), Of 29 20 (.int2 .gtr .i64 (Tm 24) (Tm 28)), Oi 30 (.pick (Tm 20) (Kb true) (Tm 29)), Mv 31 30, Of 32 31 (.ins (.mv (Tm 2))), Of 33 31 (.ins (.iaddrA 4 2 (Tm 3) (Tm 32))), Of 34 31 (.ins (.faddr 1 (Tm 33))), Of 35 31 (.ins (.load1 (Tm 34))), Of 36 31 (.ins (.mv (Tm 1))), Of 37 31 (.slen (Tm 36)), Of 38 31 (.int2 .gtr .i64 (Tm 35) (Tm 37)), Oi 39 (.pick (Tm 31) (Kb true) (Tm 38))]) (.cond (Tm 39) (.seq (.ops [Oi 6 (.mv (.const (str [])))]) .ret) .skip)) (.seq (.draw #[0, 0, 2, 6, 14, 0, 32, 96, 224, 511, 1023] [Mv 40 1, Mv 41 2, Oi 42 (.iaddrA 4 2 (Tm 3) (Tm 41)), Oi 43 (.faddr 0 (Tm 42)), Oi 44 (.load1 (Tm 43)), Mv 45 2, Oi 46 (.iaddrA 4 2 (Tm 3) (Tm 45)), Oi 47 (.faddr 1 (Tm 46)), Oi 48 (.load1 (Tm 47)), Op 49 (.ssl (Tm 40) (some (Tm 44)) (some (Tm 48))), Mv 6 49]) .ret))), [(.tmp 6)]⟩
theorem wjw : trF Try.prog 31 = some wzt := by kernel_rfl
noncomputable def wmf (i : Nat) : Code := lp Try.prog 28 i
noncomputable def wlh : RC := (.seq (.ops [Op 46 (.int2 .lss .i64 (Tm 45) (Tm 44))]) (.seq (.cond (Tm 46) .skip (.exit 2)) (.seq (.block 3 (.seq (.ops [Oi 47 (.iaddrS 9 (Tm 43) (Tm 45)), Oi 48 (.loadN 9 (Tm 47)), Oi 12 (.new [(.int .i64 0), (.int .i64 0), (.int .i64 0), (.int .i64 0), (.int .i64 0), (.int .i64 0), (.int .i64 0), (.int .i64 0), (.int .i64 0)] 113), On (.store 9 (Tm 12) (Tm 48))]) (.seq (.ops [Mv 49 10, Op 50 (.un .not (Tm 49)), Mv 51 50, Of 52 51 (.ins (.faddr 0 (Tm 12))), Of 53 51 (.ins (.load1 (Tm 52))), Of 54 51 (.ins (.faddr 0 (Tm 9))), Of 55 51 (.ins (.load1 (Tm 54))), Of 56 51 (.int2 .gtr .i64 (Tm 53) (Tm 55)), Oi 57 (.pick (Tm 51) (Kb true) (Tm 56))]) (.cond (Tm 57) (.ops [Oi 58 (.loadN 9 (Tm 12)), On (.store 9 (Tm 9) (Tm 58)), Oi 10 (.mv (Kb true))]) .skip)))) (.ops [Op 59 (.int2 .add .i64 (Tm 45) (Kn 1)), Mv 45 59]))))
theorem wdh : trC Try.prog (wmf 1) = wlh := by kernel_rfl
noncomputable def wmh : RC := (.seq (.seq (.ops [Mv 33 8, Mv 34 1, Op 35 (.slen (Tm 34)), Op 36 (.int2 .leq .i64 (Tm 33) (Tm 35))]) (.cond (Tm 36) .skip (.exit 0))) (.seq (.block 1 (.seq (.ops [Oi 39 (.build [(.int .i64 0), (.int .i64 0), (.int .i64 0), (.int .i64 0), (.int .i64 0), (.int .i64 0), (.int .i64 0), (.int .i64 0), (.int .i64 0)] []), Oi 9 (.new [(.int .i64 0), (.int .i64 0), (.int .i64 0), (.int .i64 0), (.int .i64 0), (.int .i64 0), (.int .i64 0), (.int .i64 0), (.int .i64 0)] 113), On (.store 9 (Tm 9) (Tm 39)), Oi 10 (.mv (Kb false))]) (.seq (.seq (.ops [Oi 40 (.loadN 9 (Tm 3)), Mv 41 1, Mv 42 8, Oi 43 (.call 40 [(Tm 40), (Tm 41), (Kb true), (Tm 42)]), Op 44 (.lenS (Tm 43)), Oi 45 (.mv (Kn 0))]) (.block 2 (.loop (wmf 1)))) (.seq (.ops [Mv 60 10]) (.cond (Tm 60) (.seq (.ops [Mv 61 8, Oi 62 (.faddr 0 (Tm 9)), Oi 63 (.load1 (Tm 62)), Oi 64 (.build [(.int .i64 0), (.int .i64 0)] [(0, (1, (Tm 61))), (1, (1, (Tm 63)))]), Oi 65 (.faddr 1 (Tm 9)), Oi 66 (.iaddrA 4 2 (Tm 65) (Kn 0)), On (.store 2 (Tm 66) (Tm 64))]) (.seq (.ops [Oi 67 (.faddr 1 (Tm 9)), Oi 68 (.loadN 8 (Tm 67)), On (.store 8 (Tm 6) (Tm 68)), Oi 7 (.mv (Kb true))]) .ret)) .skip))))) (.ops [Mv 37 8, Op 38 (.int2 .add .i64 (Tm 37) (Kn 1)), Mv 8 38])))
theorem weh : trC Try.prog (wmf 0) = wmh := by kernel_rfl
noncomputable def wau : RF := ⟨70, (.seq (.ops [Oi 3 (.box 47 (Tm 0)), Oi 6 (.new [(.int .i64 0), (.int .i64 0), (.int .i64 0), (.int .i64 0), (.int .i64 0), (.int .i64 0), (.int .i64 0), (.int .i64 0)] 55), Oi 7 (.mv (Kb false))]) (.seq (.seq (.ops [Mv 13 2, Op 14 (.int2 .lss .i64 (Tm 13) (Kn 0)), Mv 15 14, Of 16 15 (.ins (.mv (Tm 2))), Of 17 15 (.ins (.mv (Tm 1))), Of 18 15 (.slen (Tm 17)), Of 19 15 (.int2 .gtr .i64 (Tm 16) (Tm 18)), Oi 20 (.pick (Tm 15) (Kb true) (Tm 19)), Mv 21 20, Of 22 21 (.ins (.mv (Tm 1))), Of 23 21 (.slen (Tm 22)), Of 24 21 (.int2 .gtr .i64 (Tm 23) (Kn 60)), Oi 25 (.pick (Tm 21) (Kb true) (Tm 24)), Mv 26 25, Of 27 26 (.ins (.loadN 9 (Tm 3))), Of 28 26 (.ins (.call 58 [(Tm 27), (Kb true)])), Of 29 26 (.un .not (Tm 28)), Oi 30 (.pick (Tm 26) (Kb true) (Tm 29))]) (.cond (Tm 30) (.seq (.ops [Oi 31 (.call 30 []), On (.store 8 (Tm 6) (Tm 31)), Oi 7 (.mv (Kb false))]) .ret) .skip)) (.seq (.seq (.ops [Mv 32 2, Mv 8 32]) (.block 0 (.loop (wmf 0)))) (.seq (.ops [Oi 69 (.call 30 []), On (.store 8 (Tm 6) (Tm 69)), Oi 7 (.mv (Kb false))]) .ret)))), [(.cellN 6 8), (.tmp 7)]⟩
theorem wkw : trF Try.prog 28 = some wau := by kernel_rfl
noncomputable def wwl (i : Nat) : Code := lp Try.prog 27 i
noncomputable def wzb : RC := (.seq (.seq (.ops [Mv 11 7, Mv 12 1, Op 13 (.slen (Tm 12)), Op 14 (.int2 .leq .i64 (Tm 11) (Tm 13))]) (.cond (Tm 14) .skip (.exit 0))) (.block 1 (.seq (.ops [Oi 16 (.loadN 9 (Tm 2)), Mv 17 1, Mv 18 7, Oi 19 (.call 28 [(Tm 16), (Tm 17), (Tm 18)]), Mv 15 19, Oi 20 (.ext (Tm 15) 0), Oi 21 (.ext (Tm 15) 1), Oi 8 (.new [(.int .i64 0), (.int .i64 0), (.int .i64 0), (.int .i64 0), (.int .i64 0), (.int .i64 0), (.int .i64 0), (.int .i64 0)] 55), On (.store 8 (Tm 8) (Tm 20)), Mv 9 21]) (.seq (.seq (.ops [Mv 22 9, Op 23 (.un .not (Tm 22))]) (.cond (Tm 23) (.seq (.ops [Mv 24 5, Mv 4 24]) .ret) .skip)) (.seq (.ops [Oi 25 (.iaddrA 4 2 (Tm 8) (Kn 0)), Oi 26 (.loadN 2 (Tm 25)), Oi 10 (.new [(.int .i64 0), (.int .i64 0)] 53), On (.store 2 (Tm 10) (Tm 26))]) (.seq (.ops [Oi 27 (.faddr 1 (Tm 10)), Oi 28 (.load1 (Tm 27)), Mv 7 28]) (.seq (.seq (.ops [Oi 29 (.faddr 0 (Tm 10)), Oi 30 (.load1 (Tm 29)), Oi 31 (.faddr 1 (Tm 10)), Oi 32 (.load1 (Tm 31)), Op 33 (.int2 .eql .i64 (Tm 30) (Tm 32))]) (.cond (Tm 33) (.seq (.ops [Mv 34 7, Op 35 (.int2 .add .i64 (Tm 34) (Kn 1)), Mv 7 35]) (.seq (.ops [Oi 36 (.faddr 1 (Tm 10)), Oi 37 (.load1 (Tm 36)), Mv 38 6, Op 39 (.int2 .eql .i64 (Tm 37) (Tm 38))]) (.cond (Tm 39) (.exit 1) .skip))) .skip)) (.seq (.ops [Mv 40 5, Oi 41 (.loadN 8 (Tm 8)), Oi 42 (.bslice 55 1 [(.int .i64 0), (.int .i64 0), (.int .i64 0), (.int .i64 0), (.int .i64 0), (.int .i64 0), (.int .i64 0), (.int .i64 0)] [(0, (8, (Tm 41)))]), Oi 43 (.app 55 8 64 (Tm 40) (Tm 42)), Mv 5 43]) (.ops [Oi 44 (.faddr 1 (Tm 10)), Oi 45 (.load1 (Tm 44)), Mv 6 45])))))))))
theorem wob : trC Try.prog (wwl 0) = wzb := by kernel_rfl
noncomputable def wcz : RF := ⟨47, (.seq (.ops [Oi 2 (.box 47 (Tm 0)), Oi 4 (.mv (.const (.slice none 0 0)))]) (.seq (.ops [Oi 5 (.mv (.const (.slice none 0 0)))]) (.seq (.ops [Oi 6 (.mv (Kn (-1)))]) (.seq (.seq (.ops [Oi 7 (.mv (Kn 0))]) (.block 0 (.loop (wwl 0)))) (.seq (.ops [Mv 46 5, Mv 4 46]) .ret))))), [(.tmp 4)]⟩
theorem woab : trF Try.prog 27 = some wcz := by kernel_rfl
noncomputable def wyb (i : Nat) : Code := lp Try.prog 63 i
noncomputable def wnf : RC := (.seq (.ops [Op 83 (.int2 .lss .i64 (Tm 82) (Tm 81))]) (.seq (.cond (Tm 83) .skip (.exit 1)) (.seq (.block 2 (.seq (.ops [Oi 84 (.iaddrS 9 (Tm 80) (Tm 82)), Oi 85 (.loadN 9 (Tm 84)), Oi 10 (.new [(.int .i64 0), (.int .i64 0), (.int .i64 0), (.int .i64 0), (.int .i64 0), (.int .i64 0), (.int .i64 0), (.int .i64 0), (.int .i64 0)] 113), On (.store 9 (Tm 10) (Tm 85))]) (.seq (.ops [Oi 86 (.faddr 3 (Tm 4)), Oi 87 (.load1 (Tm 86)), Oi 88 (.faddr 0 (Tm 5)), Oi 89 (.load1 (Tm 88)), Oi 90 (.faddr 0 (Tm 10)), Oi 91 (.load1 (Tm 90)), Oi 92 (.build [(.int .i64 0), (.int .i64 0)] [(0, (1, (Tm 89))), (1, (1, (Tm 91)))]), Oi 93 (.faddr 1 (Tm 10)), Oi 94 (.iaddrA 4 2 (Tm 93) (Tm 87)), On (.store 2 (Tm 94) (Tm 92))]) (.ops [Mv 95 8, Oi 96 (.loadN 9 (Tm 10)), Oi 97 (.bslice 113 1 [(.int .i64 0), (.int .i64 0), (.int .i64 0), (.int .i64 0), (.int .i64 0), (.int .i64 0), (.int .i64 0), (.int .i64 0), (.int .i64 0)] [(0, (9, (Tm 96)))]), Oi 98 (.call 86 [(Tm 95), (Tm 97)])])))) (.ops [Op 99 (.int2 .add .i64 (Tm 82) (Kn 1)), Mv 82 99]))))
theorem wof : trC Try.prog (wyb 0) = wnf := by kernel_rfl
noncomputable def wee : RC := (.seq (.ops [Op 111 (.int2 .lss .i64 (Tm 110) (Tm 109))]) (.seq (.cond (Tm 111) .skip (.exit 3)) (.seq (.block 4 (.seq (.ops [Oi 112 (.iaddrS 9 (Tm 108) (Tm 110)), Oi 113 (.loadN 9 (Tm 112)), Oi 13 (.new [(.int .i64 0), (.int .i64 0), (.int .i64 0), (.int .i64 0), (.int .u64 0), (.int .u64 0), (.int .u64 0), (.int .u64 0), (.slice none 0 0)] 47), On (.store 9 (Tm 13) (Tm 113))]) (.ops [Mv 114 11, Oi 115 (.loadN 2 (Tm 3)), Oi 116 (.loadN 9 (Tm 13)), Oi 117 (.loadN 9 (Tm 5)), Oi 118 (.call 63 [(Tm 115), (Tm 116), (Tm 117)]), Oi 119 (.call 86 [(Tm 114), (Tm 118)])]))) (.ops [Op 120 (.int2 .add .i64 (Tm 110) (Kn 1)), Mv 110 120]))))
theorem wce : trC Try.prog (wyb 1) = wee := by kernel_rfl
noncomputable def wpf : RC := (.seq (.ops [Op 131 (.int2 .lss .i64 (Tm 130) (Tm 129))]) (.seq (.cond (Tm 131) .skip (.exit 5)) (.seq (.block 6 (.seq (.ops [Oi 132 (.iaddrS 9 (Tm 128) (Tm 130)), Oi 133 (.loadN 9 (Tm 132)), Oi 15 (.new [(.int .i64 0), (.int .i64 0), (.int .i64 0), (.int .i64 0), (.int .u64 0), (.int .u64 0), (.int .u64 0), (.int .u64 0), (.slice none 0 0)] 47), On (.store 9 (Tm 15) (Tm 133))]) (.ops [Oi 134 (.loadN 2 (Tm 3)), Oi 135 (.loadN 9 (Tm 15)), Mv 136 7, Oi 137 (.call 87 [(Tm 134), (Tm 135), (Tm 136)]), Mv 7 137]))) (.ops [Op 138 (.int2 .add .i64 (Tm 130) (Kn 1)), Mv 130 138]))))
theorem wqf : trC Try.prog (wyb 2) = wpf := by kernel_rfl
noncomputable def wvo : RF := ⟨158, (.seq (.ops [Oi 3 (.box 123 (Tm 0)), Oi 4 (.box 47 (Tm 1)), Oi 5 (.box 113 (Tm 2)), Oi 6 (.mv (.const (.slice none 0 0)))]) (.seq (.ops [Oi 17 (.loadN 9 (Tm 5)), Oi 18 (.bslice 113 1 [(.int .i64 0), (.int .i64 0), (.int .i64 0), (.int .i64 0), (.int .i64 0), (.int .i64 0), (.int .i64 0), (.int .i64 0), (.int .i64 0)] [(0, (9, (Tm 17)))]), Mv 7 18]) (.seq (.seq (.ops [Oi 19 (.faddr 0 (Tm 4)), Oi 20 (.load1 (Tm 19))]) (.block 0 (.seq (.ops [Op 22 (.int2 .eql .i64 (Tm 20) (Kn 1)), Mv 21 22]) (.cond (Tm 21) (.seq (.draw #[0, 1, 0, 4, 12, 31, 63, 127, 255, 127, 639, 127, 2175, 7807, 16383, 32767] [Oi 23 (.faddr 0 (Tm 5)), Oi 24 (.load1 (Tm 23)), Oi 25 (.faddr 0 (Tm 3)), Oi 26 (.load1 (Tm 25)), Op 27 (.slen (Tm 26)), Op 28 (.int2 .lss .i64 (Tm 24) (Tm 27)), Mv 29 28, Ot 30 29 (.ins (.faddr 4 (Tm 4))), Ot 31 29 (.ins (.loadN 4 (Tm 30))), Ot 32 29 (.ins (.faddr 0 (Tm 3))), Ot 33 29 (.ins (.load1 (Tm 32))), Ot 34 29 (.ins (.faddr 0 (Tm 5))), Ot 35 29 (.ins (.load1 (Tm 34))), Ot 36 29 (.sidx (Tm 33) (Tm 35)), Ot 37 29 (.ins (.call 83 [(Tm 31), (Tm 36)])), Oi 38 (.pick (Tm 29) (Tm 37) (Kb false))]) (.cond (Tm 38) (.seq (.ops [Oi 39 (.faddr 0 (Tm 5)), Oi 40 (.load1 (Tm 39)), Op 41 (.int2 .add .i64 (Tm 40) (Kn 1)), Oi 42 (.faddr 0 (Tm 5)), On (.store 1 (Tm 42) (Tm 41))]) (.seq (.ops [Oi 43 (.loadN 9 (Tm 5)), Oi 44 (.bslice 113 1 [(.int .i64 0), (.int .i64 0), (.int .i64 0), (.int .i64 0), (.int .i64 0), (.int .i64 0), (.int .i64 0), (.int .i64 0), (.int .i64 0)] [(0, (9, (Tm 43)))]), Mv 6 44]) .ret)) .skip)) (.seq (.ops [Op 46 (.int2 .eql .i64 (Tm 20) (Kn 7)), Mv 45 46]) (.cond (Tm 45) (.seq (.ops [Oi 47 (.faddr 0 (Tm 5)), Oi 48 (.load1 (Tm 47)), Op 49 (.int2 .eql .i64 (Tm 48) (Kn 0)), Mv 50 49, Ot 51 50 (.ins (.faddr 1 (Tm 3))), Ot 52 50 (.ins (.load1 (Tm 51))), Oi 53 (.pick (Tm 50) (Tm 52) (Kb false))]) (.cond (Tm 53) (.seq (.ops [Mv 54 7, Mv 6 54]) .ret) .skip)) (.seq (.ops [Op 56 (.int2 .eql .i64 (Tm 20) (Kn 8)), Mv 55 56]) (.cond (Tm 55) (.seq (.ops [Oi 57 (.faddr 0 (Tm 5)), Oi 58 (.load1 (Tm 57)), Oi 59 (.faddr 0 (Tm 3)), Oi 60 (.load1 (Tm 59)), Op 61 (.slen (Tm 60)), Op 62 (.int2 .eql .i64 (Tm 58) (Tm 61))]) (.cond (Tm 62) (.seq (.ops [Mv 63 7, Mv 6 63]) .ret) .skip)) (.seq (.ops [Op 65 (.int2 .eql .i64 (Tm 20) (Kn 6)), Mv 64 65]) (.cond (Tm 64) (.seq (.ops [Oi 66 (.loadN 2 (Tm 3)), Oi 67 (.faddr 3 (Tm 4)), Oi 68 (.load1 (Tm 67)), Oi 69 (.loadN 9 (Tm 5)), Oi 70 (.call 84 [(Tm 66), (Tm 68), (Tm 69)]), Mv 6 70]) .ret) (.seq (.ops [Op 72 (.int2 .eql .i64 (Tm 20) (Kn 5)), Mv 71 72]) (.cond (Tm 71) (.seq (.ops [Oi 73 (.call 85 []), Mv 8 73]) (.seq (.seq (.draw #[0, 0, 2, 6, 14, 0, 63, 127, 0] [Oi 74 (.loadN 2 (Tm 3)), Oi 75 (.faddr 8 (Tm 4)), Oi 76 (.load1 (Tm 75)), Oi 77 (.iaddrS 9 (Tm 76) (Kn 0)), Oi 78 (.loadN 9 (Tm 77)), Oi 79 (.loadN 9 (Tm 5)), Oi 80 (.call 63 [(Tm 74), (Tm 78), (Tm 79)]), Op 81 (.lenS (Tm 80)), Oi 82 (.mv (Kn 0))]) (.block 1 (.loop (wyb 0)))) (.seq (.ops [Mv 100 8, Oi 101 (.nilc (Tm 100)), Oi 102 (.faddr 0 (Tm 101)), Oi 103 (.load1 (Tm 102)), Mv 6 103]) .ret))) (.seq (.ops [Op 105 (.int2 .eql .i64 (Tm 20) (Kn 3)), Mv 104 105]) (.cond (Tm 104) (.seq (.ops [Oi 106 (.call 85 []), Mv 11 106]) (.seq (.seq (.ops [Oi 107 (.faddr 8 (Tm 4)), Oi 108 (.load1 (Tm 107)), Op 109 (.lenS (Tm 108)), Oi 110 (.mv (Kn 0))]) (.block 3 (.loop (wyb 1)))) (.seq (.ops [Mv 121 11, Oi 122 (.nilc (Tm 121)), Oi 123 (.faddr 0 (Tm 122)), Oi 124 (.load1 (Tm 123)), Mv 6 124]) .ret))) (.seq (.ops [Op 126 (.int2 .eql .i64 (Tm 20) (Kn 2)), Mv 125 126]) (.cond (Tm 125) (.seq (.seq (.ops [Oi 127 (.faddr 8 (Tm 4)), Oi 128 (.load1 (Tm 127)), Op 129 (.lenS (Tm 128)), Oi 130 (.mv (Kn 0))]) (.block 5 (.loop (wyb 2)))) (.seq (.ops [Mv 139 7, Mv 6 139]) .ret)) (.seq (.ops [Op 141 (.int2 .eql .i64 (Tm 20) (Kn 4)), Mv 140 141]) (.cond (Tm 140) (.seq (.draw #[0, 0, 0, 0, 15, 31, 63] [Oi 142 (.loadN 2 (Tm 3)), Oi 143 (.loadN 9 (Tm 4)), Oi 144 (.call 85 []), Oi 145 .mkmap, Oi 146 (.build [(str []), (.bool false), (.int .i64 0), (.int .i64 0), (.int .i64 0), (.int .i64 0), (.int .u64 0), (.int .u64 0), (.int .u64 0), (.int .u64 0), (.slice none 0 0), (.pointer none), (.map none)] [(0, (2, (Tm 142))), (2, (9, (Tm 143))), (11, (1, (Tm 144))), (12, (1, (Tm 145)))]), Oi 147 (.box 163 (Tm 146)), Mv 16 147]) (.seq (.ops [Mv 148 16, Oi 149 (.loadN 9 (Tm 5)), Oi 150 (.call 88 [(Tm 148), (Kn 0), (Tm 149)])]) (.seq (.ops [Mv 151 16, Oi 152 (.nilc (Tm 151)), Oi 153 (.faddr 11 (Tm 152)), Oi 154 (.load1 (Tm 153)), Oi 155 (.nilc (Tm 154)), Oi 156 (.faddr 0 (Tm 155)), Oi 157 (.load1 (Tm 156)), Mv 6 157]) .ret))) .skip)))))))))))))))))) (.seq (.ops [Oi 6 (.mv (.const (.slice none 0 0)))]) .ret)))), [(.tmp 6)]⟩
theorem whs : trF Try.prog 63 = some wvo := by kernel_rfl
noncomputable def wwo : RF := ⟨55, (.seq (.ops [Oi 3 (.box 123 (Tm 0)), Oi 5 (.box 113 (Tm 2)), Oi 6 (.mv (.const (.slice none 0 0)))]) (.seq (.ops [Mv 9 1, Oi 10 (.faddr 1 (Tm 5)), Oi 11 (.iaddrA 4 2 (Tm 10) (Tm 9)), Oi 12 (.loadN 2 (Tm 11)), Oi 7 (.new [(.int .i64 0), (.int .i64 0)] 53), On (.store 2 (Tm 7) (Tm 12))]) (.seq (.seq (.ops [Oi 13 (.faddr 0 (Tm 7)), Oi 14 (.load1 (Tm 13)), Op 15 (.int2 .lss .i64 (Tm 14) (Kn 0))]) (.cond (Tm 15) (.seq (.ops [Oi 6 (.mv (.const (.slice none 0 0)))]) .ret) .skip)) (.seq (.ops [Oi 16 (.faddr 1 (Tm 7)), Oi 17 (.load1 (Tm 16)), Oi 18 (.faddr 0 (Tm 7)), Oi 19 (.load1 (Tm 18)), Op 20 (.int2 .sub .i64 (Tm 17) (Tm 19)), Mv 8 20]) (.seq (.seq (.draw #[0, 0, 2, 6, 0, 16, 62, 127, 255, 511, 1023, 511, 2559, 511, 8703, 32767, 511, 66047, 511, 262655, 511, 1049087, 511, 7340543, 16712191, 33554431, 67108863] [Mv 21 8, Oi 22 (.faddr 0 (Tm 3)), Oi 23 (.load1 (Tm 22)), Op 24 (.slen (Tm 23)), Oi 25 (.faddr 0 (Tm 5)), Oi 26 (.load1 (Tm 25)), Op 27 (.int2 .sub .i64 (Tm 24) (Tm 26)), Op 28 (.int2 .gtr .i64 (Tm 21) (Tm 27)), Mv 29 28, Of 30 29 (.ins (.faddr 0 (Tm 3))), Of 31 29 (.ins (.load1 (Tm 30))), Of 32 29 (.ins (.faddr 0 (Tm 7))), Of 33 29 (.ins (.load1 (Tm 32))), Of 34 29 (.ins (.faddr 1 (Tm 7))), Of 35 29 (.ins (.load1 (Tm 34))), Of 36 29 (.ssl (Tm 31) (some (Tm 33)) (some (Tm 35))), Of 37 29 (.ins (.faddr 0 (Tm 3))), Of 38 29 (.ins (.load1 (Tm 37))), Of 39 29 (.ins (.faddr 0 (Tm 5))), Of 40 29 (.ins (.load1 (Tm 39))), Of 41 29 (.ins (.faddr 0 (Tm 5))), Of 42 29 (.ins (.load1 (Tm 41))), Of 43 29 (.ins (.mv (Tm 8))), Of 44 29 (.int2 .add .i64 (Tm 42) (Tm 43)), Of 45 29 (.ssl (Tm 38) (some (Tm 40)) (some (Tm 44))), Of 46 29 (.str2 .neq (Tm 36) (Tm 45)), Oi 47 (.pick (Tm 29) (Kb true) (Tm 46))]) (.cond (Tm 47) (.seq (.ops [Oi 6 (.mv (.const (.slice none 0 0)))]) .ret) .skip)) (.seq (.ops [Oi 48 (.faddr 0 (Tm 5)), Oi 49 (.load1 (Tm 48)), Mv 50 8, Op 51 (.int2 .add .i64 (Tm 49) (Tm 50)), Oi 52 (.faddr 0 (Tm 5)), On (.store 1 (Tm 52) (Tm 51))]) (.seq (.ops [Oi 53 (.loadN 9 (Tm 5)), Oi 54 (.bslice 113 1 [(.int .i64 0), (.int .i64 0), (.int .i64 0), (.int .i64 0), (.int .i64 0), (.int .i64 0), (.int .i64 0), (.int .i64 0), (.int .i64 0)] [(0, (9, (Tm 53)))]), Mv 6 54]) .ret))))))), [(.tmp 6)]⟩
theorem wis : trF Try.prog 84 = some wwo := by kernel_rfl
noncomputable def wbu : RF := ⟨4, (.seq (.ops [Oi 0 (.mv (.const (.pointer none)))]) (.seq (.ops [Oi 1 .mkmap, Oi 2 (.build [(.slice none 0 0), (.map none)] [(1, (1, (Tm 1)))]), Oi 3 (.box 158 (Tm 2)), Mv 0 3]) .ret)), [(.tmp 0)]⟩
theorem wlw : trF Try.prog 85 = some wbu := by kernel_rfl
noncomputable def wwf (i : Nat) : Code := lp Try.prog 86 i
noncomputable def wie : RC := (.seq (.ops [Op 9 (.int2 .lss .i64 (Tm 8) (Tm 7))]) (.seq (.cond (Tm 9) .skip (.exit 0)) (.seq (.block 1 (.seq (.ops [Oi 10 (.iaddrS 9 (Tm 6) (Tm 8)), Oi 11 (.loadN 9 (Tm 10)), Oi 5 (.new [(.int .i64 0), (.int .i64 0), (.int .i64 0), (.int .i64 0), (.int .i64 0), (.int .i64 0), (.int .i64 0), (.int .i64 0), (.int .i64 0)] 113), On (.store 9 (Tm 5) (Tm 11))]) (.seq (.draw #[0, 1, 3, 7, 0, 31, 63] [Mv 12 0, Oi 13 (.nilc (Tm 12)), Oi 14 (.faddr 1 (Tm 13)), Oi 15 (.load1 (Tm 14)), Oi 16 (.loadN 9 (Tm 5)), Op 17 (.look 113 (.bool false) false (Tm 15) (Tm 16)), Op 18 (.un .not (Tm 17))]) (.cond (Tm 18) (.seq (.draw #[0, 1, 3, 7, 0, 31] [Mv 19 0, Oi 20 (.nilc (Tm 19)), Oi 21 (.faddr 1 (Tm 20)), Oi 22 (.load1 (Tm 21)), Oi 23 (.loadN 9 (Tm 5)), On (.upd 113 (Tm 22) (Tm 23) (Kb true))]) (.draw #[0, 0, 2, 6, 14, 0, 32, 126, 255, 511, 1023] [Mv 24 0, Mv 25 0, Oi 26 (.nilc (Tm 25)), Oi 27 (.faddr 0 (Tm 26)), Oi 28 (.load1 (Tm 27)), Oi 29 (.loadN 9 (Tm 5)), Oi 30 (.bslice 113 1 [(.int .i64 0), (.int .i64 0), (.int .i64 0), (.int .i64 0), (.int .i64 0), (.int .i64 0), (.int .i64 0), (.int .i64 0), (.int .i64 0)] [(0, (9, (Tm 29)))]), Oi 31 (.app 113 9 72 (Tm 28) (Tm 30)), Oi 32 (.nilc (Tm 24)), Oi 33 (.faddr 0 (Tm 32)), On (.store 1 (Tm 33) (Tm 31))])) .skip)))) (.ops [Op 34 (.int2 .add .i64 (Tm 8) (Kn 1)), Mv 8 34]))))
theorem wyd : trC Try.prog (wwf 0) = wie := by kernel_rfl
noncomputable def wlk : RF := ⟨35, (.seq (.ops [Mv 6 1, Op 7 (.lenS (Tm 6)), Oi 8 (.mv (Kn 0))]) (.block 0 (.loop (wwf 0)))), []⟩
theorem wik : trF Try.prog 86 = some wlk := by kernel_rfl
noncomputable def wvg (i : Nat) : Code := lp Try.prog 87 i
noncomputable def wrf : RC := (.seq (.ops [Op 14 (.int2 .lss .i64 (Tm 13) (Tm 12))]) (.seq (.cond (Tm 14) .skip (.exit 0)) (.seq (.block 1 (.seq (.ops [Oi 15 (.iaddrS 9 (Tm 11) (Tm 13)), Oi 16 (.loadN 9 (Tm 15)), Oi 9 (.new [(.int .i64 0), (.int .i64 0), (.int .i64 0), (.int .i64 0), (.int .i64 0), (.int .i64 0), (.int .i64 0), (.int .i64 0), (.int .i64 0)] 113), On (.store 9 (Tm 9) (Tm 16))]) (.ops [Mv 17 7, Oi 18 (.loadN 2 (Tm 3)), Oi 19 (.loadN 9 (Tm 4)), Oi 20 (.loadN 9 (Tm 9)), Oi 21 (.call 63 [(Tm 18), (Tm 19), (Tm 20)]), Oi 22 (.call 86 [(Tm 17), (Tm 21)])]))) (.ops [Op 23 (.int2 .add .i64 (Tm 13) (Kn 1)), Mv 13 23]))))
theorem wsf : trC Try.prog (wvg 0) = wrf := by kernel_rfl
noncomputable def wxo : RF := ⟨28, (.seq (.ops [Oi 3 (.box 123 (Tm 0)), Oi 4 (.box 47 (Tm 1)), Oi 6 (.mv (.const (.slice none 0 0)))]) (.seq (.ops [Oi 10 (.call 85 []), Mv 7 10]) (.seq (.seq (.ops [Mv 11 2, Op 12 (.lenS (Tm 11)), Oi 13 (.mv (Kn 0))]) (.block 0 (.loop (wvg 0)))) (.seq (.ops [Mv 24 7, Oi 25 (.nilc (Tm 24)), Oi 26 (.faddr 0 (Tm 25)), Oi 27 (.load1 (Tm 26)), Mv 6 27]) .ret)))), [(.tmp 6)]⟩
theorem wjs : trF Try.prog 87 = some wxo := by kernel_rfl
noncomputable def wfe (i : Nat) : Code := lp Try.prog 88 i
noncomputable def wed : RC := (.seq (.ops [Op 55 (.int2 .lss .i64 (Tm 54) (Tm 53))]) (.seq (.cond (Tm 55) .skip (.exit 0)) (.seq (.block 1 (.seq (.ops [Oi 56 (.iaddrS 9 (Tm 52) (Tm 54)), Oi 57 (.loadN 9 (Tm 56)), Oi 7 (.new [(.int .i64 0), (.int .i64 0), (.int .i64 0), (.int .i64 0), (.int .i64 0), (.int .i64 0), (.int .i64 0), (.int .i64 0), (.int .i64 0)] 113), On (.store 9 (Tm 7) (Tm 57))]) (.seq (.ops [Oi 58 (.faddr 0 (Tm 7)), Oi 59 (.load1 (Tm 58)), Oi 60 (.faddr 0 (Tm 5)), Oi 61 (.load1 (Tm 60)), Op 62 (.int2 .neq .i64 (Tm 59) (Tm 61)), Mv 63 62, Of 64 63 (.ins (.mv (Tm 1))), Of 65 63 (.ins (.mv (Tm 0))), Of 66 63 (.ins (.nilc (Tm 65))), Of 67 63 (.ins (.faddr 2 (Tm 66))), Of 68 63 (.ins (.faddr 1 (Tm 67))), Of 69 63 (.ins (.load1 (Tm 68))), Of 70 63 (.int2 .lss .i64 (Tm 64) (Tm 69)), Oi 71 (.pick (Tm 63) (Kb true) (Tm 70))]) (.cond (Tm 71) (.ops [Mv 72 0, Mv 73 1, Op 74 (.int2 .add .i64 (Tm 73) (Kn 1)), Oi 75 (.loadN 9 (Tm 7)), Oi 76 (.call 88 [(Tm 72), (Tm 74), (Tm 75)])]) .skip)))) (.ops [Op 77 (.int2 .add .i64 (Tm 54) (Kn 1)), Mv 54 77]))))
theorem wbd : trC Try.prog (wfe 0) = wed := by kernel_rfl
noncomputable def wnj : RF := ⟨92, (.seq (.ops [Oi 5 (.box 113 (Tm 2))]) (.seq (.seq (.draw #[0, 1, 3, 7, 0, 0, 0, 112, 255] [Mv 8 0, Oi 9 (.nilc (Tm 8)), Oi 10 (.faddr 12 (Tm 9)), Oi 11 (.load1 (Tm 10)), Mv 12 0, Mv 13 1, Oi 14 (.loadN 9 (Tm 5)), Oi 15 (.call 108 [(Tm 12), (Tm 13), (Tm 14)]), Op 16 (.look 181 (.bool false) false (Tm 11) (Tm 15))]) (.cond (Tm 16) .ret .skip)) (.seq (.draw #[0, 1, 3, 7, 0, 0, 0, 112, 255] [Mv 17 0, Oi 18 (.nilc (Tm 17)), Oi 19 (.faddr 12 (Tm 18)), Oi 20 (.load1 (Tm 19)), Mv 21 0, Mv 22 1, Oi 23 (.loadN 9 (Tm 5)), Oi 24 (.call 108 [(Tm 21), (Tm 22), (Tm 23)]), On (.upd 181 (Tm 20) (Tm 24) (Kb true))]) (.seq (.seq (.ops [Mv 25 0, Oi 26 (.nilc (Tm 25)), Oi 27 (.faddr 2 (Tm 26)), Oi 28 (.faddr 2 (Tm 27)), Oi 29 (.load1 (Tm 28)), Op 30 (.int2 .lss .i64 (Tm 29) (Kn 0)), Mv 31 30, Of 32 31 (.ins (.mv (Tm 1))), Of 33 31 (.ins (.mv (Tm 0))), Of 34 31 (.ins (.nilc (Tm 33))), Of 35 31 (.ins (.faddr 2 (Tm 34))), Of 36 31 (.ins (.faddr 2 (Tm 35))), Of 37 31 (.ins (.load1 (Tm 36))), Of 38 31 (.int2 .lss .i64 (Tm 32) (Tm 37)), Oi 39 (.pick (Tm 31) (Kb true) (Tm 38))]) (.cond (Tm 39) (.seq (.draw #[0, 1, 3, 7, 0, 16, 48, 112, 240, 496, 1008, 0, 4095, 8191, 0] [Mv 40 0, Oi 41 (.nilc (Tm 40)), Oi 42 (.faddr 0 (Tm 41)), Oi 43 (.loadN 2 (Tm 42)), Mv 44 0, Oi 45 (.nilc (Tm 44)), Oi 46 (.faddr 2 (Tm 45)), Oi 47 (.faddr 8 (Tm 46)), Oi 48 (.load1 (Tm 47)), Oi 49 (.iaddrS 9 (Tm 48) (Kn 0)), Oi 50 (.loadN 9 (Tm 49)), Oi 51 (.loadN 9 (Tm 5)), Oi 52 (.call 63 [(Tm 43), (Tm 50), (Tm 51)]), Op 53 (.lenS (Tm 52)), Oi 54 (.mv (Kn 0))]) (.block 0 (.loop (wfe 0)))) .skip)) (.seq (.ops [Mv 78 1, Mv 79 0, Oi 80 (.nilc (Tm 79)), Oi 81 (.faddr 2 (Tm 80)), Oi 82 (.faddr 1 (Tm 81)), Oi 83 (.load1 (Tm 82)), Op 84 (.int2 .geq .i64 (Tm 78) (Tm 83))]) (.cond (Tm 84) (.draw #[0, 1, 3, 7, 0, 16, 63] [Mv 85 0, Oi 86 (.nilc (Tm 85)), Oi 87 (.faddr 11 (Tm 86)), Oi 88 (.load1 (Tm 87)), Oi 89 (.loadN 9 (Tm 5)), Oi 90 (.bslice 113 1 [(.int .i64 0), (.int .i64 0), (.int .i64 0), (.int .i64 0), (.int .i64 0), (.int .i64 0), (.int .i64 0), (.int .i64 0), (.int .i64 0)] [(0, (9, (Tm 89)))]), Oi 91 (.call 86 [(Tm 88), (Tm 90)])]) .skip)))))), []⟩
theorem wsk : trF Try.prog 88 = some wnj := by kernel_rfl
noncomputable def wyi : RF := ⟨23, (.seq (.ops [Oi 5 (.box 113 (Tm 2)), Oi 6 (.new [(.int .i64 0), (.int .i64 0), (.int .i64 0), (.int .i64 0), (.int .i64 0), (.int .i64 0), (.int .i64 0), (.int .i64 0), (.int .i64 0), (.int .i64 0)] 181)]) (.seq (.seq (.ops [Mv 7 0, Oi 8 (.nilc (Tm 7)), Oi 9 (.faddr 2 (Tm 8)), Oi 10 (.faddr 2 (Tm 9)), Oi 11 (.load1 (Tm 10)), Op 12 (.int2 .lss .i64 (Tm 11) (Kn 0))]) (.cond (Tm 12) (.ops [Mv 13 1, Mv 14 0, Oi 15 (.nilc (Tm 14)), Oi 16 (.faddr 2 (Tm 15)), Oi 17 (.faddr 1 (Tm 16)), Oi 18 (.load1 (Tm 17)), Op 19 (.mm false (Tm 13) [(Tm 18)]), Mv 1 19]) .skip)) (.seq (.ops [Mv 20 1, Oi 21 (.loadN 9 (Tm 5)), Oi 22 (.build [(.int .i64 0), (.int .i64 0), (.int .i64 0), (.int .i64 0), (.int .i64 0), (.int .i64 0), (.int .i64 0), (.int .i64 0), (.int .i64 0), (.int .i64 0)] [(0, (1, (Tm 20))), (1, (9, (Tm 21)))]), On (.store 10 (Tm 6) (Tm 22))]) .ret))), [(.cellN 6 10)]⟩
theorem wak : trF Try.prog 108 = some wyi := by kernel_rfl
noncomputable def wdz : RF := ⟨35, (.seq (.ops [Oi 4 (.box 47 (Tm 0)), Oi 8 (.mv (.const (.slice none 0 0)))]) (.seq (.seq (.ops [Oi 9 (.loadN 9 (Tm 4)), Oi 10 (.call 58 [(Tm 9), (Kb true)]), Op 11 (.un .not (Tm 10)), Mv 12 11, Of 13 12 (.ins (.mv (Tm 1))), Of 14 12 (.slen (Tm 13)), Of 15 12 (.int2 .gtr .i64 (Tm 14) (Kn 60)), Oi 16 (.pick (Tm 12) (Kb true) (Tm 15)), Mv 17 16, Of 18 17 (.ins (.mv (Tm 3))), Of 19 17 (.int2 .lss .i64 (Tm 18) (Kn 0)), Oi 20 (.pick (Tm 17) (Kb true) (Tm 19)), Mv 21 20, Of 22 21 (.ins (.mv (Tm 3))), Of 23 21 (.ins (.mv (Tm 1))), Of 24 21 (.slen (Tm 23)), Of 25 21 (.int2 .gtr .i64 (Tm 22) (Tm 24)), Oi 26 (.pick (Tm 21) (Kb true) (Tm 25))]) (.cond (Tm 26) (.seq (.ops [Oi 8 (.mv (.const (.slice none 0 0)))]) .ret) .skip)) (.seq (.draw #[0, 0, 3, 0, 0, 0, 48, 127, 255] [Mv 27 1, Mv 28 2, Oi 29 (.build [(str []), (.bool false)] [(0, (1, (Tm 27))), (1, (1, (Tm 28)))]), Oi 30 (.loadN 9 (Tm 4)), Mv 31 3, Oi 32 (.call 30 []), Oi 33 (.build [(.int .i64 0), (.int .i64 0), (.int .i64 0), (.int .i64 0), (.int .i64 0), (.int .i64 0), (.int .i64 0), (.int .i64 0), (.int .i64 0)] [(0, (1, (Tm 31))), (1, (8, (Tm 32)))]), Oi 34 (.call 63 [(Tm 29), (Tm 30), (Tm 33)]), Mv 8 34]) .ret))), [(.tmp 8)]⟩
theorem wpab : trF Try.prog 40 = some wdz := by kernel_rfl
noncomputable def wez : RF := ⟨29, (.seq (.ops [Oi 2 (.box 47 (Tm 0)), Oi 4 (.mv (Kb false))]) (.seq (.ops [Mv 6 1, Oi 7 (.build [(.bool false), (.int .i64 0)] [(0, (1, (Tm 6)))]), Oi 8 (.box 143 (Tm 7)), Mv 5 8]) (.seq (.ops [Oi 9 (.loadN 9 (Tm 2)), Oi 10 (.call 62 [(Tm 9)]), Op 11 (.int2 .leq .i64 (Tm 10) (Kn 40)), Mv 12 11, Ot 13 12 (.ins (.mv (Tm 5))), Ot 14 12 (.ins (.loadN 9 (Tm 2))), Ot 15 12 (.ins (.call 78 [(Tm 13), (Tm 14)])), Oi 16 (.pick (Tm 12) (Tm 15) (Kb false)), Mv 17 16, Ot 18 17 (.ins (.mv (Tm 5))), Ot 19 17 (.ins (.loadN 9 (Tm 2))), Ot 20 17 (.ins (.call 79 [(Tm 18), (Tm 19), (Kn 0)])), Oi 21 (.pick (Tm 17) (Tm 20) (Kb false)), Mv 22 21, Ot 23 22 (.ins (.mv (Tm 5))), Ot 24 22 (.ins (.nilc (Tm 23))), Ot 25 22 (.ins (.faddr 1 (Tm 24))), Ot 26 22 (.ins (.load1 (Tm 25))), Ot 27 22 (.int2 .leq .i64 (Tm 26) (Kn 3)), Oi 28 (.pick (Tm 22) (Tm 27) (Kb false)), Mv 4 28]) .ret))), [(.tmp 4)]⟩
theorem wqab : trF Try.prog 58 = some wez := by kernel_rfl
noncomputable def wio (i : Nat) : Code := lp Try.prog 62 i
noncomputable def wjo : RC := (.seq (.ops [Op 10 (.int2 .lss .i64 (Tm 9) (Tm 8))]) (.seq (.cond (Tm 10) .skip (.exit 0)) (.seq (.block 1 (.seq (.ops [Oi 11 (.iaddrS 9 (Tm 7) (Tm 9)), Oi 12 (.loadN 9 (Tm 11)), Oi 5 (.new [(.int .i64 0), (.int .i64 0), (.int .i64 0), (.int .i64 0), (.int .u64 0), (.int .u64 0), (.int .u64 0), (.int .u64 0), (.slice none 0 0)] 47), On (.store 9 (Tm 5) (Tm 12))]) (.ops [Mv 13 3, Oi 14 (.loadN 9 (Tm 5)), Oi 15 (.call 62 [(Tm 14)]), Op 16 (.int2 .add .i64 (Tm 13) (Tm 15)), Mv 3 16]))) (.ops [Op 17 (.int2 .add .i64 (Tm 9) (Kn 1)), Mv 9 17]))))
theorem wyo : trC Try.prog (wio 0) = wjo := by kernel_rfl
noncomputable def wfz : RF := ⟨19, (.seq (.ops [Oi 1 (.box 47 (Tm 0)), Oi 2 (.mv (Kn 0))]) (.seq (.ops [Oi 3 (.mv (Kn 1))]) (.seq (.seq (.ops [Oi 6 (.faddr 8 (Tm 1)), Oi 7 (.load1 (Tm 6)), Op 8 (.lenS (Tm 7)), Oi 9 (.mv (Kn 0))]) (.block 0 (.loop (wio 0)))) (.seq (.ops [Mv 18 3, Mv 2 18]) .ret)))), [(.tmp 2)]⟩
theorem wrab : trF Try.prog 62 = some wfz := by kernel_rfl
noncomputable def wgr (i : Nat) : Code := lp Try.prog 78 i
noncomputable def wbl : RF := ⟨45, (.seq (.ops [Oi 3 (.box 47 (Tm 1)), Oi 4 (.mv (Kb false))]) (.seq (.seq (.ops [Mv 7 0, Oi 8 (.nilc (Tm 7)), Oi 9 (.faddr 0 (Tm 8)), Oi 10 (.load1 (Tm 9)), Mv 11 10, Of 12 11 (.ins (.faddr 0 (Tm 3))), Of 13 11 (.ins (.load1 (Tm 12))), Of 14 11 (.int2 .neq .i64 (Tm 13) (Kn 2)), Oi 15 (.pick (Tm 11) (Kb true) (Tm 14))]) (.cond (Tm 15) (.seq (.ops [Oi 4 (.mv (Kb true))]) .ret) .skip)) (.seq (.seq (.ops [Oi 16 (.faddr 8 (Tm 3)), Oi 17 (.load1 (Tm 16)), Op 18 (.lenS (Tm 17)), Oi 19 (.mv (Kn 0))]) (.block 0 (.loop (wgr 0)))) (.seq (.ops [Oi 4 (.mv (Kb true))]) .ret)))), [(.tmp 4)]⟩
theorem wko : trF Try.prog 78 = some wbl := by kernel_rfl
noncomputable def wth (i : Nat) : Code := lp Try.prog 79 i
noncomputable def wbf : RC := (.seq (.ops [Op 80 (.int2 .lss .i64 (Tm 79) (Tm 78))]) (.seq (.cond (Tm 80) .skip (.exit 1)) (.seq (.block 2 (.seq (.ops [Oi 81 (.iaddrS 9 (Tm 77) (Tm 79)), Oi 82 (.loadN 9 (Tm 81)), Oi 8 (.new [(.int .i64 0), (.int .i64 0), (.int .i64 0), (.int .i64 0), (.int .u64 0), (.int .u64 0), (.int .u64 0), (.int .u64 0), (.slice none 0 0)] 47), On (.store 9 (Tm 8) (Tm 82))]) (.seq (.ops [Mv 83 0, Oi 84 (.loadN 9 (Tm 8)), Mv 85 2, Oi 86 (.call 79 [(Tm 83), (Tm 84), (Tm 85)]), Op 87 (.un .not (Tm 86))]) (.cond (Tm 87) (.seq (.ops [Oi 6 (.mv (Kb false))]) .ret) .skip)))) (.ops [Op 88 (.int2 .add .i64 (Tm 79) (Kn 1)), Mv 79 88]))))
theorem wdf : trC Try.prog (wth 0) = wbf := by kernel_rfl
noncomputable def wfn : RF := ⟨89, (.seq (.ops [Oi 4 (.box 47 (Tm 1)), Oi 6 (.mv (Kb false))]) (.seq (.seq (.ops [Oi 9 (.loadN 9 (Tm 4)), Oi 10 (.call 96 [(Tm 9)]), Op 11 (.un .not (Tm 10)), Mv 12 11, Of 13 12 (.ins (.loadN 9 (Tm 4))), Of 14 12 (.ins (.call 97 [(Tm 13)])), Of 15 12 (.un .not (Tm 14)), Oi 16 (.pick (Tm 12) (Kb true) (Tm 15)), Mv 17 16, Of 18 17 (.ins (.faddr 0 (Tm 4))), Of 19 17 (.ins (.load1 (Tm 18))), Of 20 17 (.int2 .eql .i64 (Tm 19) (Kn 3)), Of 21 17 (.ins (.mv (Tm 20))), Ot 22 21 (.ins (.mv (Tm 0))), Ot 23 21 (.ins (.nilc (Tm 22))), Ot 24 21 (.ins (.faddr 0 (Tm 23))), Ot 25 21 (.ins (.load1 (Tm 24))), Ot 26 21 (.un .not (Tm 25)), Of 27 17 (.ins (.pick (Tm 21) (Tm 26) (Kb false))), Oi 28 (.pick (Tm 17) (Kb true) (Tm 27))]) (.cond (Tm 28) (.seq (.ops [Oi 6 (.mv (Kb false))]) .ret) .skip)) (.seq (.seq (.ops [Oi 29 (.faddr 0 (Tm 4)), Oi 30 (.load1 (Tm 29))]) (.block 0 (.seq (.ops [Op 32 (.int2 .eql .i64 (Tm 30) (Kn 5)), Mv 31 32]) (.cond (Tm 31) (.seq (.ops [Mv 33 0, Oi 34 (.nilc (Tm 33)), Oi 35 (.faddr 1 (Tm 34)), Oi 36 (.load1 (Tm 35)), Op 37 (.int2 .add .i64 (Tm 36) (Kn 1)), Oi 38 (.nilc (Tm 33)), Oi 39 (.faddr 1 (Tm 38)), On (.store 1 (Tm 39) (Tm 37))]) (.seq (.ops [Mv 40 2, Op 41 (.int2 .add .i64 (Tm 40) (Kn 1)), Mv 2 41]) (.seq (.draw #[0, 1, 0, 4, 12, 28, 63, 127, 255, 511, 1023, 2047, 4095, 4095, 12287, 28671, 61439, 131071, 262143, 524287] [Oi 42 (.faddr 3 (Tm 4)), Oi 43 (.load1 (Tm 42)), Mv 44 0, Oi 45 (.nilc (Tm 44)), Oi 46 (.faddr 1 (Tm 45)), Oi 47 (.load1 (Tm 46)), Op 48 (.int2 .neq .i64 (Tm 43) (Tm 47)), Mv 49 48, Of 50 49 (.ins (.mv (Tm 2))), Of 51 49 (.int2 .gtr .i64 (Tm 50) (Kn 6)), Oi 52 (.pick (Tm 49) (Kb true) (Tm 51)), Mv 53 52, Of 54 53 (.ins (.mv (Tm 0))), Of 55 53 (.ins (.faddr 8 (Tm 4))), Of 56 53 (.ins (.load1 (Tm 55))), Of 57 53 (.ins (.iaddrS 9 (Tm 56) (Kn 0))), Of 58 53 (.ins (.loadN 9 (Tm 57))), Of 59 53 (.ins (.call 78 [(Tm 54), (Tm 58)])), Of 60 53 (.un .not (Tm 59)), Oi 61 (.pick (Tm 53) (Kb true) (Tm 60))]) (.cond (Tm 61) (.seq (.ops [Oi 6 (.mv (Kb false))]) .ret) .skip)))) (.seq (.ops [Op 63 (.int2 .eql .i64 (Tm 30) (Kn 6)), Mv 62 63]) (.cond (Tm 62) (.seq (.draw #[0, 1, 3, 7, 15, 31, 15, 79, 207, 463, 1023, 2047, 4095] [Oi 64 (.faddr 3 (Tm 4)), Oi 65 (.load1 (Tm 64)), Op 66 (.int2 .geq .i64 (Tm 65) (Kn 1)), Mv 67 66, Ot 68 67 (.ins (.faddr 3 (Tm 4))), Ot 69 67 (.ins (.load1 (Tm 68))), Ot 70 67 (.ins (.mv (Tm 0))), Ot 71 67 (.ins (.nilc (Tm 70))), Ot 72 67 (.ins (.faddr 1 (Tm 71))), Ot 73 67 (.ins (.load1 (Tm 72))), Ot 74 67 (.int2 .leq .i64 (Tm 69) (Tm 73)), Oi 75 (.pick (Tm 67) (Tm 74) (Kb false)), Mv 6 75]) .ret) .skip)))))) (.seq (.seq (.ops [Oi 76 (.faddr 8 (Tm 4)), Oi 77 (.load1 (Tm 76)), Op 78 (.lenS (Tm 77)), Oi 79 (.mv (Kn 0))]) (.block 1 (.loop (wth 0)))) (.seq (.ops [Oi 6 (.mv (Kb true))]) .ret))))), [(.tmp 6)]⟩
theorem whr : trF Try.prog 79 = some wfn := by kernel_rfl
noncomputable def wacb : RF := ⟨40, (.seq (.ops [Oi 1 (.box 47 (Tm 0)), Oi 2 (.mv (Kb false))]) (.seq (.seq (.ops [Oi 3 (.faddr 0 (Tm 1)), Oi 4 (.load1 (Tm 3)), Op 5 (.int2 .neq .i64 (Tm 4) (Kn 1)), Mv 6 5, Ot 7 6 (.ins (.faddr 4 (Tm 1))), Ot 8 6 (.ins (.loadN 4 (Tm 7))), Ot 9 6 (.ins (.build [(.int .u64 0), (.int .u64 0), (.int .u64 0), (.int .u64 0)] [])), Ot 10 6 (.eqc true [(.int .u64), (.int .u64), (.int .u64), (.int .u64)] (Tm 8) (Tm 9)), Oi 11 (.pick (Tm 6) (Tm 10) (Kb false)), Mv 12 11, Of 13 12 (.ins (.faddr 0 (Tm 1))), Of 14 12 (.ins (.load1 (Tm 13))), Of 15 12 (.int2 .neq .i64 (Tm 14) (Kn 4)), Of 16 12 (.ins (.mv (Tm 15))), Ot 17 16 (.ins (.faddr 1 (Tm 1))), Ot 18 16 (.ins (.load1 (Tm 17))), Ot 19 16 (.int2 .neq .i64 (Tm 18) (Kn 0)), Ot 20 16 (.ins (.mv (Tm 19))), Of 21 20 (.ins (.faddr 2 (Tm 1))), Of 22 20 (.ins (.load1 (Tm 21))), Of 23 20 (.int2 .neq .i64 (Tm 22) (Kn 0)), Ot 24 16 (.ins (.pick (Tm 20) (Kb true) (Tm 23))), Of 25 12 (.ins (.pick (Tm 16) (Tm 24) (Kb false))), Oi 26 (.pick (Tm 12) (Kb true) (Tm 25))]) (.cond (Tm 26) (.seq (.ops [Oi 2 (.mv (Kb false))]) .ret) .skip)) (.seq (.ops [Oi 27 (.faddr 0 (Tm 1)), Oi 28 (.load1 (Tm 27)), Op 29 (.int2 .eql .i64 (Tm 28) (Kn 5)), Mv 30 29, Of 31 30 (.ins (.faddr 0 (Tm 1))), Of 32 30 (.ins (.load1 (Tm 31))), Of 33 30 (.int2 .eql .i64 (Tm 32) (Kn 6)), Oi 34 (.pick (Tm 30) (Kb true) (Tm 33)), Mv 35 34, Of 36 35 (.ins (.faddr 3 (Tm 1))), Of 37 35 (.ins (.load1 (Tm 36))), Of 38 35 (.int2 .eql .i64 (Tm 37) (Kn 0)), Oi 39 (.pick (Tm 35) (Kb true) (Tm 38)), Mv 2 39]) .ret))), [(.tmp 2)]⟩
theorem wreb : trF Try.prog 96 = some wacb := by kernel_rfl
noncomputable def wbcb : RF := ⟨65, (.seq (.ops [Oi 1 (.box 47 (Tm 0)), Oi 2 (.mv (Kb false))]) (.seq (.ops [Oi 4 (.faddr 8 (Tm 1)), Oi 5 (.load1 (Tm 4)), Op 6 (.lenS (Tm 5)), Mv 3 6]) (.seq (.seq (.ops [Oi 7 (.faddr 0 (Tm 1)), Oi 8 (.load1 (Tm 7))]) (.block 0 (.seq (.ops [Op 10 (.int2 .eql .i64 (Tm 8) (Kn 1)), Mv 9 10]) (.cond (Tm 9) (.seq (.ops [Mv 11 3, Op 12 (.int2 .eql .i64 (Tm 11) (Kn 0)), Mv 13 12, Ot 14 13 (.ins (.faddr 4 (Tm 1))), Ot 15 13 (.ins (.loadN 4 (Tm 14))), Ot 16 13 (.ins (.build [(.int .u64 0), (.int .u64 0), (.int .u64 0), (.int .u64 0)] [])), Ot 17 13 (.eqc true [(.int .u64), (.int .u64), (.int .u64), (.int .u64)] (Tm 15) (Tm 16)), Oi 18 (.pick (Tm 13) (Tm 17) (Kb false)), Mv 2 18]) .ret) (.seq (.ops [Op 20 (.int2 .eql .i64 (Tm 8) (Kn 2)), Mv 19 20]) (.cond (Tm 19) (.seq (.ops [Mv 21 3, Op 22 (.int2 .neq .i64 (Tm 21) (Kn 1)), Mv 23 22, Ot 24 23 (.ins (.faddr 8 (Tm 1))), Ot 25 23 (.ins (.load1 (Tm 24))), Ot 26 23 (.ins (.bslice 3 2 [(.int .i64 0), (.int .i64 0)] [(0, (1, (Kn 2))), (1, (1, (Kn 3)))])), Ot 27 23 (.ins (.call 127 [(Tm 25), (Tm 26)])), Ot 28 23 (.un .not (Tm 27)), Oi 29 (.pick (Tm 23) (Tm 28) (Kb false)), Mv 2 29]) .ret) (.seq (.ops [Op 31 (.int2 .eql .i64 (Tm 8) (Kn 3)), Mv 30 31]) (.cond (Tm 30) (.seq (.ops [Mv 32 3, Op 33 (.int2 .geq .i64 (Tm 32) (Kn 2)), Mv 34 33, Ot 35 34 (.ins (.faddr 8 (Tm 1))), Ot 36 34 (.ins (.load1 (Tm 35))), Ot 37 34 (.ins (.bslice 3 1 [(.int .i64 0)] [(0, (1, (Kn 3)))])), Ot 38 34 (.ins (.call 127 [(Tm 36), (Tm 37)])), Ot 39 34 (.un .not (Tm 38)), Oi 40 (.pick (Tm 34) (Tm 39) (Kb false)), Mv 2 40]) .ret) (.seq (.ops [Op 42 (.int2 .eql .i64 (Tm 8) (Kn 4)), Mv 41 42]) (.cond (Tm 41) (.seq (.ops [Mv 43 3, Op 44 (.int2 .eql .i64 (Tm 43) (Kn 1)), Mv 45 44, Ot 46 45 (.ins (.faddr 8 (Tm 1))), Ot 47 45 (.ins (.load1 (Tm 46))), Ot 48 45 (.ins (.bslice 3 3 [(.int .i64 0), (.int .i64 0), (.int .i64 0)] [(0, (1, (Kn 1))), (1, (1, (Kn 5))), (2, (1, (Kn 6)))])), Ot 49 45 (.ins (.call 127 [(Tm 47), (Tm 48)])), Oi 50 (.pick (Tm 45) (Tm 49) (Kb false)), Mv 51 50, Ot 52 51 (.ins (.loadN 9 (Tm 1))), Ot 53 51 (.ins (.call 128 [(Tm 52)])), Oi 54 (.pick (Tm 51) (Tm 53) (Kb false)), Mv 2 54]) .ret) (.seq (.ops [Op 56 (.int2 .eql .i64 (Tm 8) (Kn 5)), Mv 55 56]) (.cond (Tm 55) (.seq (.ops [Mv 57 3, Op 58 (.int2 .eql .i64 (Tm 57) (Kn 1)), Mv 2 58]) .ret) (.seq (.seq (.ops [Op 60 (.int2 .eql .i64 (Tm 8) (Kn 6)), Mv 59 60]) (.cond (Tm 59) .skip (.seq (.ops [Op 61 (.int2 .eql .i64 (Tm 8) (Kn 7)), Mv 59 61]) (.cond (Tm 59) .skip (.ops [Op 62 (.int2 .eql .i64 (Tm 8) (Kn 8)), Mv 59 62]))))) (.cond (Tm 59) (.seq (.ops [Mv 63 3, Op 64 (.int2 .eql .i64 (Tm 63) (Kn 0)), Mv 2 64]) .ret) .skip)))))))))))))) (.seq (.ops [Oi 2 (.mv (Kb false))]) .ret)))), [(.tmp 2)]⟩
theorem wseb : trF Try.prog 97 = some wbcb := by kernel_rfl
noncomputable def wgz : RF := ⟨14, (.seq (.ops [Oi 2 (.box 44 (Tm 0)), Oi 4 (.mv (Kb false))]) (.seq (.ops [Mv 5 1, Op 6 (.int2 .quo .u8 (Tm 5) (.const (.int .u8 64))), Oi 7 (.iaddrA 4 1 (Tm 2) (Tm 6)), Oi 8 (.load1 (Tm 7)), Mv 9 1, Op 10 (.int2 .rem .u8 (Tm 9) (.const (.int .u8 64))), Op 11 (.shift .shr (Tm 8) (Tm 10)), Op 12 (.int2 .and .u64 (Tm 11) (.const (.int .u64 1))), Op 13 (.int2 .eql .u64 (Tm 12) (.const (.int .u64 1))), Mv 4 13]) .ret)), [(.tmp 4)]⟩
theorem wsab : trF Try.prog 83 = some wgz := by kernel_rfl
noncomputable def wkib : RF := ⟨8, (.seq (.ops [Oi 3 (.box 39 (Tm 1)), Oi 4 (.mv (Kb false))]) (.seq (.ops [Mv 5 0, Oi 6 (.mkfn (.func 148) [] [(Tm 3)]), Oi 7 (.call 147 [(Tm 5), (Tm 6)]), Mv 4 7]) .ret)), [(.tmp 4)]⟩
theorem wlib : trF Try.prog 127 = some wkib := by kernel_rfl
noncomputable def wmib : RF := ⟨29, (.seq (.ops [Oi 1 (.box 47 (Tm 0)), Oi 2 (.mv (Kb false))]) (.seq (.ops [Oi 3 (.faddr 1 (Tm 1)), Oi 4 (.load1 (Tm 3)), Op 5 (.int2 .geq .i64 (Tm 4) (Kn 0)), Mv 6 5, Ot 7 6 (.ins (.faddr 1 (Tm 1))), Ot 8 6 (.ins (.load1 (Tm 7))), Ot 9 6 (.int2 .leq .i64 (Tm 8) (Kn 20)), Oi 10 (.pick (Tm 6) (Tm 9) (Kb false)), Mv 11 10, Ot 12 11 (.ins (.faddr 2 (Tm 1))), Ot 13 11 (.ins (.load1 (Tm 12))), Ot 14 11 (.int2 .eql .i64 (Tm 13) (Kn (-1))), Ot 15 11 (.ins (.mv (Tm 14))), Of 16 15 (.ins (.faddr 2 (Tm 1))), Of 17 15 (.ins (.load1 (Tm 16))), Of 18 15 (.ins (.faddr 1 (Tm 1))), Of 19 15 (.ins (.load1 (Tm 18))), Of 20 15 (.mm true (Tm 19) [(Kn 1)]), Of 21 15 (.int2 .geq .i64 (Tm 17) (Tm 20)), Of 22 15 (.ins (.mv (Tm 21))), Ot 23 22 (.ins (.faddr 2 (Tm 1))), Ot 24 22 (.ins (.load1 (Tm 23))), Ot 25 22 (.int2 .leq .i64 (Tm 24) (Kn 20)), Of 26 15 (.ins (.pick (Tm 22) (Tm 25) (Kb false))), Ot 27 11 (.ins (.pick (Tm 15) (Kb true) (Tm 26))), Oi 28 (.pick (Tm 11) (Tm 27) (Kb false)), Mv 2 28]) .ret)), [(.tmp 2)]⟩
theorem wnib : trF Try.prog 128 = some wmib := by kernel_rfl
noncomputable def wre : RF := ⟨9, (.seq (.ops [Oi 4 (.mv (Kb false))]) (.seq (.ops [Mv 5 0, Mv 6 1, Oi 7 (.call 157 [(Tm 5), (Tm 6)]), Op 8 (.int2 .geq .i64 (Tm 7) (Kn 0)), Mv 4 8]) .ret)), [(.tmp 4)]⟩
theorem wnh : trF Try.prog 147 = some wre := by kernel_rfl
noncomputable def whz : RF := ⟨8, (.seq (.ops [Oi 2 (.box 47 (Tm 0)), Oi 3 (.mv (Kb false))]) (.seq (.ops [Oi 4 (.load1 (Tm 1)), Oi 5 (.faddr 0 (Tm 2)), Oi 6 (.load1 (Tm 5)), Oi 7 (.call 149 [(Tm 4), (Tm 6)]), Mv 3 7]) .ret)), [(.tmp 3)]⟩
theorem wtab : trF Try.prog 148 = some whz := by kernel_rfl
noncomputable def wzh : RF := ⟨9, (.seq (.ops [Oi 4 (.mv (Kb false))]) (.seq (.ops [Mv 5 0, Mv 6 1, Oi 7 (.call 158 [(Tm 5), (Tm 6)]), Op 8 (.int2 .geq .i64 (Tm 7) (Kn 0)), Mv 4 8]) .ret)), [(.tmp 4)]⟩
theorem wwk : trF Try.prog 149 = some wzh := by kernel_rfl
noncomputable def wyc (i : Nat) : Code := lp Try.prog 157 i
noncomputable def wgc : RC := (.seq (.ops [Op 9 (.int2 .lss .i64 (Tm 8) (Tm 7))]) (.seq (.cond (Tm 9) .skip (.exit 0)) (.seq (.block 1 (.seq (.ops [Mv 10 8, Mv 5 10]) (.seq (.ops [Mv 11 1, Mv 12 0, Mv 13 5, Oi 14 (.iaddrS 9 (Tm 12) (Tm 13)), Oi 15 (.loadN 9 (Tm 14)), Oi 16 (.dyn (Tm 11) [(Tm 15)])]) (.cond (Tm 16) (.seq (.ops [Mv 17 5, Mv 4 17]) .ret) .skip)))) (.ops [Op 18 (.int2 .add .i64 (Tm 8) (Kn 1)), Mv 8 18]))))
theorem wkc : trC Try.prog (wyc 0) = wgc := by kernel_rfl
noncomputable def wtf : RF := ⟨19, (.seq (.ops [Oi 4 (.mv (Kn 0))]) (.seq (.seq (.ops [Mv 6 0, Op 7 (.lenS (Tm 6)), Oi 8 (.mv (Kn 0))]) (.block 0 (.loop (wyc 0)))) (.seq (.ops [Oi 4 (.mv (Kn (-1)))]) .ret))), [(.tmp 4)]⟩
theorem wli : trF Try.prog 157 = some wtf := by kernel_rfl
noncomputable def woe (i : Nat) : Code := lp Try.prog 158 i
noncomputable def wgd : RC := (.seq (.ops [Op 9 (.int2 .lss .i64 (Tm 8) (Tm 7))]) (.seq (.cond (Tm 9) .skip (.exit 0)) (.seq (.block 1 (.seq (.ops [Mv 10 8, Mv 5 10]) (.seq (.ops [Mv 11 1, Mv 12 0, Mv 13 5, Oi 14 (.iaddrS 1 (Tm 12) (Tm 13)), Oi 15 (.load1 (Tm 14)), Op 16 (.int2 .eql .i64 (Tm 11) (Tm 15))]) (.cond (Tm 16) (.seq (.ops [Mv 17 5, Mv 4 17]) .ret) .skip)))) (.ops [Op 18 (.int2 .add .i64 (Tm 8) (Kn 1)), Mv 8 18]))))
theorem wmd : trC Try.prog (woe 0) = wgd := by kernel_rfl
noncomputable def woj : RF := ⟨19, (.seq (.ops [Oi 4 (.mv (Kn 0))]) (.seq (.seq (.ops [Mv 6 0, Op 7 (.lenS (Tm 6)), Oi 8 (.mv (Kn 0))]) (.block 0 (.loop (woe 0)))) (.seq (.ops [Oi 4 (.mv (Kn (-1)))]) .ret))), [(.tmp 4)]⟩
theorem wcm : trF Try.prog 158 = some woj := by kernel_rfl
noncomputable def wom : RF := ⟨14, (.seq (.ops [Oi 2 (.box 41 (Tm 0)), Oi 4 (.new [(.int .i64 0), (.int .i64 0), (.int .i64 0), (.int .i64 0), (.int .u64 0), (.int .u64 0), (.int .u64 0), (.int .u64 0), (.slice none 0 0)] 47)]) (.seq (.ops [Oi 5 (.new [(.int .i64 0)] 3), Oi 6 (.new [(.int .i64 0)] 3), Oi 7 (.new [(.int .i64 0)] 3), On (.store 1 (Tm 5) (Kn 0)), On (.store 1 (Tm 6) (Kn 0)), On (.store 1 (Tm 7) (Kn 14))]) (.seq (.ops [Oi 9 (.loadN 2 (Tm 2)), Mv 10 1, Oi 11 (.build [(.slice none 0 0), (.slice none 0 0), (.bool false), (.pointer none), (.pointer none), (.pointer none)] [(0, (2, (Tm 9))), (2, (1, (Tm 10))), (3, (1, (Tm 5))), (4, (1, (Tm 6))), (5, (1, (Tm 7)))]), Oi 8 (.new [(.slice none 0 0), (.slice none 0 0), (.bool false), (.pointer none), (.pointer none), (.pointer none)] 109), On (.store 6 (Tm 8) (Tm 11))]) (.seq (.ops [Oi 12 (.loadN 6 (Tm 8)), Oi 13 (.call 57 [(Tm 12), (Kn 0)]), On (.store 9 (Tm 4) (Tm 13))]) .ret)))), [(.cellN 4 9)]⟩
theorem wdq : trF Try.prog 25 = some wom := by kernel_rfl
noncomputable def wfd : RF := ⟨89, (.seq (.ops [Oi 2 (.box 109 (Tm 0)), Oi 4 (.new [(.int .i64 0), (.int .i64 0), (.int .i64 0), (.int .i64 0), (.int .u64 0), (.int .u64 0), (.int .u64 0), (.int .u64 0), (.slice none 0 0)] 47)]) (.seq (.ops [Oi 12 (.loadN 6 (Tm 2)), Oi 13 (.call 76 [(Tm 12)]), Mv 11 13, Oi 14 (.ext (Tm 11) 0), Oi 15 (.ext (Tm 11) 1), Mv 5 14, Mv 6 15]) (.seq (.draw #[0, 1, 0, 4, 12, 28, 60, 127, 255] [Oi 16 (.faddr 5 (Tm 2)), Oi 17 (.load1 (Tm 16)), Oi 18 (.faddr 5 (Tm 2)), Oi 19 (.load1 (Tm 18)), Oi 20 (.nilc (Tm 19)), Oi 21 (.load1 (Tm 20)), Op 22 (.int2 .sub .i64 (Tm 21) (Kn 1)), Oi 23 (.nilc (Tm 17)), On (.store 1 (Tm 23) (Tm 22))]) (.seq (.ops [Mv 24 5, Oi 25 (.call 15 [(Tm 24), (Kn 0), (Kn 9)]), Mv 7 25]) (.seq (.seq (.ops [Oi 26 (.faddr 2 (Tm 2)), Oi 27 (.load1 (Tm 26)), Mv 28 27, Ot 29 28 (.ins (.mv (Tm 7))), Ot 30 28 (.int2 .eql .i64 (Tm 29) (Kn 9)), Oi 31 (.pick (Tm 28) (Tm 30) (Kb false)), Mv 32 31, Ot 33 32 (.ins (.faddr 5 (Tm 2))), Ot 34 32 (.ins (.load1 (Tm 33))), Ot 35 32 (.ins (.nilc (Tm 34))), Ot 36 32 (.ins (.load1 (Tm 35))), Ot 37 32 (.int2 .gtr .i64 (Tm 36) (Kn 4)), Oi 38 (.pick (Tm 32) (Tm 37) (Kb false)), Mv 39 38, Ot 40 39 (.ins (.mv (Tm 1))), Ot 41 39 (.int2 .lss .i64 (Tm 40) (Kn 3)), Oi 42 (.pick (Tm 39) (Tm 41) (Kb false))]) (.cond (Tm 42) (.seq (.draw #[0, 0, 0, 4, 12, 31, 0, 0, 255, 0, 0, 2047, 4095] [Oi 43 (.loadN 6 (Tm 2)), Mv 44 1, Mv 45 6, Op 46 (.int2 .and .i64 (Tm 45) (Kn 1)), Op 47 (.int2 .add .i64 (Kn 1) (Tm 46)), Oi 48 (.call 77 [(Tm 43), (Tm 44), (Tm 47)]), Oi 49 (.loadN 6 (Tm 2)), Mv 50 1, Oi 51 (.call 77 [(Tm 49), (Tm 50), (Kn 1)]), Oi 8 (.new [(.int .i64 0), (.int .i64 0), (.int .i64 0), (.int .i64 0), (.int .u64 0), (.int .u64 0), (.int .u64 0), (.int .u64 0), (.slice none 0 0)] 47), Oi 9 (.new [(.int .i64 0), (.int .i64 0), (.int .i64 0), (.int .i64 0), (.int .u64 0), (.int .u64 0), (.int .u64 0), (.int .u64 0), (.slice none 0 0)] 47), On (.store 9 (Tm 8) (Tm 48)), On (.store 9 (Tm 9) (Tm 51))]) (.seq (.ops [Oi 52 (.loadN 9 (Tm 8)), Oi 53 (.loadN 9 (Tm 9)), Oi 54 (.bslice 47 2 [(.int .i64 0), (.int .i64 0), (.int .i64 0), (.int .i64 0), (.int .u64 0), (.int .u64 0), (.int .u64 0), (.int .u64 0), (.slice none 0 0), (.int .i64 0), (.int .i64 0), (.int .i64 0), (.int .i64 0), (.int .u64 0), (.int .u64 0), (.int .u64 0), (.int .u64 0), (.slice none 0 0)] [(0, (9, (Tm 52))), (9, (9, (Tm 53)))]), Oi 55 (.build [(.int .i64 0), (.int .i64 0), (.int .i64 0), (.int .i64 0), (.int .u64 0), (.int .u64 0), (.int .u64 0), (.int .u64 0), (.slice none 0 0)] [(0, (1, (Kn 3))), (8, (1, (Tm 54)))]), On (.store 9 (Tm 4) (Tm 55))]) .ret)) .skip)) (.seq (.draw #[0, 0, 0, 4, 12, 31, 0, 127] [Oi 56 (.loadN 6 (Tm 2)), Mv 57 1, Mv 58 6, Oi 59 (.call 15 [(Tm 58), (Kn 0), (Kn 2)]), Op 60 (.int2 .add .i64 (Kn 1) (Tm 59)), Oi 61 (.call 77 [(Tm 56), (Tm 57), (Tm 60)]), Oi 10 (.new [(.int .i64 0), (.int .i64 0), (.int .i64 0), (.int .i64 0), (.int .u64 0), (.int .u64 0), (.int .u64 0), (.int .u64 0), (.slice none 0 0)] 47), On (.store 9 (Tm 10) (Tm 61))]) (.seq (.seq (.ops [Mv 62 7, Op 63 (.int2 .eql .i64 (Tm 62) (Kn 8)), Mv 64 63, Ot 65 64 (.ins (.faddr 0 (Tm 10))), Ot 66 64 (.ins (.load1 (Tm 65))), Ot 67 64 (.int2 .eql .i64 (Tm 66) (Kn 2)), Oi 68 (.pick (Tm 64) (Tm 67) (Kb false))]) (.cond (Tm 68) (.ops [Oi 69 (.build [(.int .i64 0), (.int .i64 0), (.int .i64 0), (.int .i64 0), (.int .u64 0), (.int .u64 0), (.int .u64 0), (.int .u64 0), (.slice none 0 0)] [(0, (1, (Kn 7)))]), Oi 70 (.bslice 47 1 [(.int .i64 0), (.int .i64 0), (.int .i64 0), (.int .i64 0), (.int .u64 0), (.int .u64 0), (.int .u64 0), (.int .u64 0), (.slice none 0 0)] [(0, (9, (Tm 69)))]), Oi 71 (.faddr 8 (Tm 10)), Oi 72 (.load1 (Tm 71)), Oi 73 (.app 47 9 88 (Tm 70) (Tm 72)), Oi 74 (.faddr 8 (Tm 10)), On (.store 1 (Tm 74) (Tm 73))]) .skip)) (.seq (.seq (.ops [Mv 75 7, Op 76 (.int2 .eql .i64 (Tm 75) (Kn 7)), Mv 77 76, Ot 78 77 (.ins (.faddr 0 (Tm 10))), Ot 79 77 (.ins (.load1 (Tm 78))), Ot 80 77 (.int2 .eql .i64 (Tm 79) (Kn 2)), Oi 81 (.pick (Tm 77) (Tm 80) (Kb false))]) (.cond (Tm 81) (.ops [Oi 82 (.faddr 8 (Tm 10)), Oi 83 (.load1 (Tm 82)), Oi 84 (.build [(.int .i64 0), (.int .i64 0), (.int .i64 0), (.int .i64 0), (.int .u64 0), (.int .u64 0), (.int .u64 0), (.int .u64 0), (.slice none 0 0)] [(0, (1, (Kn 8)))]), Oi 85 (.bslice 47 1 [(.int .i64 0), (.int .i64 0), (.int .i64 0), (.int .i64 0), (.int .u64 0), (.int .u64 0), (.int .u64 0), (.int .u64 0), (.slice none 0 0)] [(0, (9, (Tm 84)))]), Oi 86 (.app 47 9 88 (Tm 83) (Tm 85)), Oi 87 (.faddr 8 (Tm 10)), On (.store 1 (Tm 87) (Tm 86))]) .skip)) (.seq (.ops [Oi 88 (.loadN 9 (Tm 10)), On (.store 9 (Tm 4) (Tm 88))]) .ret))))))))), [(.cellN 4 9)]⟩
theorem whd : trF Try.prog 57 = some wfd := by kernel_rfl
noncomputable def wpj : RF := ⟨49, (.seq (.ops [Oi 1 (.box 109 (Tm 0)), Oi 2 (.mv (Kn 0)), Oi 3 (.mv (Kn 0))]) (.seq (.ops [Oi 8 (.faddr 3 (Tm 1)), Oi 9 (.load1 (Tm 8)), Oi 10 (.nilc (Tm 9)), Oi 11 (.load1 (Tm 10)), Mv 4 11]) (.seq (.ops [Oi 12 (.faddr 3 (Tm 1)), Oi 13 (.load1 (Tm 12)), Mv 14 4, Op 15 (.int2 .add .i64 (Tm 14) (Kn 1)), Oi 16 (.nilc (Tm 13)), On (.store 1 (Tm 16) (Tm 15))]) (.seq (.ops [Oi 5 (.mv (Kn 0)), Oi 6 (.mv (Kn 0))]) (.seq (.seq (.ops [Mv 17 4, Oi 18 (.faddr 0 (Tm 1)), Oi 19 (.faddr 0 (Tm 18)), Oi 20 (.load1 (Tm 19)), Op 21 (.lenS (Tm 20)), Op 22 (.int2 .lss .i64 (Tm 17) (Tm 21)), Mv 23 22, Ot 24 23 (.ins (.mv (Tm 4))), Ot 25 23 (.int2 .lss .i64 (Tm 24) (Kn 30)), Oi 26 (.pick (Tm 23) (Tm 25) (Kb false))]) (.cond (Tm 26) (.ops [Oi 27 (.faddr 0 (Tm 1)), Oi 28 (.faddr 0 (Tm 27)), Oi 29 (.load1 (Tm 28)), Mv 30 4, Oi 31 (.iaddrS 1 (Tm 29) (Tm 30)), Oi 32 (.load1 (Tm 31)), Mv 5 32]) .skip)) (.seq (.seq (.ops [Oi 33 (.faddr 0 (Tm 1)), Oi 34 (.faddr 1 (Tm 33)), Oi 35 (.load1 (Tm 34)), Op 36 (.lenS (Tm 35)), Mv 7 36]) (.seq (.ops [Mv 37 7, Op 38 (.int2 .gtr .i64 (Tm 37) (Kn 0))]) (.cond (Tm 38) (.draw #[0, 1, 3, 0, 0, 24, 63, 127, 255] [Oi 39 (.faddr 0 (Tm 1)), Oi 40 (.faddr 1 (Tm 39)), Oi 41 (.load1 (Tm 40)), Mv 42 4, Mv 43 7, Op 44 (.int2 .rem .i64 (Tm 42) (Tm 43)), Oi 45 (.iaddrS 1 (Tm 41) (Tm 44)), Oi 46 (.load1 (Tm 45)), Mv 6 46]) .skip))) (.seq (.ops [Mv 47 5, Mv 48 6, Mv 2 47, Mv 3 48]) .ret))))))), [(.tmp 2), (.tmp 3)]⟩
theorem wdm : trF Try.prog 76 = some wpj := by kernel_rfl
noncomputable def wld (i : Nat) : Code := lp Try.prog 77 i
noncomputable def wtd : RC := (.seq (.ops [Op 10 (.int2 .lss .i64 (Tm 9) (Tm 8))]) (.seq (.cond (Tm 10) .skip (.exit 0)) (.seq (.block 1 (.ops [Mv 11 7, Oi 12 (.loadN 6 (Tm 3)), Mv 13 1, Oi 14 (.call 95 [(Tm 12), (Tm 13)]), Oi 15 (.bslice 47 1 [(.int .i64 0), (.int .i64 0), (.int .i64 0), (.int .i64 0), (.int .u64 0), (.int .u64 0), (.int .u64 0), (.int .u64 0), (.slice none 0 0)] [(0, (9, (Tm 14)))]), Oi 16 (.app 47 9 88 (Tm 11) (Tm 15)), Mv 7 16])) (.ops [Op 17 (.int2 .add .i64 (Tm 9) (Kn 1)), Mv 9 17]))))
theorem wje : trC Try.prog (wld 0) = wtd := by kernel_rfl
noncomputable def wgg : RF := ⟨26, (.seq (.ops [Oi 3 (.box 109 (Tm 0)), Oi 6 (.new [(.int .i64 0), (.int .i64 0), (.int .i64 0), (.int .i64 0), (.int .u64 0), (.int .u64 0), (.int .u64 0), (.int .u64 0), (.slice none 0 0)] 47)]) (.seq (.ops [Oi 7 (.mv (.const (.slice none 0 0)))]) (.seq (.seq (.ops [Mv 8 2, Oi 9 (.mv (Kn 0))]) (.block 0 (.loop (wld 0)))) (.seq (.seq (.ops [Mv 18 7, Op 19 (.lenS (Tm 18)), Op 20 (.int2 .eql .i64 (Tm 19) (Kn 1))]) (.cond (Tm 20) (.seq (.ops [Mv 21 7, Oi 22 (.iaddrS 9 (Tm 21) (Kn 0)), Oi 23 (.loadN 9 (Tm 22)), On (.store 9 (Tm 6) (Tm 23))]) .ret) .skip)) (.seq (.ops [Mv 24 7, Oi 25 (.build [(.int .i64 0), (.int .i64 0), (.int .i64 0), (.int .i64 0), (.int .u64 0), (.int .u64 0), (.int .u64 0), (.int .u64 0), (.slice none 0 0)] [(0, (1, (Kn 2))), (8, (1, (Tm 24)))]), On (.store 9 (Tm 6) (Tm 25))]) .ret))))), [(.cellN 6 9)]⟩
theorem woh : trF Try.prog 77 = some wgg := by kernel_rfl
noncomputable def wac : RF := ⟨105, (.seq (.ops [Oi 2 (.box 109 (Tm 0)), Oi 4 (.new [(.int .i64 0), (.int .i64 0), (.int .i64 0), (.int .i64 0), (.int .u64 0), (.int .u64 0), (.int .u64 0), (.int .u64 0), (.slice none 0 0)] 47)]) (.seq (.ops [Oi 13 (.loadN 6 (Tm 2)), Oi 14 (.call 76 [(Tm 13)]), Mv 12 14, Oi 15 (.ext (Tm 12) 0), Oi 16 (.ext (Tm 12) 1), Mv 5 15, Mv 6 16]) (.seq (.draw #[0, 1, 0, 4, 12, 28, 60, 127, 255] [Oi 17 (.faddr 5 (Tm 2)), Oi 18 (.load1 (Tm 17)), Oi 19 (.faddr 5 (Tm 2)), Oi 20 (.load1 (Tm 19)), Oi 21 (.nilc (Tm 20)), Oi 22 (.load1 (Tm 21)), Op 23 (.int2 .sub .i64 (Tm 22) (Kn 2)), Oi 24 (.nilc (Tm 18)), On (.store 1 (Tm 24) (Tm 23))]) (.seq (.ops [Mv 25 6, Oi 26 (.call 126 [(Tm 25)]), Oi 27 (.build [(.int .i64 0), (.int .i64 0), (.int .i64 0), (.int .i64 0), (.int .u64 0), (.int .u64 0), (.int .u64 0), (.int .u64 0), (.slice none 0 0)] [(0, (1, (Kn 1))), (4, (4, (Tm 26)))]), Oi 7 (.new [(.int .i64 0), (.int .i64 0), (.int .i64 0), (.int .i64 0), (.int .u64 0), (.int .u64 0), (.int .u64 0), (.int .u64 0), (.slice none 0 0)] 47), On (.store 9 (Tm 7) (Tm 27))]) (.seq (.ops [Mv 28 5, Oi 29 (.call 15 [(Tm 28), (Kn 0), (Kn 9)]), Mv 8 29]) (.seq (.seq (.ops [Mv 30 8, Op 31 (.int2 .geq .i64 (Tm 30) (Kn 6)), Mv 32 31, Ot 33 32 (.ins (.faddr 5 (Tm 2))), Ot 34 32 (.ins (.load1 (Tm 33))), Ot 35 32 (.ins (.nilc (Tm 34))), Ot 36 32 (.ins (.load1 (Tm 35))), Ot 37 32 (.int2 .gtr .i64 (Tm 36) (Kn 3)), Oi 38 (.pick (Tm 32) (Tm 37) (Kb false)), Mv 39 38, Ot 40 39 (.ins (.mv (Tm 1))), Ot 41 39 (.int2 .lss .i64 (Tm 40) (Kn 3)), Oi 42 (.pick (Tm 39) (Tm 41) (Kb false)), Mv 43 42, Ot 44 43 (.ins (.faddr 4 (Tm 2))), Ot 45 43 (.ins (.load1 (Tm 44))), Ot 46 43 (.ins (.nilc (Tm 45))), Ot 47 43 (.ins (.load1 (Tm 46))), Ot 48 43 (.int2 .lss .i64 (Tm 47) (Kn 3)), Oi 49 (.pick (Tm 43) (Tm 48) (Kb false))]) (.cond (Tm 49) (.seq (.draw #[0, 1, 0, 4, 12, 28, 60, 127, 255] [Oi 50 (.faddr 4 (Tm 2)), Oi 51 (.load1 (Tm 50)), Oi 52 (.faddr 4 (Tm 2)), Oi 53 (.load1 (Tm 52)), Oi 54 (.nilc (Tm 53)), Oi 55 (.load1 (Tm 54)), Op 56 (.int2 .add .i64 (Tm 55) (Kn 1)), Oi 57 (.nilc (Tm 51)), On (.store 1 (Tm 57) (Tm 56))]) (.seq (.ops [Oi 58 (.faddr 4 (Tm 2)), Oi 59 (.load1 (Tm 58)), Oi 60 (.nilc (Tm 59)), Oi 61 (.load1 (Tm 60)), Mv 9 61]) (.ops [Mv 62 9, Oi 63 (.loadN 6 (Tm 2)), Mv 64 1, Op 65 (.int2 .add .i64 (Tm 64) (Kn 1)), Oi 66 (.call 57 [(Tm 63), (Tm 65)]), Oi 67 (.bslice 47 1 [(.int .i64 0), (.int .i64 0), (.int .i64 0), (.int .i64 0), (.int .u64 0), (.int .u64 0), (.int .u64 0), (.int .u64 0), (.slice none 0 0)] [(0, (9, (Tm 66)))]), Oi 68 (.build [(.int .i64 0), (.int .i64 0), (.int .i64 0), (.int .i64 0), (.int .u64 0), (.int .u64 0), (.int .u64 0), (.int .u64 0), (.slice none 0 0)] [(0, (1, (Kn 5))), (3, (1, (Tm 62))), (8, (1, (Tm 67)))]), On (.store 9 (Tm 7) (Tm 68))]))) (.seq (.ops [Mv 69 8, Op 70 (.int2 .eql .i64 (Tm 69) (Kn 5)), Mv 71 70, Ot 72 71 (.ins (.faddr 4 (Tm 2))), Ot 73 71 (.ins (.load1 (Tm 72))), Ot 74 71 (.ins (.nilc (Tm 73))), Ot 75 71 (.ins (.load1 (Tm 74))), Ot 76 71 (.int2 .gtr .i64 (Tm 75) (Kn 0)), Oi 77 (.pick (Tm 71) (Tm 76) (Kb false))]) (.cond (Tm 77) (.ops [Mv 78 6, Oi 79 (.faddr 4 (Tm 2)), Oi 80 (.load1 (Tm 79)), Oi 81 (.nilc (Tm 80)), Oi 82 (.load1 (Tm 81)), Oi 83 (.call 15 [(Tm 78), (Kn 1), (Tm 82)]), Oi 84 (.build [(.int .i64 0), (.int .i64 0), (.int .i64 0), (.int .i64 0), (.int .u64 0), (.int .u64 0), (.int .u64 0), (.int .u64 0), (.slice none 0 0)] [(0, (1, (Kn 6))), (3, (1, (Tm 83)))]), On (.store 9 (Tm 7) (Tm 84))]) .skip)))) (.seq (.seq (.ops [Mv 85 8, Op 86 (.int2 .and .i64 (Tm 85) (Kn 1)), Op 87 (.int2 .eql .i64 (Tm 86) (Kn 0))]) (.cond (Tm 87) (.seq (.ops [Oi 88 (.loadN 9 (Tm 7)), On (.store 9 (Tm 4) (Tm 88))]) .ret) .skip)) (.seq (.ops [Mv 89 6, Oi 90 (.call 15 [(Tm 89), (Kn 0), (Kn 2)]), Mv 10 90]) (.seq (.ops [Oi 11 (.mv (Kn (-1)))]) (.seq (.seq (.ops [Mv 91 6, Op 92 (.int2 .and .i64 (Tm 91) (Kn 4)), Op 93 (.int2 .eql .i64 (Tm 92) (Kn 4))]) (.cond (Tm 93) (.ops [Mv 94 10, Op 95 (.mm true (Tm 94) [(Kn 1)]), Mv 96 6, Op 97 (.int2 .quo .i64 (Tm 96) (Kn 8)), Oi 98 (.call 15 [(Tm 97), (Kn 0), (Kn 2)]), Op 99 (.int2 .add .i64 (Tm 95) (Tm 98)), Mv 11 99]) .skip)) (.seq (.ops [Mv 100 10, Mv 101 11, Oi 102 (.loadN 9 (Tm 7)), Oi 103 (.bslice 47 1 [(.int .i64 0), (.int .i64 0), (.int .i64 0), (.int .i64 0), (.int .u64 0), (.int .u64 0), (.int .u64 0), (.int .u64 0), (.slice none 0 0)] [(0, (9, (Tm 102)))]), Oi 104 (.build [(.int .i64 0), (.int .i64 0), (.int .i64 0), (.int .i64 0), (.int .u64 0), (.int .u64 0), (.int .u64 0), (.int .u64 0), (.slice none 0 0)] [(0, (1, (Kn 4))), (1, (1, (Tm 100))), (2, (1, (Tm 101))), (8, (1, (Tm 103)))]), On (.store 9 (Tm 4) (Tm 104))]) .ret))))))))))), [(.cellN 4 9)]⟩
theorem wvb : trF Try.prog 95 = some wac := by kernel_rfl
noncomputable def wvc (i : Nat) : Code := lp Try.prog 126 i
noncomputable def wxg : RC := (.seq (.ops [Op 21 (.int2 .lss .i64 (Tm 20) (Kn 256))]) (.seq (.cond (Tm 21) .skip (.exit 1)) (.seq (.block 2 (.seq (.ops [Mv 22 20, Mv 5 22]) (.ops [Mv 23 4, Mv 24 5, Op 25 (.conv .u8 (Tm 24)), Oi 26 (.dyn (Tm 23) [(Tm 25)])]))) (.ops [Op 27 (.int2 .add .i64 (Tm 20) (Kn 1)), Mv 20 27]))))
theorem wmi : trC Try.prog (wvc 0) = wxg := by kernel_rfl
noncomputable def wef : RC := (.seq (.ops [Op 37 (.int2 .lss .i64 (Tm 36) (Kn 256))]) (.seq (.cond (Tm 37) .skip (.exit 3)) (.seq (.block 4 (.seq (.ops [Mv 38 36, Mv 6 38]) (.seq (.ops [Mv 39 6, Op 40 (.int2 .neq .i64 (Tm 39) (Kn 97))]) (.cond (Tm 40) (.ops [Mv 41 4, Mv 42 6, Op 43 (.conv .u8 (Tm 42)), Oi 44 (.dyn (Tm 41) [(Tm 43)])]) .skip)))) (.ops [Op 45 (.int2 .add .i64 (Tm 36) (Kn 1)), Mv 36 45]))))
theorem wxf : trC Try.prog (wvc 1) = wef := by kernel_rfl
noncomputable def wle : RF := ⟨47, (.seq (.ops [Oi 2 (.new [(.int .u64 0), (.int .u64 0), (.int .u64 0), (.int .u64 0)] 44)]) (.seq (.ops [Oi 3 (.new [(.int .u64 0), (.int .u64 0), (.int .u64 0), (.int .u64 0)] 44)]) (.seq (.ops [Oi 7 (.mkfn (.func 146) [] [(Tm 3)]), Mv 4 7]) (.seq (.seq (.ops [Mv 8 0, Op 9 (.int2 .quo .i64 (Tm 8) (Kn 4)), Oi 10 (.call 15 [(Tm 9), (Kn 0), (Kn 5)])]) (.block 0 (.seq (.ops [Op 19 (.int2 .eql .i64 (Tm 10) (Kn 0)), Mv 18 19]) (.cond (Tm 18) (.seq (.ops [Oi 20 (.mv (Kn 0))]) (.block 1 (.loop (wvc 0)))) (.seq (.ops [Op 29 (.int2 .eql .i64 (Tm 10) (Kn 1)), Mv 28 29]) (.cond (Tm 28) (.seq (.ops [Mv 30 4, Oi 31 (.dyn (Tm 30) [(.const (.int .u8 97))])]) (.ops [Mv 32 4, Oi 33 (.dyn (Tm 32) [(.const (.int .u8 98))])])) (.seq (.ops [Op 35 (.int2 .eql .i64 (Tm 10) (Kn 2)), Mv 34 35]) (.cond (Tm 34) (.seq (.ops [Oi 36 (.mv (Kn 0))]) (.block 3 (.loop (wvc 1)))) (.ops [Mv 11 4, Oi 12 (.bslice 5 6 [(.int .u8 0), (.int .u8 0), (.int .u8 0), (.int .u8 0), (.int .u8 0), (.int .u8 0)] [(0, (1, (.const (.int .u8 97)))), (1, (1, (.const (.int .u8 98)))), (2, (1, (.const (.int .u8 99)))), (3, (1, (.const (.int .u8 46)))), (4, (1, (.const (.int .u8 42)))), (5, (1, (.const (.int .u8 10))))]), Mv 13 0, Oi 14 (.call 15 [(Tm 13), (Kn 0), (Kn 5)]), Oi 15 (.iaddrS 1 (Tm 12) (Tm 14)), Oi 16 (.load1 (Tm 15)), Oi 17 (.dyn (Tm 11) [(Tm 16)])]))))))))) (.seq (.ops [Oi 46 (.loadN 4 (Tm 3)), On (.store 4 (Tm 2) (Tm 46))]) .ret))))), [(.cellN 2 4)]⟩
theorem wpe : trF Try.prog 126 = some wle := by kernel_rfl
noncomputable def wbk : RF := ⟨14, (.ops [Mv 3 0, Op 4 (.int2 .quo .u8 (Tm 3) (.const (.int .u8 64))), Mv 5 0, Op 6 (.int2 .quo .u8 (Tm 5) (.const (.int .u8 64))), Oi 7 (.iaddrA 4 1 (Tm 1) (Tm 6)), Oi 8 (.load1 (Tm 7)), Mv 9 0, Op 10 (.int2 .rem .u8 (Tm 9) (.const (.int .u8 64))), Op 11 (.shift .shl (.const (.int .u64 1)) (Tm 10)), Op 12 (.int2 .or .u64 (Tm 8) (Tm 11)), Oi 13 (.iaddrA 4 1 (Tm 1) (Tm 4)), On (.store 1 (Tm 13) (Tm 12))]), []⟩
theorem wxm : trF Try.prog 146 = some wbk := by kernel_rfl
noncomputable def wuh (i : Nat) : Code := lp Try.prog 26 i
noncomputable def wzi : RC := (.seq (.seq (.ops [Mv 7 6, Mv 8 0, Op 9 (.lenS (Tm 8)), Op 10 (.int2 .lss .i64 (Tm 7) (Tm 9)), Mv 11 10, Ot 12 11 (.ins (.mv (Tm 6))), Ot 13 11 (.ins (.mv (Tm 1))), Ot 14 11 (.int2 .lss .i64 (Tm 12) (Tm 13)), Oi 15 (.pick (Tm 11) (Tm 14) (Kb false))]) (.cond (Tm 15) .skip (.exit 0))) (.seq (.block 1 (.ops [Mv 18 5, Oi 19 (.bslice 5 8 [(.int .u8 0), (.int .u8 0), (.int .u8 0), (.int .u8 0), (.int .u8 0), (.int .u8 0), (.int .u8 0), (.int .u8 0)] [(0, (1, (.const (.int .u8 97)))), (1, (1, (.const (.int .u8 98)))), (2, (1, (.const (.int .u8 97)))), (3, (1, (.const (.int .u8 99)))), (4, (1, (.const (.int .u8 98)))), (5, (1, (.const (.int .u8 46)))), (6, (1, (.const (.int .u8 97)))), (7, (1, (.const (.int .u8 32))))]), Mv 20 0, Mv 21 6, Oi 22 (.iaddrS 1 (Tm 20) (Tm 21)), Oi 23 (.load1 (Tm 22)), Oi 24 (.call 15 [(Tm 23), (Kn 0), (Kn 7)]), Oi 25 (.iaddrS 1 (Tm 19) (Tm 24)), Oi 26 (.load1 (Tm 25)), Oi 27 (.bslice 5 1 [(.int .u8 0)] [(0, (1, (Tm 26)))]), Op 28 (.b2s (Tm 27)), Op 29 (.str2 .add (Tm 18) (Tm 28)), Mv 5 29])) (.ops [Mv 16 6, Op 17 (.int2 .add .i64 (Tm 16) (Kn 1)), Mv 6 17])))
theorem wck : trC Try.prog (wuh 0) = wzi := by kernel_rfl
noncomputable def wgn : RF := ⟨31, (.seq (.ops [Oi 4 (.mv (.const (str [])))]) (.seq (.ops [Oi 5 (.mv (.const (str [])))]) (.seq (.seq (.ops [Oi 6 (.mv (Kn 0))]) (.block 0 (.loop (wuh 0)))) (.seq (.ops [Mv 30 5, Mv 4 30]) .ret)))), [(.tmp 4)]⟩
theorem wir : trF Try.prog 26 = some wgn := by kernel_rfl
noncomputable def wwc (i : Nat) : Code := lp Try.prog 11 i
noncomputable def wyg : RC := (.seq (.ops [Op 56 (.int2 .lss .i64 (Tm 55) (Tm 54))]) (.seq (.cond (Tm 56) .skip (.exit 0)) (.seq (.block 1 (.seq (.ops [Oi 57 (.iaddrS 8 (Tm 53) (Tm 55)), Oi 58 (.loadN 8 (Tm 57)), Oi 19 (.new [(.int .i64 0), (.int .i64 0), (.int .i64 0), (.int .i64 0), (.int .i64 0), (.int .i64 0), (.int .i64 0), (.int .i64 0)] 55), On (.store 8 (Tm 19) (Tm 58))]) (.ops [Mv 59 16, Oi 60 (.iaddrA 4 2 (Tm 19) (Kn 0)), Oi 61 (.faddr 1 (Tm 60)), Oi 62 (.load1 (Tm 61)), Op 63 (.int2 .add .i64 (Tm 59) (Tm 62)), Oi 64 (.iaddrA 4 2 (Tm 19) (Kn 0)), Oi 65 (.faddr 0 (Tm 64)), Oi 66 (.load1 (Tm 65)), Op 67 (.int2 .sub .i64 (Tm 63) (Tm 66)), Mv 16 67]))) (.ops [Op 68 (.int2 .add .i64 (Tm 55) (Kn 1)), Mv 55 68]))))
theorem wni : trC Try.prog (wwc 0) = wyg := by kernel_rfl
noncomputable def wff : RC := (.seq (.ops [Op 72 (.int2 .lss .i64 (Tm 71) (Tm 70))]) (.seq (.cond (Tm 72) .skip (.exit 2)) (.seq (.block 3 (.seq (.ops [Mv 73 71, Mv 20 73]) (.seq (.ops [Mv 74 14, Mv 75 20, Op 76 (.sidx (Tm 74) (Tm 75)), Op 77 (.int2 .eql .u8 (Tm 76) (.const (.int .u8 35)))]) (.cond (Tm 77) (.ops [Mv 78 17, Op 79 (.int2 .add .i64 (Tm 78) (Kn 1)), Mv 17 79]) .skip)))) (.ops [Op 80 (.int2 .add .i64 (Tm 71) (Kn 1)), Mv 71 80]))))
theorem wyf : trC Try.prog (wwc 1) = wff := by kernel_rfl
noncomputable def wdi : RF := ⟨132, (.seq (.ops [Oi 3 (.box 41 (Tm 0)), Oi 6 (.mv (Kb false))]) (.seq (.ops [Oi 23 (.loadN 2 (Tm 3)), Mv 24 2, Oi 25 (.call 25 [(Tm 23), (Tm 24)]), Mv 26 1, Oi 27 (.call 26 [(Tm 26), (Kn 9)]), Oi 7 (.new [(.int .i64 0), (.int .i64 0), (.int .i64 0), (.int .i64 0), (.int .u64 0), (.int .u64 0), (.int .u64 0), (.int .u64 0), (.slice none 0 0)] 47), On (.store 9 (Tm 7) (Tm 25)), Mv 8 27]) (.seq (.ops [Oi 28 (.loadN 9 (Tm 7)), Mv 29 8, Oi 30 (.call 27 [(Tm 28), (Tm 29)]), Mv 9 30]) (.seq (.ops [Oi 32 (.loadN 9 (Tm 7)), Oi 33 (.build [(.int .i64 0), (str [])] [(0, (1, (Kn 0)))]), Oi 34 (.bslice 79 1 [(.int .i64 0), (str [])] [(0, (2, (Tm 33)))]), Mv 35 8, Oi 36 (.call 42 [(Tm 32), (Tm 34), (Tm 35), (Kn 0), (Kb true)]), Mv 31 36, Oi 37 (.ext (Tm 31) 0), Oi 38 (.ext (Tm 31) 1), Mv 10 37, Mv 11 38]) (.seq (.ops [Oi 40 (.loadN 9 (Tm 7)), Mv 41 8, Oi 42 (.call 42 [(Tm 40), (.const (.slice none 0 0)), (Tm 41), (Kn 0), (Kb true)]), Mv 39 42, Oi 43 (.ext (Tm 39) 0), Oi 44 (.ext (Tm 39) 1), Mv 12 43, Mv 13 44]) (.seq (.ops [Oi 46 (.loadN 9 (Tm 7)), Oi 47 (.build [(.int .i64 0), (str [])] [(0, (1, (Kn (-1)))), (1, (1, (.const (str [35]))))]), Oi 48 (.bslice 79 1 [(.int .i64 0), (str [])] [(0, (2, (Tm 47)))]), Mv 49 8, Oi 50 (.call 42 [(Tm 46), (Tm 48), (Tm 49), (Kn 0), (Kb true)]), Mv 45 50, Oi 51 (.ext (Tm 45) 0), Oi 52 (.ext (Tm 45) 1), Mv 14 51, Mv 15 52]) (.seq (.ops [Oi 16 (.mv (Kn 0)), Oi 17 (.mv (Kn 0))]) (.seq (.seq (.ops [Mv 53 9, Op 54 (.lenS (Tm 53)), Oi 55 (.mv (Kn 0))]) (.block 0 (.loop (wwc 0)))) (.seq (.seq (.ops [Mv 69 14, Op 70 (.slen (Tm 69)), Oi 71 (.mv (Kn 0))]) (.block 2 (.loop (wwc 1)))) (.seq (.ops [Oi 82 (.loadN 9 (Tm 7)), Mv 83 8, Mv 84 9, Op 85 (.lenS (Tm 84)), Op 86 (.int2 .add .i64 (Tm 85) (Kn 1)), Oi 87 (.call 42 [(Tm 82), (.const (.slice none 0 0)), (Tm 83), (Tm 86), (Kb true)]), Mv 81 87, Oi 88 (.ext (Tm 81) 0), Oi 89 (.ext (Tm 81) 1), Mv 21 88, Mv 22 89]) (.seq (.ops [Mv 90 10, Mv 91 8, Op 92 (.str2 .eql (Tm 90) (Tm 91)), Mv 93 92, Ot 94 93 (.ins (.mv (Tm 11))), Ot 95 93 (.ins (.mv (Tm 9))), Ot 96 93 (.lenS (Tm 95)), Ot 97 93 (.int2 .gtr .i64 (Tm 96) (Kn 0)), Ot 98 93 (.eqb false (Tm 94) (Tm 97)), Oi 99 (.pick (Tm 93) (Tm 98) (Kb false)), Mv 100 99, Ot 101 100 (.ins (.mv (Tm 13))), Ot 102 100 (.ins (.mv (Tm 11))), Ot 103 100 (.eqb false (Tm 101) (Tm 102)), Oi 104 (.pick (Tm 100) (Tm 103) (Kb false)), Mv 105 104, Ot 106 105 (.ins (.mv (Tm 15))), Ot 107 105 (.ins (.mv (Tm 11))), Ot 108 105 (.eqb false (Tm 106) (Tm 107)), Oi 109 (.pick (Tm 105) (Tm 108) (Kb false)), Mv 110 109, Ot 111 110 (.ins (.mv (Tm 12))), Ot 112 110 (.slen (Tm 111)), Ot 113 110 (.ins (.mv (Tm 8))), Ot 114 110 (.slen (Tm 113)), Ot 115 110 (.ins (.mv (Tm 16))), Ot 116 110 (.int2 .sub .i64 (Tm 114) (Tm 115)), Ot 117 110 (.int2 .eql .i64 (Tm 112) (Tm 116)), Oi 118 (.pick (Tm 110) (Tm 117) (Kb false)), Mv 119 118, Ot 120 119 (.ins (.mv (Tm 17))), Ot 121 119 (.ins (.mv (Tm 9))), Ot 122 119 (.lenS (Tm 121)), Ot 123 119 (.int2 .eql .i64 (Tm 120) (Tm 122)), Oi 124 (.pick (Tm 119) (Tm 123) (Kb false)), Mv 125 124, Ot 126 125 (.ins (.mv (Tm 22))), Ot 127 125 (.un .not (Tm 126)), Oi 128 (.pick (Tm 125) (Tm 127) (Kb false)), Mv 129 128, Ot 130 129 (.ins (.call 43 [])), Oi 131 (.pick (Tm 129) (Tm 130) (Kb false)), Mv 6 131]) .ret))))))))))), [(.tmp 6)]⟩
theorem wqj : trF Try.prog 11 = some wdi := by kernel_rfl
noncomputable def whj (i : Nat) : Code := lp Try.prog 42 i
noncomputable def woi : RC := (.seq (.ops [Op 39 (.int2 .lss .i64 (Tm 38) (Tm 37))]) (.seq (.cond (Tm 39) .skip (.exit 0)) (.seq (.block 1 (.seq (.ops [Oi 40 (.iaddrS 8 (Tm 36) (Tm 38)), Oi 41 (.loadN 8 (Tm 40)), Oi 17 (.new [(.int .i64 0), (.int .i64 0), (.int .i64 0), (.int .i64 0), (.int .i64 0), (.int .i64 0), (.int .i64 0), (.int .i64 0)] 55), On (.store 8 (Tm 17) (Tm 41))]) (.seq (.ops [Mv 42 2, Mv 43 15, Oi 44 (.iaddrA 4 2 (Tm 17) (Kn 0)), Oi 45 (.faddr 0 (Tm 44)), Oi 46 (.load1 (Tm 45)), Op 47 (.ssl (Tm 42) (some (Tm 43)) (some (Tm 46))), Oi 48 (.call 52 [(Tm 14), (Tm 47)])]) (.seq (.ops [Mv 49 1, Oi 50 (.loadN 8 (Tm 17)), Mv 51 2, Oi 52 (.call 45 [(Tm 49), (Tm 50), (Tm 51)]), Oi 53 (.call 52 [(Tm 14), (Tm 52)])]) (.ops [Oi 54 (.iaddrA 4 2 (Tm 17) (Kn 0)), Oi 55 (.faddr 1 (Tm 54)), Oi 56 (.load1 (Tm 55)), Mv 15 56]))))) (.ops [Op 57 (.int2 .add .i64 (Tm 38) (Kn 1)), Mv 38 57]))))
theorem wvh : trC Try.prog (whj 0) = woi := by kernel_rfl
noncomputable def weq : RF := ⟨66, (.seq (.ops [Oi 5 (.box 47 (Tm 0)), Oi 10 (.mv (.const (str []))), Oi 11 (.mv (Kb false))]) (.seq (.ops [Oi 18 (.loadN 9 (Tm 5)), Mv 19 2, Oi 20 (.call 27 [(Tm 18), (Tm 19)]), Mv 12 20]) (.seq (.ops [Mv 21 3, Op 22 (.mm true (Tm 21) [(Kn 1)]), Op 23 (.int2 .sub .i64 (Tm 22) (Kn 1)), Mv 13 23]) (.seq (.seq (.ops [Mv 24 13, Mv 25 12, Op 26 (.lenS (Tm 25)), Op 27 (.int2 .geq .i64 (Tm 24) (Tm 26))]) (.cond (Tm 27) (.seq (.ops [Mv 28 2, Mv 10 28, Oi 11 (.mv (Kb false))]) .ret) .skip)) (.seq (.ops [Mv 29 12, Mv 30 13, Op 31 (.slS 8 (Tm 29) (some (Tm 30)) none none), Mv 12 31]) (.seq (.seq (.ops [Mv 32 4, Op 33 (.un .not (Tm 32))]) (.cond (Tm 33) (.ops [Mv 34 12, Op 35 (.slS 8 (Tm 34) none (some (Kn 1)) none), Mv 12 35]) .skip)) (.seq (.ops [Oi 14 (.new [(.pointer none), (.slice none 0 0)] 98)]) (.seq (.ops [Oi 15 (.mv (Kn 0))]) (.seq (.seq (.ops [Mv 36 12, Op 37 (.lenS (Tm 36)), Oi 38 (.mv (Kn 0))]) (.block 0 (.loop (whj 0)))) (.seq (.ops [Mv 58 2, Mv 59 15, Op 60 (.ssl (Tm 58) (some (Tm 59)) none), Oi 61 (.call 52 [(Tm 14), (Tm 60)])]) (.seq (.seq (.ops [Oi 62 (.call 66 [(Tm 14)]), Op 63 (.int2 .gtr .i64 (Tm 62) (Kn 400))]) (.cond (Tm 63) (.seq (.ops [Mv 64 2, Mv 10 64, Oi 11 (.mv (Kb false))]) .ret) .skip)) (.seq (.ops [Oi 65 (.call 53 [(Tm 14)]), Mv 10 65, Oi 11 (.mv (Kb true))]) .ret)))))))))))), [(.tmp 10), (.tmp 11)]⟩
theorem wfq : trF Try.prog 42 = some weq := by kernel_rfl
noncomputable def wxl (i : Nat) : Code := lp Try.prog 45 i
noncomputable def wrj : RC := (.seq (.ops [Op 13 (.int2 .lss .i64 (Tm 12) (Tm 11))]) (.seq (.cond (Tm 13) .skip (.exit 0)) (.seq (.block 1 (.seq (.ops [Oi 14 (.iaddrS 2 (Tm 10) (Tm 12)), Oi 15 (.loadN 2 (Tm 14)), Oi 9 (.new [(.int .i64 0), (str [])] 79), On (.store 2 (Tm 9) (Tm 15))]) (.seq (.ops [Oi 16 (.faddr 0 (Tm 9)), Oi 17 (.load1 (Tm 16)), Op 18 (.int2 .eql .i64 (Tm 17) (Kn (-1)))]) (.cond (Tm 18) (.ops [Oi 19 (.faddr 1 (Tm 9)), Oi 20 (.load1 (Tm 19)), Oi 21 (.call 52 [(Tm 7), (Tm 20)])]) (.ops [Oi 22 (.loadN 8 (Tm 4)), Mv 23 2, Oi 24 (.faddr 0 (Tm 9)), Oi 25 (.load1 (Tm 24)), Oi 26 (.call 31 [(Tm 22), (Tm 23), (Tm 25)]), Oi 27 (.call 52 [(Tm 7), (Tm 26)])]))))) (.ops [Op 28 (.int2 .add .i64 (Tm 12) (Kn 1)), Mv 12 28]))))
theorem wvi : trC Try.prog (wxl 0) = wrj := by kernel_rfl
noncomputable def wiz : RF := ⟨30, (.seq (.ops [Oi 4 (.box 55 (Tm 1)), Oi 6 (.mv (.const (str [])))]) (.seq (.ops [Oi 7 (.new [(.pointer none), (.slice none 0 0)] 98)]) (.seq (.seq (.ops [Mv 10 0, Op 11 (.lenS (Tm 10)), Oi 12 (.mv (Kn 0))]) (.block 0 (.loop (wxl 0)))) (.seq (.ops [Oi 29 (.call 53 [(Tm 7)]), Mv 6 29]) .ret)))), [(.tmp 6)]⟩
theorem wuab : trF Try.prog 45 = some wiz := by kernel_rfl
noncomputable def wsc : RF := ⟨19, (.seq (.ops [Oi 4 (.mv (Kn 0)), Oi 5 (.mv (.const .nilIface))]) (.seq (.ops [Mv 6 0, Oi 7 (.call 71 [(Tm 6)])]) (.seq (.ops [Mv 8 0, Mv 9 0, Oi 10 (.nilc (Tm 9)), Oi 11 (.faddr 1 (Tm 10)), Oi 12 (.load1 (Tm 11)), Mv 13 1, Oi 14 (.app 5 1 1 (Tm 12) (Tm 13)), Oi 15 (.nilc (Tm 8)), Oi 16 (.faddr 1 (Tm 15)), On (.store 1 (Tm 16) (Tm 14))]) (.seq (.ops [Mv 17 1, Op 18 (.slen (Tm 17)), Mv 4 18, Oi 5 (.mv (.const .nilIface))]) .ret)))), [(.tmp 4), (.tmp 5)]⟩
theorem wzc : trF Try.prog 52 = some wsc := by kernel_rfl
noncomputable def wzf : RF := ⟨14, (.seq (.ops [Oi 2 (.mv (.const (str [])))]) (.seq (.draw #[0, 1, 3, 7, 15, 0, 32, 96, 224, 480, 1023, 2047] [Mv 3 0, Oi 4 (.nilc (Tm 3)), Oi 5 (.faddr 1 (Tm 4)), Oi 6 (.load1 (Tm 5)), Oi 7 (.usd (Tm 6)), Mv 8 0, Oi 9 (.nilc (Tm 8)), Oi 10 (.faddr 1 (Tm 9)), Oi 11 (.load1 (Tm 10)), Op 12 (.lenS (Tm 11)), Oi 13 (.ustr 5 (Tm 7) (Tm 12)), Mv 2 13]) .ret)), [(.tmp 2)]⟩
theorem wfh : trF Try.prog 53 = some wzf := by kernel_rfl
noncomputable def wzg : RF := ⟨8, (.seq (.ops [Oi 2 (.mv (Kn 0))]) (.seq (.ops [Mv 3 0, Oi 4 (.nilc (Tm 3)), Oi 5 (.faddr 1 (Tm 4)), Oi 6 (.load1 (Tm 5)), Op 7 (.lenS (Tm 6)), Mv 2 7]) .ret)), [(.tmp 2)]⟩
theorem wpi : trF Try.prog 66 = some wzg := by kernel_rfl
noncomputable def wnd : RF := ⟨20, (.seq (.ops [Mv 2 0, Oi 3 (.nilc (Tm 2)), Oi 4 (.faddr 0 (Tm 3)), Oi 5 (.load1 (Tm 4)), Oi 6 (.ref false (.pointer 98) (Tm 5) (.const (.pointer none)))]) (.cond (Tm 6) (.ops [Mv 7 0, Mv 8 0, Op 9 (.topu (Tm 8)), Mv 10 9, Op 11 (.frpu 98 (Tm 10)), Oi 12 (.nilc (Tm 7)), Oi 13 (.faddr 0 (Tm 12)), On (.store 1 (Tm 13) (Tm 11))]) (.seq (.ops [Mv 14 0, Oi 15 (.nilc (Tm 14)), Oi 16 (.faddr 0 (Tm 15)), Oi 17 (.load1 (Tm 16)), Mv 18 0, Oi 19 (.ref true (.pointer 98) (Tm 17) (Tm 18))]) (.cond (Tm 19) .bad .skip)))), []⟩
theorem wzd : trF Try.prog 71 = some wnd := by kernel_rfl
end Go.Proofs.Ytdbhfmdndiphcaa
namespace Go.Den
noncomputable section
def wd (s : BitVec 256) (i : Nat) : BitVec 64 := s.extractLsb' (64 * i) 64
abbrev wdV (s : BitVec 256) (i : Nat) : Value := .int .u64 ((wd s i).toNat : Nat)
def setC (s : BitVec 256) : List Value := [wdV s 0, wdV s 1, wdV s 2, wdV s 3]
def setV (s : BitVec 256) : Value := .agg ⟨setC s⟩
theorem wnpb (s : BitVec 256) {i : Nat} (h : i < 4) : (setC s)[i]? = some (wdV s i) := by
  match i, h with
  | 0, _ => rfl
  | 1, _ => rfl
  | 2, _ => rfl
  | 3, _ => rfl
theorem wjz (s : BitVec 256) : (setC s).length = 4 := eq_of_heq HEq.rfl
theorem wkz (s : BitVec 256) (i j : Nat) : (wd s i).getLsbD j = (decide (j < 64) && s.getLsbD (64 * i + j)) := by
  unfold wd
  rw [BitVec.getLsbD_extractLsb']
theorem wd_ext {s t : BitVec 256} (h : ∀ i, i < 4 → wd s i = wd t i) : s = t := by
  apply BitVec.eq_of_getLsbD_eq
  intro j hj
  have h1 := wkz s (j / 64) (j % 64)
  have h2 := wkz t (j / 64) (j % 64)
  rw [h (j / 64) (by omega)] at h1
  rw [h1] at h2
  have e : 64 * (j / 64) + j % 64 = j := by omega
  have e2 : decide (j % 64 < 64) = true := decide_eq_true (by omega)
  rw [e, e2, Bool.true_and, Bool.true_and] at h2
  exact h2
def cat4 (a b c d : BitVec 64) : BitVec (64 + 64 + 64 + 64) := a ++ b ++ c ++ d
theorem cat4_bit (a b c d : BitVec 64) (j : Nat) : (cat4 a b c d).getLsbD j = if j < 64 then d.getLsbD j else if j - 64 < 64 then c.getLsbD (j - 64) else if j - 64 - 64 < 64 then b.getLsbD (j - 64 - 64) else a.getLsbD (j - 64 - 64 - 64) := by
  unfold cat4
  rw [BitVec.getLsbD_append, BitVec.getLsbD_append, BitVec.getLsbD_append]
def ofWd (f : Nat → BitVec 64) : BitVec 256 := (cat4 (f 3) (f 2) (f 1) (f 0)).cast (by decide)
theorem wqdc (f : Nat → BitVec 64) {i : Nat} (h : i < 4) : wd (ofWd f) i = f i := by
  apply BitVec.eq_of_getLsbD_eq
  intro j hj
  rw [wkz, decide_eq_true hj, Bool.true_and]
  unfold ofWd
  rw [BitVec.getLsbD_cast, cat4_bit]
  rcases (show i = 0 ∨ i = 1 ∨ i = 2 ∨ i = 3 by omega) with rfl | rfl | rfl | rfl
  · rw [if_pos (by omega), show 64 * 0 + j = j by omega]
  · rw [if_neg (by omega), if_pos (by omega), show 64 * 1 + j - 64 = j by omega]
  · rw [if_neg (by omega), if_neg (by omega), if_pos (by omega), show 64 * 2 + j - 64 - 64 = j by omega]
  · rw [if_neg (by omega), if_neg (by omega), if_neg (by omega), show 64 * 3 + j - 64 - 64 - 64 = j by omega]
def setWd (s : BitVec 256) (i : Nat) (w : BitVec 64) : BitVec 256 := ofWd fun k => if k = i then w else wd s k
theorem setC_set (s : BitVec 256) {i : Nat} (h : i < 4) (w : BitVec 64) : (setC s).set i (.int .u64 (w.toNat : Nat)) = setC (setWd s i w) := by
  have hw : ∀ k, k < 4 → wd (setWd s i w) k = if k = i then w else wd s k := fun k hk => wqdc _ hk
  unfold setC wdV
  rw [hw 0 (by omega), hw 1 (by omega), hw 2 (by omega), hw 3 (by omega)]
  generalize wd s 0 = a
  generalize wd s 1 = b
  generalize wd s 2 = c
  generalize wd s 3 = d
  rcases (show i = 0 ∨ i = 1 ∨ i = 2 ∨ i = 3 by omega) with rfl | rfl | rfl | rfl <;> simp
theorem wlo (v : BitVec 64) : BitVec.ofInt (IntKind.bits .u64) ((v.toNat : Nat) : Int) = v := by
  show BitVec.ofInt 64 _ = v
  apply BitVec.eq_of_toNat_eq
  simp
theorem and_u64 (v u : BitVec 64) : IntKind.wrap .u64 ((BitVec.ofInt (IntKind.bits .u64) ((v.toNat : Nat) : Int) &&& BitVec.ofInt (IntKind.bits .u64) ((u.toNat : Nat) : Int)).toNat : Int) = ((v &&& u).toNat : Nat) := by
  rw [wlo, wlo]
  exact wrap_u64 (by omega) (by have := (v &&& u).isLt; show ((v &&& u).toNat : Int) ≤ _; omega)
theorem or_u64 (v u : BitVec 64) : IntKind.wrap .u64 ((BitVec.ofInt (IntKind.bits .u64) ((v.toNat : Nat) : Int) ||| BitVec.ofInt (IntKind.bits .u64) ((u.toNat : Nat) : Int)).toNat : Int) = ((v ||| u).toNat : Nat) := by
  rw [wlo, wlo]
  exact wrap_u64 (by omega) (by have := (v ||| u).isLt; show ((v ||| u).toNat : Int) ≤ _; omega)
theorem shr_u64 (v : BitVec 64) {b : Int} (h1 : 0 ≤ b) (h2 : b < 64) : Int.fdiv ((v.toNat : Nat) : Int) (2 ^ (min b.toNat (IntKind.bits .u64))) = ((v >>> b.toNat).toNat : Nat) := by
  have hm : min b.toNat (IntKind.bits .u64) = b.toNat := by show min b.toNat 64 = _; omega
  rw [hm, BitVec.toNat_ushiftRight, Nat.shiftRight_eq_div_pow]
  have e2 : ((2 : Int) ^ b.toNat) = ((2 ^ b.toNat : Nat) : Int) := by rw [Int.natCast_pow]; rfl
  rw [e2, Int.fdiv_eq_ediv_of_nonneg _ (Int.natCast_nonneg _), Int.natCast_ediv]
theorem shl_u64 {b : Int} (h1 : 0 ≤ b) (h2 : b < 64) : IntKind.wrap .u64 (1 * 2 ^ (min b.toNat (IntKind.bits .u64))) = ((1#64 <<< b.toNat).toNat : Nat) := by
  have hm : min b.toNat (IntKind.bits .u64) = b.toNat := by show min b.toNat 64 = _; omega
  have hlt : (2 ^ b.toNat : Nat) < 2 ^ 64 := Nat.pow_lt_pow_right (by omega) (by omega)
  have e2 : ((2 : Int) ^ b.toNat) = ((2 ^ b.toNat : Nat) : Int) := by rw [Int.natCast_pow]; rfl
  rw [BitVec.toNat_shiftLeft, Nat.shiftLeft_eq, show (1#64).toNat = 1 from rfl, Nat.one_mul, Nat.mod_eq_of_lt hlt]
  rw [hm, Int.one_mul, e2]
  generalize (2 ^ b.toNat : Nat) = m at *
  exact wrap_u64 (by omega) (by omega)
theorem bit_one (v : BitVec 64) (n : Nat) : decide ((((v >>> n) &&& 1#64).toNat : Int) = 1) = v.getLsbD n := by
  have h : ((v >>> n) &&& 1#64).toNat = if v.getLsbD n then 1 else 0 := by
    rw [BitVec.toNat_and, BitVec.toNat_ushiftRight, show (1#64).toNat = 1 from rfl, Nat.and_one_is_mod, Nat.shiftRight_eq_div_pow, BitVec.getLsbD, Nat.testBit_eq_decide_div_mod_eq]
    by_cases hq : v.toNat / 2 ^ n % 2 = 1
    · simp [hq]
    · simp [hq]; omega
  rw [h]
  cases v.getLsbD n <;> rfl
def one (x : Nat) : BitVec 256 := 1#256 <<< x
theorem one_bit (x j : Nat) : (one x).getLsbD j = (decide (j < 256) && decide (j = x)) := by
  unfold one
  rw [BitVec.getLsbD_shiftLeft, BitVec.getLsbD_one]
  by_cases h1 : j < 256 <;> by_cases h2 : j = x <;> by_cases h3 : j < x <;> simp [h1, h2, h3] <;> omega
theorem or_one (s : BitVec 256) (x : Nat) (hx : x < 256) : setWd s (x / 64) (wd s (x / 64) ||| (1#64 <<< (x % 64))) = s ||| one x := by
  apply wd_ext
  intro i hi
  rw [setWd, wqdc _ hi]
  apply BitVec.eq_of_getLsbD_eq
  intro j hj
  rw [wkz, decide_eq_true hj, Bool.true_and, BitVec.getLsbD_or, one_bit]
  have h256 : decide (64 * i + j < 256) = true := decide_eq_true (by omega)
  rw [h256, Bool.true_and]
  by_cases h : i = x / 64
  · rw [if_pos h, BitVec.getLsbD_or, wkz, decide_eq_true hj, Bool.true_and, ← h]
    congr 1
    rw [BitVec.getLsbD_shiftLeft, BitVec.getLsbD_one]
    by_cases h2 : j = x % 64
    · have : 64 * i + j = x := by omega
      simp [this, h2]; omega
    · have h3 : ¬ (64 * i + j = x) := by omega
      by_cases h4 : j < x % 64
      · simp [h3, h4]
      · have : ¬ (j - x % 64 = 0) := by omega
        simp [h3, h4, this]
  · rw [if_neg h, wkz, decide_eq_true hj, Bool.true_and]
    have h3 : ¬ (64 * i + j = x) := by omega
    simp [h3]
theorem has_bit (s : BitVec 256) (x : Nat) (hx : x < 256) : (wd s (x / 64)).getLsbD (x % 64) = s.getLsbD x := by
  rw [wkz, decide_eq_true (by omega), Bool.true_and]
  congr 1
  omega
theorem wlz (s : BitVec 256) : wcg [.int .u64, .int .u64, .int .u64, .int .u64] (setC s) = true := rfl
theorem eqL_setC (s t : BitVec 256) : eqL (setC s) (setC t) = decide (s = t) := by
  have h : eqL (setC s) (setC t) = true ↔ s = t := by
    constructor
    · intro h
      simp only [eqL, setC, wwy, Bool.and_eq_true, beq_iff_eq, Bool.and_true] at h
      apply wd_ext
      intro i hi
      apply BitVec.eq_of_toNat_eq
      rcases (show i = 0 ∨ i = 1 ∨ i = 2 ∨ i = 3 by omega) with rfl | rfl | rfl | rfl <;> omega
    · rintro rfl
      simp [eqL, setC, wwy]
  by_cases hq : s = t
  · rw [decide_eq_true hq]; exact h.2 hq
  · rw [decide_eq_false hq]
    cases he : eqL (setC s) (setC t) with
    | false => rfl
    | true => exact absurd (h.1 he) hq
theorem SlA.ints {P : Program} {h : List ABlk} {i : Nat} {v : Value} {vs : List Value} {elem : TypeId} {frz : Nat} {a a' : List Value} {fr : Frs} (hb : h[i]? = some (X (v :: vs) elem frz true)) (hs : tsz P elem = 1) (hr : wtb (v :: vs) = true) (t : SlA P h a a' fr) :
    SlA P h (.slice (some ⟨i, 0, none⟩) (vs.length + 1) (vs.length + 1 + 1) :: a) (FL (vs.length + 1) (v :: vs) :: a') ((i, (vs.length + 1) * 1) :: fr) := by
  have h1 := SlA.row (P := P) (h := h) (i := i) (n := vs.length) (c := vs.length + 1) hb hs (by omega) (Nat.le_refl _) (by simp) (by rw [waq (by simp)]; exact hr) t
  rw [waq (by simp)] at h1
  exact h1
theorem wrdc (a b : BitVec 256) : eqcV true [.int .u64, .int .u64, .int .u64, .int .u64] (setV a) (setV b) = val (.bool (decide (a ≠ b))) := by
  rw [setV, setV, neq_agg (wlz a) (wlz b), eqL_setC, decide_not]
end
end Go.Den
namespace Go.Den
noncomputable section
def RowSt (elem size : Nat) (l : List ABlk) (v : Value) (n : Nat) (cs : List Value) : Prop :=
  (v = .slice none 0 0 ∧ n = 0 ∧ cs = []) ∨ ∃ t, v = FO t n cs ∧ l[t]? = some (.tok n elem size) ∧ cs.length = n * size ∧ 0 < n
theorem RowSt.sl {elem size n : Nat} {l : List ABlk} {v : Value} {cs : List Value} (h : RowSt elem size l v n cs) : Sl 0 v (FL n cs) := by
  rcases h with ⟨rfl, rfl, rfl⟩ | ⟨t, rfl, _, _, _⟩
  · exact Sl.nilS
  · exact Sl.fo t _ cs
theorem RowSt.jk {elem size n : Nat} {l : List ABlk} {v : Value} {cs : List Value} (h : RowSt elem size l v n cs) : isJK v = false := by
  rcases h with ⟨rfl, _⟩ | ⟨t, rfl, _⟩
  · rfl
  · exact wulb
end
end Go.Den
namespace Go.Den
noncomputable section
theorem over_all {l m : List Value} (h : m.length = l.length) : wm l 0 m = m := by
  have key : ∀ (m l : List Value) (a : List Value), m.length = l.length → wm (a ++ l) a.length m = a ++ m := by
    intro m
    induction m with
    | nil => intro l a h; have := List.eq_nil_of_length_eq_zero h.symm; subst this; rfl
    | cons v r ih =>
      intro l a h
      cases l with
      | nil => simp at h
      | cons w l =>
        simp only [List.length_cons, Nat.add_right_cancel_iff] at h
        show wm ((a ++ w :: l).set a.length v) (a.length + 1) r = _
        have e : (a ++ w :: l).set a.length v = (a ++ [v]) ++ l := by simp
        rw [e, show a.length + 1 = (a ++ [v]).length by simp, ih l (a ++ [v]) h]
        simp
  exact key m l [] h
theorem woib {a : Value} {l m : List Value} {k : Nat} : wm (a :: l) (k + 1) m = a :: wm l k m := by
  induction m generalizing l k with
  | nil => rfl
  | cons v r ih => show wm ((a :: l).set (k + 1) v) (k + 1 + 1) r = _; rw [List.set_cons_succ, ih]; rfl
theorem wbvb {a : Value} {l m : List Value} {k : Nat} : wm (a :: l) (1 + k) m = a :: wm l k m := by rw [Nat.add_comm]; exact woib
theorem wcvb {a : Value} {l : List Value} {k n : Nat} : slotsOf (a :: l) (k + 1) n = slotsOf l k n := rfl
theorem wxmb {a : Value} {l : List Value} {k n : Nat} : slotsOf (a :: l) (1 + k) n = slotsOf l k n := by rw [Nat.add_comm]; rfl
theorem slots_0 {a : Value} {l : List Value} {n : Nat} : slotsOf (a :: l) 0 (n + 1) = a :: slotsOf l 0 n := rfl
theorem slots_00 {l : List Value} {k : Nat} : slotsOf l k 0 = [] := by simp [slotsOf]
theorem wyw {α : Type} {enc : α → List Value} {k : Nat} (hk : ∀ a, (enc a).length = k) (l : List α) : (l.flatMap enc).length = l.length * k := by
  induction l with
  | nil => simp
  | cons a l ih => rw [List.flatMap_cons, List.length_append, hk, ih, List.length_cons, Nat.add_mul]; omega
theorem wcu {α : Type} {enc : α → List Value} {k : Nat} (hk : ∀ a, (enc a).length = k) (d : α) : ∀ (l : List α) (i : Nat), i < l.length → slotsOf (l.flatMap enc) (i * k) k = enc (l.getD i d) := by
  intro l
  induction l with
  | nil => intro i h; cases h
  | cons a l ih =>
    intro i h
    cases i with
    | zero =>
      rw [List.flatMap_cons, Nat.zero_mul]
      show ((enc a ++ l.flatMap enc).drop 0).take k = enc a
      rw [List.drop_zero, List.take_append_of_le_length (by rw [hk]; exact Nat.le_refl _), List.take_of_length_le (by rw [hk]; exact Nat.le_refl _)]
    | succ i =>
      have := ih i (by simpa using h)
      rw [show (a :: l).getD (i + 1) d = l.getD i d by simp, ← this, List.flatMap_cons]
      show ((enc a ++ l.flatMap enc).drop ((i + 1) * k)).take k = _
      rw [show (i + 1) * k = (enc a).length + i * k by rw [hk, Nat.add_mul]; omega, List.drop_append, List.drop_of_length_le (by omega), List.nil_append]
      congr 2
      omega
theorem wdu {α : Type} {enc : α → List Value} (hk : ∀ a, wwe (enc a) = true) (l : List α) : wwe (l.flatMap enc) = true := by
  induction l with
  | nil => rfl
  | cons a l ih => rw [List.flatMap_cons, wbib, hk, ih]; rfl
abbrev Mt := { l : List Int // l.length = 8 }
def mtC (m : Mt) : List Value := m.1.map (Value.int .i64)
def Mt.at (m : Mt) (i : Nat) : Int := m.1.getD i 0
def Mt.put (m : Mt) (i : Nat) (a : Int) : Mt := ⟨m.1.set i a, by rw [List.length_set]; exact m.2⟩
theorem wcw {m : Mt} : (mtC m).length = 8 := by rw [mtC, List.length_map, m.2]
theorem wsdc {m : Mt} {i : Nat} (h : i < 8) : (mtC m)[i]? = some (.int .i64 (m.at i)) := by
  rw [mtC, List.getElem?_map, Mt.at, List.getD_eq_getElem?_getD, List.getElem?_eq_getElem (by rw [m.2]; exact h)]
  rfl
theorem wtdc {m : Mt} {i : Nat} {a : Int} : (mtC m).set i (.int .i64 a) = mtC (m.put i a) := by
  rw [mtC, mtC, Mt.put, List.map_set]
theorem wymb {m : Mt} : wwe (mtC m) = true := by
  rw [wrac]
  intro v hv
  simp only [mtC, List.mem_map] at hv
  obtain ⟨x, _, rfl⟩ := hv
  rfl
theorem wudc {m : Mt} {i : Nat} (h : i + 2 ≤ 8) : slotsOf (mtC m) i 2 = [.int .i64 (m.at i), .int .i64 (m.at (i + 1))] := by
  apply List.ext_getElem?
  intro j
  rw [slotsOf, List.getElem?_take]
  split
  · rw [List.getElem?_drop]
    rcases (show j = 0 ∨ j = 1 by omega) with rfl | rfl
    · rw [wsdc (by omega)]; rfl
    · rw [wsdc (by omega)]; rfl
  · match j with
    | 0 => omega
    | 1 => omega
    | j + 2 => rfl
theorem wvdc {m : Mt} : slotsOf (mtC m) 0 8 = mtC m := waq wcw
theorem wdvb (l : List Int) : wsm (l.map (Value.int .i64)) = true := by
  induction l with
  | nil => rfl
  | cons a l ih => rw [List.map_cons, war, ih]; rfl
theorem mt_flat {m : Mt} : wsm (mtC m) = true := wdvb _
theorem wxe (m : Mt) : FzL (mtC m) := fzl wymb
theorem ints_eq : ∀ (a b : List Int), a.length = b.length → (eqL (a.map (Value.int .i64)) (b.map (Value.int .i64)) = true ↔ a = b) := by
  intro a
  induction a with
  | nil => intro b h; cases b with | nil => simp [eqL] | cons x b => cases h
  | cons x a ih =>
    intro b h
    cases b with
    | nil => cases h
    | cons y b =>
      simp only [List.length_cons, Nat.add_right_cancel_iff] at h
      simp only [List.map_cons, eqL, wwy, Bool.and_eq_true, beq_iff_eq, ih b h, List.cons.injEq]
theorem wwdc : ∀ (a : List Int), wcg (List.replicate a.length (AK.int .i64)) (a.map (Value.int .i64)) = true := by
  intro a
  induction a with
  | nil => rfl
  | cons x a ih => simp only [List.length_cons, List.replicate_succ, List.map_cons, wcg, ih]; rfl
theorem wxdc {m : Mt} : wcg [.int .i64, .int .i64, .int .i64, .int .i64, .int .i64, .int .i64, .int .i64, .int .i64] (mtC m) = true := by
  have := wwdc m.1
  rw [m.2] at this
  exact this
theorem mt_eqL {m n : Mt} : eqL (mtC m) (mtC n) = decide (m = n) := by
  have h := ints_eq m.1 n.1 (by rw [m.2, n.2])
  by_cases hq : m = n
  · rw [decide_eq_true hq]; exact h.2 (by rw [hq])
  · rw [decide_eq_false hq]
    cases he : eqL (mtC m) (mtC n) with
    | false => rfl
    | true => exact absurd (Subtype.ext (h.1 he)) hq
abbrev St := Int × Mt
def Mt.zero : Mt := ⟨[0, 0, 0, 0, 0, 0, 0, 0], rfl⟩
def St.zero : St := (0, Mt.zero)
def stC (s : St) : List Value := .int .i64 s.1 :: mtC s.2
theorem wpib {s : St} : (stC s).length = 9 := by rw [stC, List.length_cons, wcw]
theorem wzmb {s : St} : wwe (stC s) = true := by rw [stC, wlv, wymb]; rfl
theorem wmw (s : St) : FzL (stC s) := fzl wzmb
theorem wydc {s : St} : wsm (stC s) = true := by rw [stC, war, mt_flat]; rfl
theorem st_get0 {s : St} : (stC s)[0]? = some (.int .i64 s.1) := rfl
theorem wzdc {s : St} : slotsOf (stC s) 1 8 = mtC s.2 := wvdc
theorem waec {s : St} {k n : Nat} : slotsOf (stC s) (1 + k) n = slotsOf (mtC s.2) k n := wxmb
theorem st_set0 {s : St} {a : Int} : (stC s).set 0 (.int .i64 a) = stC (a, s.2) := rfl
theorem st_over1 {s : St} {k : Nat} {m : List Value} : wm (stC s) (1 + k) m = .int .i64 s.1 :: wm (mtC s.2) k m := wbvb
theorem st_fold {a : Int} {m : Mt} : (Value.int .i64 a :: mtC m) = stC (a, m) := rfl
theorem wanb {s : St} : wcg [.int .i64, .int .i64, .int .i64, .int .i64, .int .i64, .int .i64, .int .i64, .int .i64, .int .i64] (stC s) = true := by
  rw [stC]; show (true && wcg _ (mtC s.2)) = true; rw [wxdc]; rfl
theorem st_eqL {s t : St} : eqL (stC s) (stC t) = decide (s = t) := by
  obtain ⟨a, m⟩ := s
  obtain ⟨b, n⟩ := t
  show ((a == b) && eqL (mtC m) (mtC n)) = _
  rw [mt_eqL]
  by_cases h1 : a = b <;> by_cases h2 : m = n <;> simp [h1, h2]
def stsC (l : List St) : List Value := l.flatMap stC
theorem wbec {l : List St} : (stsC l).length = l.length * 9 := wyw (fun _ => wpib) l
theorem wteb {l : List St} {i : Nat} (h : i < l.length) : slotsOf (stsC l) (i * 9) 9 = stC (l.getD i St.zero) := wcu (fun _ => wpib) St.zero l i h
theorem sts_atom {l : List St} : wwe (stsC l) = true := wdu (fun _ => wzmb) l
theorem sts_fz (l : List St) : FzL (stsC l) := fzl sts_atom
theorem wueb : stsC [] = [] := rfl
theorem wopb {l : List St} {s : St} : stsC (l ++ [s]) = stsC l ++ stC s := by rw [stsC, stsC, List.flatMap_append]; simp
theorem wwg {s : St} : stsC [s] = stC s := by rw [stsC]; simp
theorem sts_one {s : St} : stC s = stsC [s] := by rw [stsC]; simp
def mtsC (l : List Mt) : List Value := l.flatMap mtC
theorem wveb {l : List Mt} : (mtsC l).length = l.length * 8 := wyw (fun _ => wcw) l
theorem mts_slot {l : List Mt} {i : Nat} (h : i < l.length) : slotsOf (mtsC l) (i * 8) 8 = mtC (l.getD i Mt.zero) := wcu (fun _ => wcw) _ l i h
theorem mts_atom {l : List Mt} : wwe (mtsC l) = true := wdu (fun _ => wymb) l
theorem wse (l : List Mt) : FzL (mtsC l) := fzl mts_atom
theorem mts_app {l m : List Mt} : mtsC l ++ mtsC m = mtsC (l ++ m) := by rw [mtsC, mtsC, mtsC, List.flatMap_append]
theorem wbnb {s : Mt} : mtC s = mtsC [s] := by rw [mtsC]; simp
theorem ints_bq : ∀ (l : List Int), beqL (l.map (Value.int .i64)) (l.map (Value.int .i64)) = true := by
  intro l
  induction l with
  | nil => rfl
  | cons a l ih => rw [List.map_cons, wui, wyt, ih]; rfl
theorem mt_bq {m : Mt} : beqL (mtC m) (mtC m) = true := ints_bq _
theorem st_bq {s : St} : beqL (stC s) (stC s) = true := by rw [stC, wui, wyt, mt_bq]; rfl
theorem sts_bq {l : List St} : beqL (stsC l) (stsC l) = true := wqeb (fun _ => st_bq) l
theorem mts_bq {l : List Mt} : beqL (mtsC l) (mtsC l) = true := wqeb (fun _ => mt_bq) l
theorem set_bq {s : BitVec 256} : beqL (setC s) (setC s) = true := by rw [setC, wui, wui, wui, wui, wyt, wyt, wyt, wyt, waz]; rfl
inductive Rx where
  | mk (kind min max n : Int) (set : BitVec 256) (kids : List Rx)
def Rx.kind : Rx → Int | .mk k _ _ _ _ _ => k
def Rx.mn : Rx → Int | .mk _ k _ _ _ _ => k
def Rx.mx : Rx → Int | .mk _ _ k _ _ _ => k
def Rx.n : Rx → Int | .mk _ _ _ k _ _ => k
def Rx.set : Rx → BitVec 256 | .mk _ _ _ _ s _ => s
def Rx.kids : Rx → List Rx | .mk _ _ _ _ _ l => l
def Rx.zero : Rx := .mk 0 0 0 0 0#256 []
theorem rx_kind {k a b c s l} : Rx.kind (.mk k a b c s l) = k := rfl
theorem rx_mn {k a b c s l} : Rx.mn (.mk k a b c s l) = a := rfl
theorem rx_mx {k a b c s l} : Rx.mx (.mk k a b c s l) = b := rfl
theorem rx_n {k a b c s l} : Rx.n (.mk k a b c s l) = c := rfl
theorem rx_set {k a b c s l} : Rx.set (.mk k a b c s l) = s := rfl
theorem wcec {k a b c s l} : Rx.kids (.mk k a b c s l) = l := rfl
mutual
def rxC : Rx → List Value
  | .mk k a b c s l => [.int .i64 k, .int .i64 a, .int .i64 b, .int .i64 c, wdV s 0, wdV s 1, wdV s 2, wdV s 3, FL l.length (rxsC l)]
def rxsC : List Rx → List Value
  | [] => []
  | r :: l => rxC r ++ rxsC l
end
theorem whn {r : Rx} : rxC r = [.int .i64 r.kind, .int .i64 r.mn, .int .i64 r.mx, .int .i64 r.n, wdV r.set 0, wdV r.set 1, wdV r.set 2, wdV r.set 3, FL r.kids.length (rxsC r.kids)] := by
  cases r; rw [rxC]; rfl
theorem wbr (l : List Rx) : rxsC l = l.flatMap rxC := by
  induction l with
  | nil => rw [rxsC]; rfl
  | cons r l ih => rw [rxsC, ih, List.flatMap_cons]
theorem wppb {r : Rx} : (rxC r).length = 9 := by rw [whn]; rfl
theorem wdec {r : Rx} : wwe (rxC r) = true := by rw [whn]; rfl
theorem wig (r : Rx) : FzL (rxC r) := fzl wdec
theorem rx_get0 {r : Rx} : (rxC r)[0]? = some (.int .i64 r.kind) := by rw [whn]; rfl
theorem rx_get1 {r : Rx} : (rxC r)[1]? = some (.int .i64 r.mn) := by rw [whn]; rfl
theorem rx_get2 {r : Rx} : (rxC r)[2]? = some (.int .i64 r.mx) := by rw [whn]; rfl
theorem rx_get3 {r : Rx} : (rxC r)[3]? = some (.int .i64 r.n) := by rw [whn]; rfl
theorem rx_get8 {r : Rx} : (rxC r)[8]? = some (FL r.kids.length (rxsC r.kids)) := by rw [whn]; rfl
theorem weec {r : Rx} : slotsOf (rxC r) 4 4 = setC r.set := by rw [whn]; rfl
theorem wmv {l : List Rx} : (rxsC l).length = l.length * 9 := by rw [wbr]; exact wyw (fun _ => wppb) l
theorem weu {l : List Rx} {i : Nat} (h : i < l.length) : slotsOf (rxsC l) (i * 9) 9 = rxC (l.getD i Rx.zero) := by rw [wbr]; exact wcu (fun _ => wppb) _ l i h
theorem rxs_atom {l : List Rx} : wwe (rxsC l) = true := by rw [wbr]; exact wdu (fun _ => wdec) l
theorem rx_bq : ∀ (r : Rx), beqL (rxC r) (rxC r) = true := by
  refine Rx.rec (motive_1 := fun r => beqL (rxC r) (rxC r) = true) (motive_2 := fun l => beqL (rxsC l) (rxsC l) = true) ?_ ?_ ?_
  · intro k a b c s l ih
    rw [whn]
    rw [wcec]
    simp only [wui, wyt, bq_FL, ih, waz, Bool.and_self]
  · rw [rxsC]; rfl
  · intro r l h1 h2
    rw [rxsC]
    exact wybb h1 h2
theorem rxs_bq {l : List Rx} : beqL (rxsC l) (rxsC l) = true := by rw [wbr]; exact wqeb rx_bq l
theorem wzo (l : List Rx) : FzL (rxsC l) := fzl rxs_atom
theorem set_atom {s : BitVec 256} : wwe (setC s) = true := rfl
theorem wme (s : BitVec 256) : FzL (setC s) := fzl set_atom
theorem set_flat {s : BitVec 256} : wsm (setC s) = true := rfl
end
end Go.Den
namespace Go.Den
noncomputable section
variable {P : Program} {cfg : Cfg}
theorem wfec {α : Type} (body : α → PUnit → Sem (ForInStep PUnit)) : ∀ (l : List α), (∀ f ∈ l, ww P (body f ⟨⟩) = some (.yield ⟨⟩)) → ww P (forIn l (⟨⟩ : PUnit) body) = some ⟨⟩ := by
  intro l
  induction l with
  | nil => intro _; rfl
  | cons a l ih =>
    intro h
    rw [List.forIn_cons, wlb, h a (by simp), Option.bind_some]
    exact ih fun f hf => h f (List.mem_cons_of_mem _ hf)
theorem wqib {b : Bool} {d m : Nat} (ih : ∀ (t : TypeId) (ks : List AK), wki P d t = some ks → ∀ (xs : List Value) (x : Value), Rep P t xs x → wcg ks xs = true → ww P (Instr.checkKey b m t x) = some ⟨⟩) :
    ∀ (fs : List Field) (off : Nat) (ks : List AK), wiv (wki P d) fs off = some ks → ∀ (xs : List Value), wcg ks (xs.drop off) = true → off ≤ xs.length →
    ww P (forIn fs (⟨⟩ : PUnit) fun f _ => (if f.name ≠ "_" then (do
      let a ← part f.type ⟨xs⟩ f.offset
      Instr.checkKey b m f.type a
      pure (ForInStep.yield ⟨⟩)) else pure (ForInStep.yield ⟨⟩) : Sem (ForInStep PUnit))) = some ⟨⟩ := by
  intro fs
  induction fs with
  | nil => intro off ks h xs fx _; rfl
  | cons f fs ih2 =>
    intro off ks h xs fx hx
    unfold wiv at h
    split at h
    · rename_i hf
      obtain ⟨hname, hoff⟩ := hf
      split at h
      · rename_i k1 hk1
        split at h
        · rename_i k2 hk2
          cases h
          obtain ⟨fx1, fx2⟩ := wnm fx
          have lx := wgj fx
          rw [List.length_append, List.length_drop] at lx
          obtain ⟨va, ha, ra⟩ := wvq hk1 (xs := xs) (off := off) (by omega)
          have he := ih _ _ hk1 _ _ ra fx1
          have hstep : ww P (if f.name ≠ "_" then (do
              let a ← part f.type ⟨xs⟩ f.offset
              Instr.checkKey b m f.type a
              pure (ForInStep.yield ⟨⟩)) else pure (ForInStep.yield ⟨⟩) : Sem (ForInStep PUnit)) = some (.yield ⟨⟩) := by
            rw [if_pos hname, hoff, wlb, ha, Option.bind_some, wlb, he, Option.bind_some]
            rfl
          rw [List.forIn_cons, wlb, hstep, Option.bind_some]
          rw [List.drop_drop] at fx2
          exact ih2 (off + k1.length) k2 hk2 xs fx2 (by omega)
        · cases h
      · cases h
    · cases h
theorem check_ok {b : Bool} : ∀ (d : Nat) (t : TypeId) (ks : List AK), wki P d t = some ks → ∀ (m : Nat), d ≤ m → ∀ (xs : List Value) (x : Value), Rep P t xs x → wcg ks xs = true → ww P (Instr.checkKey b m t x) = some ⟨⟩ := by
  intro d
  induction d with
  | zero => intro t ks h; cases h
  | succ d ih =>
    intro t ks h m hm xs x hx fx
    obtain ⟨m, rfl⟩ : ∃ m', m = m' + 1 := ⟨m - 1, by omega⟩
    have hcopy := h
    unfold wki at h
    split at h
    · rename_i k hu
      cases h
      obtain ⟨rfl, _⟩ := wwq hcopy hx hx hu rfl
      simp only [wcg, Bool.and_true] at fx
      obtain ⟨a, rfl⟩ := fits_int fx
      show ww P ((underlying t).bind fun u => _) = _
      rw [wug t hu]
      rfl
    · rename_i hu
      cases h
      obtain ⟨rfl, _⟩ := wwq hcopy hx hx hu rfl
      simp only [wcg, Bool.and_true] at fx
      obtain ⟨a, rfl⟩ := wst fx
      show ww P ((underlying t).bind fun u => _) = _
      rw [wug t hu]
      rfl
    · rename_i hu
      cases h
      obtain ⟨rfl, _⟩ := wwq hcopy hx hx hu rfl
      simp only [wcg, Bool.and_true] at fx
      obtain ⟨a, rfl⟩ := fits_bool fx
      show ww P ((underlying t).bind fun u => _) = _
      rw [wug t hu]
      rfl
    · rename_i fields hu
      split at h
      · cases h
      · split at h
        · rename_i ks' hf
          split at h
          · cases h
            obtain ⟨rfl, _⟩ := wheb hx hx hu rfl
            have hl := wqib (b := b) (m := m) (fun t ks h xs x => ih t ks h m (by omega) xs x) fields.toList 0 ks hf xs (by simpa using fx) (by omega)
            show ww P ((underlying t).bind fun u => _) = _
            rw [wug t hu]
            simp only [wlb, ← Array.forIn_toList]
            first
              | exact hl
              | (rw [hl]; rfl)
          · cases h
        · cases h
    · rename_i len elem hu
      split at h
      · rename_i k1 hk1
        split at h
        · rename_i hs
          cases h
          simp only [Bool.and_eq_true] at hs
          obtain ⟨i, hi, hsz⟩ := wgs hs.1
          obtain ⟨rfl, _⟩ := wheb hx hx hu rfl
          have lx := wgj fx
          rw [wqr] at lx
          show ww P ((underlying t).bind fun u => _) = _
          rw [wug t hu]
          simp only [wlb, Std.Legacy.Range.forIn_eq_forIn_range', Std.Legacy.Range.size, Nat.sub_zero, Nat.add_one_sub_one, Nat.div_one]
          have hl : ww P (forIn (List.range' 0 len) (⟨⟩ : PUnit) fun j _ => (do
              let n ← sizeOf elem
              let a ← part elem ⟨xs⟩ (j * n)
              Instr.checkKey b m elem a
              pure (ForInStep.yield ⟨⟩) : Sem (ForInStep PUnit))) = some ⟨⟩ := by
            apply wfec
            intro j hj
            rw [List.mem_range'_1] at hj
            have hb : j * k1.length + k1.length ≤ len * k1.length := by
              have : (j + 1) * k1.length ≤ len * k1.length := Nat.mul_le_mul_right _ (by omega)
              rw [Nat.succ_mul] at this
              exact this
            obtain ⟨va, ha, ra⟩ := wvq hk1 (xs := xs) (off := j * k1.length) (by omega)
            have he := ih _ _ hk1 m (by omega) _ _ ra (wyy len fx j (by omega))
            rw [wlb, wxy hi, Option.bind_some, hsz, wlb, ha, Option.bind_some, wlb, he, Option.bind_some]
            rfl
          first
            | exact hl
            | (rw [hl]; rfl)
        · cases h
      · cases h
    · cases h
def wcnb (P : Program) (t : TypeId) : Bool := match tyU P t with | some (.struct _) => true | _ => false
theorem wdw {t : TypeId} (h : wcnb P t = true) : ∃ fs, tyU P t = some (.struct fs) := by
  unfold wcnb at h
  split at h
  · exact ⟨_, by assumption⟩
  · cases h
structure KeyT (P : Program) (kt : TypeId) {α : Type} [DecidableEq α] (enc : α → List Value) : Prop where
  ht : wcnb P kt = true
  fits : ∃ K, wki P 12 kt = some K ∧ ∀ a, wcg K (enc a) = true
  eq : ∀ a b, eqL (enc a) (enc b) = decide (a = b)
  flat : ∀ a, wsm (enc a) = true
section
variable {α : Type} [DecidableEq α] {enc : α → List Value} {kt : TypeId}
def mapK (enc : α → List Value) (m : List (α × Value)) : List (Value × Value) := m.map fun p => (.agg ⟨enc p.1⟩, p.2)
def wqm (a : α) : List (α × Value) → Nat → Option (Nat × Value)
  | [], _ => none
  | p :: r, i => if a = p.1 then some (i, p.2) else wqm a r (i + 1)
def getK (m : List (α × Value)) (a : α) : Option Value := (wqm a m 0).map (·.2)
theorem asking_K (k : KeyT P kt enc) (a : α) : ∀ (m : List (α × Value)) (i : Nat), ww P (Instr.findAsking kt (.agg ⟨enc a⟩) (entriesOf (mapK enc m)) i) = some (wqm a m i) := by
  obtain ⟨fs, hu⟩ := wdw k.ht
  obtain ⟨K, hK, hf⟩ := k.fits
  have rep : ∀ b : α, Rep P kt (enc b) (.agg ⟨enc b⟩) := fun b => ⟨_, hu, .inl ⟨rfl, rfl⟩⟩
  intro m
  induction m with
  | nil => intro i; rfl
  | cons p r ih =>
    intro i
    have he : ww P (Op.equal kt (.agg ⟨enc a⟩) (.agg ⟨enc p.1⟩)) = some (decide (a = p.1)) := by
      rw [← k.eq]
      exact wzob 12 kt K hK _ (by decide) _ _ _ _ (rep a) (rep p.1) (hf a) (hf p.1)
    show ww P ((Op.equal kt (.agg ⟨enc a⟩) (.agg ⟨enc p.1⟩)).bind fun q => if q = true then Sem.pure (some (i, p.2)) else Instr.findAsking kt (.agg ⟨enc a⟩) (entriesOf (mapK enc r)) (i + 1)) = _
    rw [wpb, he, Option.bind_some]
    by_cases hq : a = p.1
    · simp only [wqm, hq, decide_true, if_true]; rfl
    · simp only [wqm, hq, decide_false, Bool.false_eq_true, if_false]; exact ih (i + 1)
theorem wgec (k : KeyT P kt enc) (b : Bool) (a : α) (m : List (α × Value)) : wmx P b kt (.agg ⟨enc a⟩) (mapK enc m) = some (wqm a m 0) := by
  obtain ⟨fs, hu⟩ := wdw k.ht
  obtain ⟨K, hK, hf⟩ := k.fits
  unfold wmx
  rw [wlb, check_ok 12 kt K hK 10000 (by omega) (enc a) (.agg ⟨enc a⟩) ⟨_, hu, .inl ⟨rfl, rfl⟩⟩ (hf a), Option.bind_some]
  show ww P ((underlying kt).bind fun d => _) = _
  rw [wug kt hu]
  cases m with
  | nil => rfl
  | cons p r =>
    show ww P (Instr.findAsking kt (.agg ⟨enc a⟩) (entriesOf (mapK enc (p :: r))) 0) = _
    exact asking_K k a (p :: r) 0
theorem lookX_K (k : KeyT P kt enc) {zero : Value} {ok : Bool} {a : α} {m : List (α × Value)} : lookX P kt zero ok (.agg ⟨enc a⟩) (some (.map (mapK enc m))) = val (okV ok zero (getK m a)) := by
  show (bif flat (.agg ⟨enc a⟩) then wuu ok zero (wmx P (mapK enc m).isEmpty kt (.agg ⟨enc a⟩) (mapK enc m)) else .none) = _
  rw [show flat (.agg ⟨enc a⟩) = true from k.flat a, cond_true, wgec k]
  unfold getK
  cases wqm a m 0 <;> rfl
def putK (a : α) (v : Value) : List (α × Value) → List (α × Value)
  | [] => [(a, v)]
  | p :: r => if a = p.1 then (a, v) :: r else p :: putK a v r
theorem wdnb {a : α} {v : Value} : ∀ {m : List (α × Value)} {i j : Nat}, wqm a m i = some (j, v) → ∃ h : j - i < m.length, i ≤ j ∧ (m[j - i]).1 = a ∧ ∀ w, putK a w m = m.set (j - i) (a, w) := by
  intro m
  induction m with
  | nil => intro i j h; cases h
  | cons p r ih =>
    intro i j h
    simp only [wqm] at h
    by_cases hq : a = p.1
    · rw [if_pos hq] at h
      cases h
      refine ⟨by simp, Nat.le_refl _, ?_, fun w => ?_⟩
      · simp [hq]
      · simp [putK, hq]
    · rw [if_neg hq] at h
      obtain ⟨h1, h2, h3, h4⟩ := ih h
      have e : j - i = (j - (i + 1)) + 1 := by omega
      refine ⟨by simp only [List.length_cons]; omega, by omega, ?_, fun w => ?_⟩
      · simp only [e, List.getElem_cons_succ]; exact h3
      · rw [e, List.set_cons_succ, ← h4 w]; simp [putK, hq]
theorem wenb {a : α} : ∀ {m : List (α × Value)} {i : Nat}, wqm a m i = none → ∀ w, putK a w m = m ++ [(a, w)] := by
  intro m
  induction m with
  | nil => intro i _ w; rfl
  | cons p r ih =>
    intro i h w
    simp only [wqm] at h
    by_cases hq : a = p.1
    · rw [if_pos hq] at h; cases h
    · rw [if_neg hq] at h
      simp only [putK, if_neg hq, ih h w, List.cons_append]
theorem whec {K : List AK} : ∀ {l : List Value}, wcg K l = true → ∀ n, (l.zip l).all (fun (x, y) => Instr.sameBits n x y) = true := by
  induction K with
  | nil => intro l h n; cases l with | nil => rfl | cons v r => cases h
  | cons k K ih =>
    intro l h n
    cases l with
    | nil => rfl
    | cons v r =>
      simp only [wcg, Bool.and_eq_true] at h
      simp only [List.zip_cons_cons, List.all_cons, Bool.and_eq_true]
      refine ⟨?_, ih h.2 n⟩
      cases k with
      | int j => obtain ⟨x, rfl⟩ := fits_int h.1; simp [Instr.sameBits]
      | str => obtain ⟨⟨⟨x⟩⟩, rfl⟩ := wst h.1; simp only [Instr.sameBits]; rw [ba_beq]; simp
      | bool => obtain ⟨x, rfl⟩ := fits_bool h.1; simp [Instr.sameBits]
theorem updX_K (k : KeyT P kt enc) {h : List ABlk} {r : Nat} {a : α} {x : Value} {m : List (α × Value)} (hr : r < h.length) : updX P h r kt (.agg ⟨enc a⟩) x (some (.map (mapK enc m))) = .eff undef (HP (h.set r (.map (mapK enc (putK a x m))))) := by
  show (bif flat (.agg ⟨enc a⟩) && Nat.blt r h.length then wxab (HP h) r (mapK enc m) (.agg ⟨enc a⟩) x (wmx P false kt (.agg ⟨enc a⟩) (mapK enc m)) else .none) = _
  rw [show flat (.agg ⟨enc a⟩) = true from k.flat a, nblt, decide_eq_true hr, Bool.and_self, cond_true, wgec k]
  cases hq : wqm a m 0 with
  | none =>
    rw [wenb hq]
    show ARes.eff undef ((HP h).set r (.map (mapK enc m ++ [(.agg ⟨enc a⟩, x)]))) = _
    rw [wut _ _ _ hr]
    simp [mapK]
  | some q =>
    obtain ⟨j, v⟩ := q
    obtain ⟨h1, _, h3, h4⟩ := wdnb hq
    simp only [Nat.sub_zero] at h1 h3 h4
    rw [h4]
    have e1 : (mapK enc m)[j]? = some (.agg ⟨enc a⟩, (m[j]).2) := by
      rw [mapK, List.getElem?_map, List.getElem?_eq_getElem h1]
      simp only [Option.map_some, h3]
    obtain ⟨K, _, hf⟩ := k.fits
    have e2 : Instr.sameBits 10000 (.agg ⟨enc a⟩) (.agg ⟨enc a⟩) = true := by
      show ((⟨enc a⟩ : Array Value).size == (⟨enc a⟩ : Array Value).size && ((enc a).zip (enc a)).all fun (x, y) => Instr.sameBits 9999 x y) = true
      rw [whec (hf a)]
      simp
    show (match (mapK enc m)[j]? with | some e => (bif Instr.sameBits 10000 e.1 (.agg ⟨enc a⟩) then ARes.eff undef ((HP h).set r (.map ((mapK enc m).set j (.agg ⟨enc a⟩, x)))) else .none) | none => .none) = _
    rw [e1]
    simp only [e2, cond_true]
    rw [wut _ _ _ hr]
    simp [mapK, List.map_set]
omit [DecidableEq α] in
theorem wiec {m : List (α × Value)} (h : (m.all fun p => wgp p.2) = true) : wpeb (mapK enc m) = true := by
  unfold wpeb mapK
  rw [List.all_map]
  exact h
def setK (enc : α → List Value) (l : List α) : List (Value × Value) := mapK enc (l.map fun a => (a, .bool true))
omit [DecidableEq α] in
theorem wqpb : setK enc [] = [] := rfl
omit [DecidableEq α] in
theorem wab (l : List α) : wby (setK enc l) = [] ∧ (∀ m, renM m (setK enc l) = setK enc l) ∧ wrkb (setK enc l) = [] := by
  have h : wpeb (setK enc l) = true := wiec (by rw [List.all_map]; simp [Function.comp_def, wgp])
  exact ⟨wjub h, fun _ => wmcc h, wkub h⟩
omit [DecidableEq α] in
theorem wjec (h : ∀ a, beqL (enc a) (enc a) = true) (l : List α) : beqP (setK enc l) (setK enc l) = true := by
  induction l with
  | nil => rfl
  | cons a l ih =>
    show (beqV (.agg ⟨enc a⟩) (.agg ⟨enc a⟩) && (beqV (.bool true) (.bool true) && beqP (setK enc l) (setK enc l))) = true
    rw [ih, wmdc]
    show (beqL (enc a) (enc a) && true) = true
    rw [h]; rfl
theorem find_set (a : α) : ∀ (l : List α) (i : Nat), (wqm a (l.map fun a => (a, .bool true)) i).map (·.2) = if a ∈ l then some (.bool true) else none := by
  intro l
  induction l with
  | nil => intro i; rfl
  | cons b l ih =>
    intro i
    simp only [List.map_cons, wqm]
    by_cases hq : a = b
    · simp [hq]
    · rw [if_neg hq, ih]; simp [hq]
theorem wpd (k : KeyT P kt enc) {a : α} {l : List α} : lookX P kt (.bool false) false (.agg ⟨enc a⟩) (some (.map (setK enc l))) = val (.bool (decide (a ∈ l))) := by
  rw [setK, lookX_K k, getK, find_set]
  by_cases h : a ∈ l <;> simp [h] <;> rfl
theorem put_set {a : α} {l : List α} (h : a ∉ l) : putK a (.bool true) (l.map fun a => (a, .bool true)) = (l ++ [a]).map fun a => (a, .bool true) := by
  induction l with
  | nil => rfl
  | cons b l ih =>
    simp only [List.mem_cons, not_or] at h
    simp only [List.map_cons, putK, if_neg h.1, List.cons_append, ih h.2]
theorem wag (k : KeyT P kt enc) {h : List ABlk} {r : Nat} {a : α} {l : List α} (hr : r < h.length) (ha : a ∉ l) : updX P h r kt (.agg ⟨enc a⟩) (.bool true) (some (.map (setK enc l))) = .eff undef (HP (h.set r (.map (setK enc (l ++ [a]))))) := by
  rw [setK, updX_K k hr, put_set ha]
  rfl
end
theorem wweb {α : Type} [DecidableEq α] {enc : α → List Value} : ABlk.map [] = .map (setK enc ([] : List α)) := rfl
end
end Go.Den
namespace Go.Den
noncomputable section
variable {P : Program}
def appN (h : List ABlk) (elem size bytes : Nat) (s : Value) (n : Nat) (new : List Value) : ARes := wlx true (HP h) elem size bytes s n new
theorem app_FL {h : List ABlk} {elem size bytes : Nat} {s : Value} {n : Nat} {cs : List Value} (h0 : 0 < n) (hc : n * size ≤ cs.length) : appA true (HP h) elem size bytes s (FL n cs) = appN h elem size bytes s n (slotsOf cs 0 (n * size)) := by
  unfold appA
  have h1 : lenA (FL n cs) = some n := rfl
  have h2 : wlj (HP h) size n (FL n cs) = some (cs.take (n * size)) := by
    show (bif Nat.ble n n && (Nat.blt 0 n && Nat.ble (n * size) cs.length) then some (cs.take (n * size)) else none) = _
    rw [nble, nblt, nble, decide_eq_true (Nat.le_refl n), decide_eq_true h0, decide_eq_true hc]
    rfl
  obtain ⟨m, rfl⟩ : ∃ m, n = m + 1 := ⟨n - 1, by omega⟩
  rw [h1]
  simp only [h2]
  rfl
theorem app_FL0 {h : List ABlk} {elem size bytes : Nat} {cs : List Value} : appA true (HP h) elem size bytes (.slice none 0 0) (FL 0 cs) = .eff (.slice none 0 0) (HP h) := rfl
theorem wevb {h : List ABlk} {elem size bytes t len : Nat} {cs ds : List Value} : appA true (HP h) elem size bytes (FO t len ds) (FL 0 cs) = .eff (FO t len ds) (HP h) := rfl
def appR (h : List ABlk) (elem size bytes : Nat) (s : Value) (n : Nat) : Option ABlk → ARes
  | some (.cells b) => bif decide (n * size ≤ b.cells.length) then appN h elem size bytes s n (slotsOf b.cells 0 (n * size)) else .none
  | _ => .none
def wkec : Option ABlk → Bool
  | some (.cells b) => isNil b.lens && Nat.beq b.wver 0
  | _ => false
theorem exactX_X {cs : List Value} {t z : Nat} {pf : Bool} : wkec (some (X cs t z pf)) = true := rfl
theorem appR_X {h : List ABlk} {elem size bytes : Nat} {s : Value} {n : Nat} {cs : List Value} {t z : Nat} {pf : Bool} (hc : n * size ≤ cs.length) : appR h elem size bytes s n (some (X cs t z pf)) = appN h elem size bytes s n (slotsOf cs 0 (n * size)) := by
  show (bif decide (n * size ≤ cs.length) then _ else _) = _
  rw [decide_eq_true hc]; rfl
theorem app_row1 {h : List ABlk} (hh : h.length ≤ 1099511627774) {elem size bytes : Nat} {s : Value} {i n c : Nat} (hx : wkec h[i]? = true) :
    appA true (HP h) elem size bytes s (.slice (some ⟨i, 0, none⟩) (n + 1) c) = appR h elem size bytes s (n + 1) h[i]? := by
  unfold appA
  have h1 : lenA (.slice (some ⟨i, 0, none⟩) (n + 1) c) = some (n + 1) := rfl
  rw [h1]
  have h2 : wlj (HP h) size (n + 1) (.slice (some ⟨i, 0, none⟩) (n + 1) c) = match whh (HP h) ⟨i, 0, none⟩ ((n + 1) * size) with
    | some b => some (slotsOf b.cells 0 ((n + 1) * size))
    | none => none := by
    show (bif Nat.ble (n + 1) (n + 1) && Nat.blt 0 (n + 1) then _ else none) = _
    rw [nble, nblt, decide_eq_true (Nat.le_refl _), decide_eq_true (Nat.succ_pos n)]
    rfl
  simp only [h2]
  unfold whh
  rw [wyh h hh]
  cases hb : h[i]? with
  | none => rw [hb] at hx; cases hx
  | some b =>
    rw [hb] at hx
    cases b with
    | cells b =>
      have hx : (isNil b.lens && Nat.beq b.wver 0) = true := hx
      simp only [Bool.and_eq_true, Nat.beq_eq] at hx
      obtain ⟨h3, h4⟩ := hx
      have h5 : b.lens = [] := by cases hl : b.lens with | nil => rfl | cons a r => rw [hl] at h3; cases h3
      have h6 : rdOk b (aver ⟨i, 0, none⟩) (0 + (n + 1) * size) = decide ((n + 1) * size ≤ b.cells.length) := by
        unfold rdOk
        have e1 : b.top = 0 := by unfold CBlk.top; rw [h5]; rfl
        have e2 : b.lenAt 0 = b.cells.length := by unfold CBlk.lenAt; rw [h5]
        rw [h4, e1]
        show (Nat.ble 0 0 && (Nat.ble 0 0 && Nat.ble (0 + (n + 1) * size) (b.lenAt 0))) = _
        rw [e2, Nat.zero_add, nble, nble]
        simp
      simp only [h6]
      by_cases hq : (n + 1) * size ≤ b.cells.length
      · simp only [decide_eq_true hq, cond_true, appR]; rfl
      · simp only [decide_eq_false hq, cond_false, appR]
    | map es => cases hx
    | tok a b c => cases hx
theorem appN_nil {h : List ABlk} (hh : h.length ≤ 1099511627774) {elem size bytes n : Nat} {new : List Value} (hn : n ≤ 16777216) (hb : bytes ≤ 1048576) (ha : wwe new = true) :
    appN h elem size bytes (.slice none 0 0) n new = .eff (FO h.length n new) (HP (h ++ [.tok n elem size])) := by
  show (bif roomy n bytes then wsi true (HP h) elem size new n else .none) = _
  have h1 : roomy n bytes = true := by unfold roomy; rw [nble, nble, decide_eq_true hn, decide_eq_true hb]; rfl
  rw [h1, cond_true]
  show (bif waab (HP h) (nfL new) then ARes.eff (FO (HP h).n n (nfL new)) ((HP h).push (.tok n elem size)) else .none) = _
  rw [wneb ha]
  have h2 : waab (HP h) new = true := by
    unfold waab
    rw [wrk ha, wcq ha, HP_n, wsh hh]; rfl
  rw [h2, cond_true, HP_n, wtl]
def appT (h : List ABlk) (elem size t len n : Nat) (cs new : List Value) : Option ABlk → ARes
  | some (.tok m el es) => bif decide (m = len ∧ el = elem ∧ es = size) then .eff (FO t (len + n) (cs ++ new)) (HP (h.set t (.tok (len + n) elem size))) else .none
  | _ => .none
theorem appT_tok {h : List ABlk} {elem size t len n : Nat} {cs new : List Value} : appT h elem size t len n cs new (some (.tok len elem size)) = .eff (FO t (len + n) (cs ++ new)) (HP (h.set t (.tok (len + n) elem size))) := by
  simp [appT]
theorem appN_FO {h : List ABlk} (hh : h.length ≤ 1099511627774) {elem size bytes t len n : Nat} {cs new : List Value} (ht : t < h.length) (hn : len + n ≤ 16777216) (hb : bytes ≤ 1048576) (hc : cs.length = len * size) (ha : wwe new = true) :
    appN h elem size bytes (FO t len cs) n new = appT h elem size t len n cs new h[t]? := by
  show (bif roomy (len + n) bytes then won (HP h) elem size t len cs (nfL new) n else .none) = _
  have h1 : roomy (len + n) bytes = true := by unfold roomy; rw [nble, nble, decide_eq_true hn, decide_eq_true hb]; rfl
  rw [h1, cond_true, wneb ha]
  unfold won
  rw [wyh h hh]
  cases hq : h[t]? with
  | none => rfl
  | some b =>
    cases b with
    | cells b => rfl
    | map es => rfl
    | tok m el es =>
      show (bif wlr m el es elem size t len cs new then _ else _) = (bif decide (m = len ∧ el = elem ∧ es = size) then _ else _)
      have h2 : wlr m el es elem size t len cs new = decide (m = len ∧ el = elem ∧ es = size) := by
        unfold wlr
        rw [wrk ha, wcq ha, hc, Nat.beq_refl, wsh (by omega), nbeq, nbeq, nbeq]
        by_cases q1 : m = len <;> by_cases q2 : el = elem <;> by_cases q3 : es = size <;> simp [q1, q2, q3]
      rw [h2, wut _ _ _ ht]
      by_cases q : m = len ∧ el = elem ∧ es = size
      · obtain ⟨rfl, rfl, rfl⟩ := q; rfl
      · rw [decide_eq_false q]; rfl
def pfX : Option ABlk → Bool
  | some (.cells b) => isNil b.lens && (Nat.beq b.wver 0 && b.pf)
  | _ => false
theorem pfX_X {cs : List Value} {t z : Nat} : pfX (some (X cs t z true)) = true := rfl
theorem wlec {h : List ABlk} (hh : h.length ≤ 1099511627774) {i n c : Nat} {sl : List Value → Option (List Value × Frs)} (hx : pfX h[i]? = true) :
    wqe P (HP h) sl (.slice (some ⟨i, 0, none⟩) (n + 1) (c + 1)) = rowS P i (n + 1) c h[i]? := by
  show wvm P (HP h) sl ⟨i, 0, none⟩ (n + 1) (c + 1) = _
  unfold wvm
  rw [wyh h hh]
  cases hb : h[i]? with
  | none => rw [hb] at hx; cases hx
  | some b =>
    rw [hb] at hx
    cases b with
    | map es => cases hx
    | tok a b c => cases hx
    | cells b =>
      have hx : (isNil b.lens && (Nat.beq b.wver 0 && b.pf)) = true := hx
      simp only [Bool.and_eq_true, Nat.beq_eq] at hx
      obtain ⟨h3, h4, h7⟩ := hx
      have h5 : b.lens = [] := by cases hl : b.lens with | nil => rfl | cons a r => rw [hl] at h3; cases h3
      have e0 : wfg P b = tsz P b.elem := by unfold wfg; rw [h5]; rfl
      have hi : wbc i = true := wsh (by have := wwt hb; omega)
      have h6 : rdOk b (aver ⟨i, 0, none⟩) (0 + (n + 1) * tsz P b.elem) = Nat.ble ((n + 1) * tsz P b.elem) b.cells.length := by
        unfold rdOk
        have e1 : b.top = 0 := by unfold CBlk.top; rw [h5]; rfl
        have e2 : b.lenAt 0 = b.cells.length := by unfold CBlk.lenAt; rw [h5]
        rw [h4, e1]
        show (Nat.ble 0 0 && (Nat.ble 0 0 && Nat.ble (0 + (n + 1) * tsz P b.elem) (b.lenAt 0))) = _
        rw [e2, Nat.zero_add, nble 0 0]
        simp
      simp only [e0, h6, h7, cond_true]
      show (bif (Nat.ble (n + 1) c && Nat.blt 0 (tsz P b.elem)) && Nat.ble ((n + 1) * tsz P b.elem) b.cells.length then _ else none) = (bif Nat.ble (n + 1) c && (isNil b.lens && (b.pf && (Nat.blt 0 (tsz P b.elem) && Nat.ble ((n + 1) * tsz P b.elem) b.cells.length))) then _ else none)
      rw [h3, h7, Bool.and_assoc, Bool.true_and, Bool.true_and]
      cases (Nat.ble (n + 1) c && (Nat.blt 0 (tsz P b.elem) && Nat.ble ((n + 1) * tsz P b.elem) b.cells.length)) with
      | false => rfl
      | true =>
        simp only [cond_true, hi, Bool.and_true, Nat.zero_add]
end
end Go.Den
namespace Go.Den
set_option linter.defProp false
theorem ai {a b : Prop} (h : a) (k : b) : a ∧ b := ⟨h, k⟩
def zA := (ai @Bool.and_eq_true (ai @and_true @true_and))
def zH := (ai (ai (ai @decide_eq_true_eq @decide_eq_false_iff_not) (ai @Bool.not_true @Bool.not_false)) (ai (ai @Bool.not_eq_true @Bool.not_eq_false) (ai @Classical.not_not @ne_eq.{1})))
def zT := (ai (ai (ai (ai (ai @over_all @woib) (ai @wcvb (ai @slots_0 @slots_00))) (ai (ai @wcw (ai @wsdc @wtdc)) (ai @wudc (ai @wxe @wpib)))) (ai (ai (ai @wmw @st_get0) (ai @waec (ai @wzdc @st_set0))) (ai (ai @st_over1 (ai @wbec @wteb)) (ai @wueb (ai @wwg @wveb))))) (ai (ai (ai (ai @mts_slot @wppb) (ai @wig (ai @rx_get0 @rx_get1))) (ai (ai @rx_get2 (ai @rx_get3 @rx_get8)) (ai @weec (ai @wmv @weu)))) (ai (ai (ai @wzo @wme) (ai @set_flat (ai @rx_kind @rx_mn))) (ai (ai @rx_mx (ai @rx_n @rx_set)) (ai @wcec (ai @sts_bq @rxs_bq))))))
def zD := (ai (ai (ai (ai @wcw (ai @wpib @wbec)) (ai @wveb (ai @wppb @wmv))) (ai (ai @wjz (ai @wxe @wmw)) (ai @sts_fz (ai @wse @wig)))) (ai (ai (ai @wzo (ai @wme @wxdc)) (ai @wanb (ai @wlz @mt_bq))) (ai (ai @st_bq (ai @sts_bq @mts_bq)) (ai @set_bq (ai @rx_bq @rxs_bq)))))
def zS := (ai (ai (ai (ai (ai (ai (ai (ai @wrsb (ai @wqyb @wssb)) (ai (ai @wryb @wsyb) (ai @wolb @wvsb))) (ai (ai (ai @wwsb @wplb) (ai @wqlb @seqK_ret)) (ai (ai @wvyb @wieb) (ai @wxsb @wrlb)))) (ai (ai (ai @opsR_nil (ai @opsR_ins @wwyb)) (ai (ai @wysb @wxyb) (ai @opsR_un @opsR_eqb))) (ai (ai (ai @wyyb @wzyb) (ai @wazb @opsR_ssl)) (ai (ai @wbzb @opsR_slS) (ai @wczb @wdzb))))) (ai (ai (ai (ai @opsR_b2s (ai @wezb @wfzb)) (ai (ai @opsI_val @wgzb) (ai @opsI_new @opsI_eff))) (ai (ai (ai @whzb @evl_tmp) (ai @wizb @evls_nil)) (ai (ai @wjzb @SE_put) (ai @wnlb @int2_add)))) (ai (ai (ai (ai @int2_sub @int2_quo) (ai @int2_rem @int2_eql)) (ai (ai @int2_neq @int2_lss) (ai @int2_leq @int2_gtr))) (ai (ai (ai @int2_geq @int2_and) (ai @int2_or @shift_shl)) (ai (ai @shift_shr @conv_int) (ai @un_not @un_neg)))))) (ai (ai (ai (ai (ai @eqb_eq (ai @eqb_ne @slen_str)) (ai (ai @isJK_int @wkzb) (ai @wslb @isJK_agg))) (ai (ai (ai @isJK_ptr @wzsb) (ai @wtlb @wulb)) (ai (ai @wlzb @wmzb) (ai @watb @wrhb)))) (ai (ai (ai @wvlb (ai @cells_func @wnzb)) (ai (ai @wwlb @wshb) (ai @wmab @wjeb))) (ai (ai (ai @wxlb @wvbb) (ai @wbtb @wctb)) (ai (ai @wylb @wkeb) (ai @wozb @wzlb))))) (ai (ai (ai (ai @load1_HP (ai @load1X_X @loadN_HP)) (ai (ai @loadNX_X @store_HP) (ai @storeX_X @exact_X))) (ai (ai (ai @wzp @cond_true.{1}) (ai @cond_false.{1} @nble)) (ai (ai @nblt @nbeq) (ai @decide_eq_true_eq @wrap_i64)))) (ai (ai (ai (ai @wrap_u8 @Int.tdiv_eq_ediv_of_nonneg) (ai @Int.tmod_eq_emod_of_nonneg @List.nil_append.{0})) (ai (ai @List.cons_append.{0} @List.append_assoc.{0}) (ai @List.length_cons.{0} @List.length_nil.{0}))) (ai (ai (ai @List.getElem?_cons_zero.{0} @List.getElem?_cons_succ.{0}) (ai @List.set_cons_zero.{0} @List.set_cons_succ.{0})) (ai (ai @Nat.zero_add @Nat.add_zero) (ai @Bool.true_and @Bool.and_true))))))) (ai (ai (ai (ai (ai (ai @Bool.and_self (ai @Bool.not_false @Bool.not_true)) (ai (ai @Int.toNat_natCast @HP_n) (ai @List.drop_zero.{0} @List.drop_succ_cons.{0}))) (ai (ai (ai @List.take_zero.{0} @List.take_succ_cons.{0}) (ai @Nat.add_eq @Nat.mul_eq)) (ai (ai @Nat.mul_one @wtyb) (ai @wuyb @wdtb)))) (ai (ai (ai @arr_size (ai @waq @resR_nil)) (ai (ai @wpzb @wqzb) (ai @resA_tmp @wetb))) (ai (ai (ai @wftb @resV_val) (ai @wrzb @wszb)) (ai (ai @wtzb @len_FL) (ai @len_FO @wuzb))))) (ai (ai (ai (ai @wvzb (ai @wwzb @wtsb)) (ai (ai @opsD_ins @wdac) (ai @weac @opsD_un))) (ai (ai (ai @wfac @wgac) (ai @whac @opsD_ssl)) (ai (ai @wiac @opsD_slS) (ai @opsD_eqc @opsD_nil)))) (ai (ai (ai (ai @wjac @wktb) (ai @wkac @wlac)) (ai (ai @wltb @wzzb) (ai @wwhb @wleb))) (ai (ai (ai @opsR_eqc @opsR_mm) (ai @List.map_cons.{0, 0} @List.map_nil.{0, 0})) (ai (ai @List.length_append.{0} @fld1_agg) (ai @wxzb @wvhb)))))) (ai (ai (ai (ai (ai @whtb (ai @witb @waac)) (ai (ai @Bool.decide_eq_true @Bool.decide_eq_false) (ai @if_true.{1} @if_false.{1}))) (ai (ai (ai @str2_eql @str2_neq) (ai @str2_add @sidx_str)) (ai (ai @ssl_both @ssl_lo) (ai @Option.map_some.{0, 0} @Option.map_none.{0, 0})))) (ai (ai (ai (ai @eq_self.{1} @decide_true) (ai @decide_false @wntb)) (ai (ai @opsD_eqb @opsD_mm) (ai @wotb @wmac))) (ai (ai (ai @wnac @opsD_b2s) (ai @look_HP @okd_true)) (ai (ai @woac @upd_HP) (ai @wyhb @okV_some))))) (ai (ai (ai (ai @okV_none (ai @whpb @wwbb)) (ai (ai @gselV_tt @gselV_tf) (ai @gselV_ft @gselV_ff))) (ai (ai (ai @List.all_cons.{0} @List.all_nil.{0}) (ai @wusb @wthb)) (ai (ai @wqac @wlv) (ai @atom_int @wsac)))) (ai (ai (ai (ai @wamb @atom_FL) (ai @atom_FP @wtac)) (ai (ai @wuac @wvac) (ai @wstb @wbmb))) (ai (ai (ai @wttb @wwac) (ai @seal_int @wxac)) (ai (ai @wcmb @wcib) (ai @seal_FL @seal_FO)))))))) (ai (ai (ai (ai (ai (ai (ai @seal_FP (ai @wyac @seal_noS)) (ai (ai @seal_ptr @seal_map) (ai @wzac @wabc))) (ai (ai (ai @seal_agg @wutb) (ai @wbbc @wcbc)) (ai (ai @wdbc @webc) (ai @EJ_n @EJ_g)))) (ai (ai (ai @SE_n (ai @SE_g @E0_n)) (ai (ai @E0_g @zipR_nil) (ai @whbc @envL_SE))) (ai (ai (ai @lvOk_nil @wibc) (ai @evs_nil @evs_cons)) (ai (ai @normA_X @cloL_nil) (ai @wjbc @memN_nil))))) (ai (ai (ai (ai @wlbc (ai @wwtb @wobc)) (ai (ai @wxtb @pins_nil) (ai @wpbc @hasL_nil))) (ai (ai (ai @wqbc @wrbc) (ai @wytb @wztb)) (ai (ai @wfmb @wsbc) (ai @wtbc @waub)))) (ai (ai (ai (ai @wubc @renBX_X) (ai @wvbc @wwbc)) (ai (ai @exactB_X @wbub) (ai @wcub @refsB_X))) (ai (ai (ai @wxbc @wybc) (ai @nm1_at @wdub)) (ai (ai @upto_0 @upto_1) (ai @upto_2 @upto_3)))))) (ai (ai (ai (ai (ai @upto_4 (ai @upto_5 @upto_6)) (ai (ai @wzbc @weub) (ai @refs_ptr @wecc))) (ai (ai (ai @refs_row @wfcc) (ai @refs_map @refs_FO)) (ai (ai @refs_agg @wgub) (ai @wgcc @whcc)))) (ai (ai (ai @whub (ai @wicc @wiub)) (ai (ai @ren_ptr @wjcc) (ai @ren_nilS @ren_row))) (ai (ai (ai @ren_row0 @ren_map) (ai @ren_FO @ren_agg)) (ai (ai @wkcc @ren_func) (ai @renM_nil @wlcc))))) (ai (ai (ai (ai @wncc (ai @wlub @wmub)) (ai (ai @wimb @wjmb) (ai @wkmb @wpcc))) (ai (ai (ai @wnub @retR_end) (ai @wqcc @wrcc)) (ai (ai @woub @valK_raw) (ai @wscc @one_1)))) (ai (ai (ai (ai @one_0 @one_2) (ai @wtcc @raise_HP)) (ai (ai @AH0_HP @wucc) (ai @wpub @frzSet_X))) (ai (ai (ai @wlmb @wmmb) (ai @womb @wrmb)) (ai (ai @wsmb @wtmb) (ai @opsK_did @wodc))))))) (ai (ai (ai (ai (ai (ai @wavb (ai @wwmb @bk_at)) (ai (ai @getN_0 @getN_s) (ai @fzn1_agg @fzn1_int))) (ai (ai (ai @wycc @wpmb) (ai @whib @fzn1_FL)) (ai (ai @fzn1_FP @wzcc) (ai @wadc @wrub)))) (ai (ai (ai @frzV_agg (ai @frzV_int @wbdc)) (ai (ai @wqmb @wiib) (ai @frzV_FL @frzV_FP))) (ai (ai (ai @wcdc @wddc) (ai @fl_int @fl_bool)) (ai (ai @wjdc @wuub) (ai @fl_FL @fl_FO))))) (ai (ai (ai (ai @fl_ptr (ai @fl_map @fl_agg)) (ai (ai @fl_tuple @wkdc) (ai @war @wvub))) (ai (ai (ai @wldc @gd_skip) (ai @gd_skip' @gd_do)) (ai (ai @gd_do' @wgdc) (ai @wsub @wjib)))) (ai (ai (ai (ai @wtub @whdc) (ai @wumb @Option.isSome_some.{0})) (ai (ai @Bool.or_false @Bool.false_or) (ai @Bool.or_true @Bool.true_or))) (ai (ai (ai @Bool.and_false @Bool.false_and) (ai @List.append_nil.{0} @wyzb)) (ai (ai @wgtb @lkE_nil) (ai @lkE_cons @look_E0)))))) (ai (ai (ai (ai (ai @look_EJ (ai @lkB_true @wfbc)) (ai (ai @lkH_true @app_FL0) (ai @wevb @app_row1))) (ai (ai (ai @appR_X @exactX_X) (ai @appN_nil @appN_FO)) (ai (ai @appT_tok @wlec) (ai @pfX_X @rowS_X)))) (ai (ai (ai (ai @widc @isJK_map) (ai @nilc_ptr @nilc_FP)) (ai (ai @wwub @mm_min2) (ai @mm_max2 @bq_X))) (ai (ai (ai @bq_map @bq_tok) (ai @waz @wui)) (ai (ai @bqP_nil @bqP_cons) (ai @wyt @wmdc))))) (ai (ai (ai (ai @bq_str (ai @bq_ptr @bq_nilP)) (ai (ai @bq_nilS @wndc) (ai @bq_FL @bq_FO))) (ai (ai (ai @chg_same @refs_int) (ai @ren_int @wacc)) (ai (ai @ren_bool @wgmb) (ai @wfub @weib)))) (ai (ai (ai (ai @whmb @refs_FL) (ai @ren_FL @refs_FP)) (ai (ai @ren_FP @wbcc) (ai @ren_nilP @wccc))) (ai (ai (ai @ren_nilF @wdcc) (ai @ren_nilI @wkbc)) (ai (ai @wvtb @ne_eq.{1}) (ai @not_false_eq_true @not_true_eq_false)))))))))
theorem z1 : type_of% @wpdc := @wpdc
theorem z2 : type_of% @wmpb := @wmpb
theorem z3 : type_of% @gd_ok := @gd_ok
theorem z4 : type_of% @gdD_ok := @gdD_ok
theorem z5 : type_of% @wzbb := @wzbb
theorem z6 : type_of% @AccLe.chg := @AccLe.chg
theorem z7 : type_of% @AccLe.same := @AccLe.same
end Go.Den
namespace Go.Proofs.Ytdbhfmdndiphcaa
open Go.Den
noncomputable section
theorem mixed : Try.prog.follows .mixedOrders = true := by kernel_rfl
def rawC (f : FuncId) : Bool × Bool := bif Nat.beq f 105 then (true, true) else (false, false)
def ownC (f : FuncId) : Bool := !([52, 53, 66, 71] : List Nat).any fun k => Nat.beq k f
def cfgC0 : Cfg := { raw := fun _ => (false, false), own := ownC, live := fun _ _ => none, glob := fun _ => none, know := wxob }
theorem wmec : ∀ c, wflb (den Try.prog cfgC0 100 (.call 105 [.slice none 0 c]) AH0) = true := fun c => by kernel_rfl
theorem clone_no : wflb (den Try.prog cfgC0 100 (.call 105 [.slice (some ⟨0, 0, none⟩) 0 0]) AH0) = true := by kernel_rfl
def knowC : FuncId → Option (List Value → Option Value) := wihb [105] wxob
theorem knowC_ok : wfj Try.prog (fun _ => none) knowC :=
  wcyb (fun f hf => by
      rw [List.mem_singleton] at hf
      subst hf
      exact known_no (cfg := cfgC0) wvy mixed wmec clone_no) wvy
def cfgC : Cfg := { raw := rawC, own := ownC, live := fun _ _ => none, glob := fun _ => none, know := knowC }
theorem wfnb : wceb (den Try.prog cfgC 3000 (.call 43 []) AH0) = true := by kernel_rfl
theorem wxeb : wxn Try.prog (fun _ => none) 43 [] (.bool true) := wksb (cfg := cfgC) knowC_ok mixed wfnb
end
end Go.Proofs.Ytdbhfmdndiphcaa
namespace Go.Proofs.Ytdbhfmdndiphcaa
open Go.Den
noncomputable section
def live11 (i : Nat) : Option (List Tmp × List Tmp × Nat) := bif Nat.beq i 8 then some ([7, 8, 9, 10, 11, 12, 13, 14, 15, 16, 17, 53, 54, 55], [7, 8, 9, 10, 11, 12, 13, 14, 15, 16, 17], 999999) else bif Nat.beq i 13 then some ([7, 8, 9, 10, 11, 12, 13, 14, 15, 16, 17, 70, 71], [7, 8, 9, 10, 11, 12, 13, 15, 16, 17], 999999) else none
def live26 (i : Nat) : Option (List Tmp × List Tmp × Nat) := bif Nat.beq i 3 then some ([0, 1, 5, 6], [5], 999999) else none
def live27 (i : Nat) : Option (List Tmp × List Tmp × Nat) := bif Nat.beq i 4 then some ([1, 2, 5, 6, 7], [4, 5], 999999) else none
def live28 (i : Nat) : Option (List Tmp × List Tmp × Nat) := bif Nat.beq i 4 then some ([1, 3, 6, 8], [6, 7], 999999) else bif Nat.beq i 8 then some ([1, 3, 6, 8, 9, 10, 43, 44, 45], [1, 3, 6, 8, 9, 10], 999999) else none
def live30 (i : Nat) : Option (List Tmp × List Tmp × Nat) := bif Nat.beq i 3 then some ([0, 1, 3], [0, 1], 999999) else none
def live42 (i : Nat) : Option (List Tmp × List Tmp × Nat) := bif Nat.beq i 11 then some ([1, 2, 14, 15, 36, 37, 38], [2, 14, 15], 999999) else none
def live45 (i : Nat) : Option (List Tmp × List Tmp × Nat) := bif Nat.beq i 3 then some ([2, 4, 7, 10, 11, 12], [7], 999999) else none
def live62 (i : Nat) : Option (List Tmp × List Tmp × Nat) := bif Nat.beq i 3 then some ([3, 7, 8, 9], [3], 999999) else none
def live63 (i : Nat) : Option (List Tmp × List Tmp × Nat) := bif Nat.beq i 18 then some ([4, 5, 8, 80, 81, 82], [8], 999999) else bif Nat.beq i 27 then some ([3, 5, 11, 108, 109, 110], [11], 999999) else bif Nat.beq i 34 then some ([3, 7, 128, 129, 130], [7], 999999) else none
def live77 (i : Nat) : Option (List Tmp × List Tmp × Nat) := bif Nat.beq i 3 then some ([1, 3, 6, 7, 8, 9], [6, 7], 999999) else none
def live78 (i : Nat) : Option (List Tmp × List Tmp × Nat) := bif Nat.beq i 4 then some ([3, 17, 18, 19], [4], 999999) else none
def live79 (i : Nat) : Option (List Tmp × List Tmp × Nat) := bif Nat.beq i 12 then some ([0, 2, 77, 78, 79], [6], 999999) else none
def live86 (i : Nat) : Option (List Tmp × List Tmp × Nat) := bif Nat.beq i 1 then some ([0, 6, 7, 8], [], 999999) else none
def live87 (i : Nat) : Option (List Tmp × List Tmp × Nat) := bif Nat.beq i 3 then some ([3, 4, 7, 11, 12, 13], [7], 999999) else none
def live88 (i : Nat) : Option (List Tmp × List Tmp × Nat) := bif Nat.beq i 5 then some ([0, 1, 5, 52, 53, 54], [0, 1, 5], 999999) else none
def live126 (i : Nat) : Option (List Tmp × List Tmp × Nat) := bif Nat.beq i 7 then some ([2, 3, 4, 20], [2, 3], 999999) else bif Nat.beq i 16 then some ([2, 3, 4, 36], [2, 3], 999999) else none
def live157 (i : Nat) : Option (List Tmp × List Tmp × Nat) := bif Nat.beq i 2 then some ([0, 1, 7, 8], [4], 999999) else none
def live158 (i : Nat) : Option (List Tmp × List Tmp × Nat) := bif Nat.beq i 2 then some ([0, 1, 7, 8], [4], 999999) else none
def liveT (f i : Nat) : Option (List Tmp × List Tmp × Nat) := bif Nat.blt f 77 then (bif Nat.blt f 30 then (bif Nat.blt f 27 then (bif Nat.blt f 26 then (bif Nat.beq f 11 then live11 i else none) else (bif Nat.beq f 26 then live26 i else none)) else (bif Nat.blt f 28 then (bif Nat.beq f 27 then live27 i else none) else (bif Nat.beq f 28 then live28 i else none))) else (bif Nat.blt f 45 then (bif Nat.blt f 42 then (bif Nat.beq f 30 then live30 i else none) else (bif Nat.beq f 42 then live42 i else none)) else (bif Nat.blt f 62 then (bif Nat.beq f 45 then live45 i else none) else (bif Nat.blt f 63 then (bif Nat.beq f 62 then live62 i else none) else (bif Nat.beq f 63 then live63 i else none))))) else (bif Nat.blt f 87 then (bif Nat.blt f 79 then (bif Nat.blt f 78 then (bif Nat.beq f 77 then live77 i else none) else (bif Nat.beq f 78 then live78 i else none)) else (bif Nat.blt f 86 then (bif Nat.beq f 79 then live79 i else none) else (bif Nat.beq f 86 then live86 i else none))) else (bif Nat.blt f 126 then (bif Nat.blt f 88 then (bif Nat.beq f 87 then live87 i else none) else (bif Nat.beq f 88 then live88 i else none)) else (bif Nat.blt f 157 then (bif Nat.beq f 126 then live126 i else none) else (bif Nat.blt f 158 then (bif Nat.beq f 157 then live157 i else none) else (bif Nat.beq f 158 then live158 i else none)))))
def tabK : List (FuncId × List Value × Value) := [(43, [], .bool true)]
def cfg : Cfg := { raw := fun f => (false, Nat.beq f 77), own := fun f => true, live := liveT, glob := fun _ => none, know := wglb tabK wxob }
theorem hc : PlainA cfg := ⟨fun _ => rfl⟩
theorem wsj : wfj Try.prog cfg.glob cfg.know := wjsb (fun e he => by
  simp only [tabK, List.mem_cons, List.not_mem_nil, or_false] at he
  subst he; exact wxeb) wvy
theorem wnec {rec : Rec} {f : FuncId} {args : List Value} {H : AH} : callS Try.prog cfg rec f args H = wrgb rec f H (wih Try.prog H 20 args) (cfg.know f) := rfl
def G0 : (Nat → Option (List Value)) × Bool := (fun _ => none, true)
theorem g0_K : G0.2 = true := rfl
theorem g_K {f : FuncId} : (cfg.glob, cfg.own f) = G0 := rfl
theorem kn_K : cfg.know 15 = none ∧ cfg.know 25 = none ∧ cfg.know 26 = none ∧ cfg.know 27 = none ∧ cfg.know 28 = none ∧ cfg.know 30 = none ∧ cfg.know 31 = none ∧ cfg.know 40 = none ∧ cfg.know 42 = none ∧ cfg.know 45 = none ∧ cfg.know 52 = none ∧ cfg.know 53 = none ∧ cfg.know 57 = none ∧ cfg.know 58 = none ∧ cfg.know 62 = none ∧ cfg.know 63 = none ∧ cfg.know 66 = none ∧ cfg.know 71 = none ∧ cfg.know 76 = none ∧ cfg.know 77 = none ∧ cfg.know 78 = none ∧ cfg.know 79 = none ∧ cfg.know 83 = none ∧ cfg.know 84 = none ∧ cfg.know 85 = none ∧ cfg.know 86 = none ∧ cfg.know 87 = none ∧ cfg.know 88 = none ∧ cfg.know 95 = none ∧ cfg.know 96 = none ∧ cfg.know 97 = none ∧ cfg.know 108 = none ∧ cfg.know 126 = none ∧ cfg.know 127 = none ∧ cfg.know 128 = none ∧ cfg.know 147 = none ∧ cfg.know 149 = none ∧ cfg.know 157 = none ∧ cfg.know 158 = none := ⟨rfl, rfl, rfl, rfl, rfl, rfl, rfl, rfl, rfl, rfl, rfl, rfl, rfl, rfl, rfl, rfl, rfl, rfl, rfl, rfl, rfl, rfl, rfl, rfl, rfl, rfl, rfl, rfl, rfl, rfl, rfl, rfl, rfl, rfl, rfl, rfl, rfl, rfl, rfl⟩
theorem kw_K : ∀ (rec : Rec) (H : AH) (fr : Frs), wrgb rec 43 H (some ([], fr)) (cfg.know 43) = .did (.bool true) none true (raise H fr) (wdp fr) := fun _ _ _ => by kernel_rfl
theorem tsz_K : tsz Try.prog 3 = 1 ∧ tsz Try.prog 5 = 1 ∧ tsz Try.prog 47 = 9 ∧ tsz Try.prog 55 = 8 ∧ tsz Try.prog 79 = 2 ∧ tsz Try.prog 113 = 9 := ⟨by kernel_rfl, by kernel_rfl, by kernel_rfl, by kernel_rfl, by kernel_rfl, by kernel_rfl⟩
theorem raw_K : (cfg.raw 11).2 = false ∧ (cfg.raw 15).2 = false ∧ (cfg.raw 25).2 = false ∧ (cfg.raw 26).2 = false ∧ (cfg.raw 27).2 = false ∧ (cfg.raw 28).2 = false ∧ (cfg.raw 30).2 = false ∧ (cfg.raw 31).2 = false ∧ (cfg.raw 40).2 = false ∧ (cfg.raw 42).2 = false ∧ (cfg.raw 45).2 = false ∧ (cfg.raw 52).2 = false ∧ (cfg.raw 53).2 = false ∧ (cfg.raw 57).2 = false ∧ (cfg.raw 58).2 = false ∧ (cfg.raw 62).2 = false ∧ (cfg.raw 63).2 = false ∧ (cfg.raw 66).2 = false ∧ (cfg.raw 71).2 = false ∧ (cfg.raw 76).2 = false ∧ (cfg.raw 77).2 = true ∧ (cfg.raw 78).2 = false ∧ (cfg.raw 79).2 = false ∧ (cfg.raw 83).2 = false ∧ (cfg.raw 84).2 = false ∧ (cfg.raw 85).2 = false ∧ (cfg.raw 86).2 = false ∧ (cfg.raw 87).2 = false ∧ (cfg.raw 88).2 = false ∧ (cfg.raw 95).2 = false ∧ (cfg.raw 96).2 = false ∧ (cfg.raw 97).2 = false ∧ (cfg.raw 108).2 = false ∧ (cfg.raw 126).2 = false ∧ (cfg.raw 127).2 = false ∧ (cfg.raw 128).2 = false ∧ (cfg.raw 146).2 = false ∧ (cfg.raw 147).2 = false ∧ (cfg.raw 148).2 = false ∧ (cfg.raw 149).2 = false ∧ (cfg.raw 157).2 = false ∧ (cfg.raw 158).2 = false := ⟨rfl, rfl, rfl, rfl, rfl, rfl, rfl, rfl, rfl, rfl, rfl, rfl, rfl, rfl, rfl, rfl, rfl, rfl, rfl, rfl, rfl, rfl, rfl, rfl, rfl, rfl, rfl, rfl, rfl, rfl, rfl, rfl, rfl, rfl, rfl, rfl, rfl, rfl, rfl, rfl, rfl, rfl⟩
theorem kK : type_of% @raw_K ∧ (type_of% @wnec ∧ type_of% @g_K) ∧ (type_of% @g0_K ∧ type_of% @tsz_K) ∧ (type_of% @kn_K ∧ type_of% @kw_K) := ⟨@raw_K, ⟨@wnec, @g_K⟩, ⟨@g0_K, @tsz_K⟩, ⟨@kn_K, @kw_K⟩⟩
theorem wgf : cfg.live 11 (wqc (wwc 0)) = some ([7, 8, 9, 10, 11, 12, 13, 14, 15, 16, 17, 53, 54, 55], [7, 8, 9, 10, 11, 12, 13, 14, 15, 16, 17], 999999) := by kernel_rfl
theorem wud : cfg.live 11 (wqc (wwc 1)) = some ([7, 8, 9, 10, 11, 12, 13, 14, 15, 16, 17, 70, 71], [7, 8, 9, 10, 11, 12, 13, 15, 16, 17], 999999) := by kernel_rfl
theorem wqg : cfg.live 26 (wqc (wuh 0)) = some ([0, 1, 5, 6], [5], 999999) := by kernel_rfl
theorem wrb : cfg.live 27 (wqc (wwl 0)) = some ([1, 2, 5, 6, 7], [4, 5], 999999) := by kernel_rfl
theorem wqd : cfg.live 28 (wqc (wmf 0)) = some ([1, 3, 6, 8], [6, 7], 999999) := by kernel_rfl
theorem wcf : cfg.live 28 (wqc (wmf 1)) = some ([1, 3, 6, 8, 9, 10, 43, 44, 45], [1, 3, 6, 8, 9, 10], 999999) := by kernel_rfl
theorem wmo : cfg.live 30 (wqc (wfo 0)) = some ([0, 1, 3], [0, 1], 999999) := by kernel_rfl
theorem wqi : cfg.live 42 (wqc (whj 0)) = some ([1, 2, 14, 15, 36, 37, 38], [2, 14, 15], 999999) := by kernel_rfl
theorem wtj : cfg.live 45 (wqc (wxl 0)) = some ([2, 4, 7, 10, 11, 12], [7], 999999) := by kernel_rfl
theorem wno : cfg.live 62 (wqc (wio 0)) = some ([3, 7, 8, 9], [3], 999999) := by kernel_rfl
theorem wge : cfg.live 63 (wqc (wyb 0)) = some ([4, 5, 8, 80, 81, 82], [8], 999999) := by kernel_rfl
theorem wrd : cfg.live 63 (wqc (wyb 1)) = some ([3, 5, 11, 108, 109, 110], [11], 999999) := by kernel_rfl
theorem whe : cfg.live 63 (wqc (wyb 2)) = some ([3, 7, 128, 129, 130], [7], 999999) := by kernel_rfl
theorem wdd : cfg.live 77 (wqc (wld 0)) = some ([1, 3, 6, 7, 8, 9], [6, 7], 999999) := by kernel_rfl
theorem wwb : cfg.live 79 (wqc (wth 0)) = some ([0, 2, 77, 78, 79], [6], 999999) := by kernel_rfl
theorem wtc : cfg.live 86 (wqc (wwf 0)) = some ([0, 6, 7, 8], [], 999999) := by kernel_rfl
theorem wsd : cfg.live 87 (wqc (wvg 0)) = some ([3, 4, 7, 11, 12, 13], [7], 999999) := by kernel_rfl
theorem wbb : cfg.live 88 (wqc (wfe 0)) = some ([0, 1, 5, 52, 53, 54], [0, 1, 5], 999999) := by kernel_rfl
theorem wvd : cfg.live 126 (wqc (wvc 0)) = some ([2, 3, 4, 20], [2, 3], 999999) := by kernel_rfl
theorem whf : cfg.live 126 (wqc (wvc 1)) = some ([2, 3, 4, 36], [2, 3], 999999) := by kernel_rfl
theorem wxb : cfg.live 157 (wqc (wyc 0)) = some ([0, 1, 7, 8], [4], 999999) := by kernel_rfl
theorem wuc : cfg.live 158 (wqc (woe 0)) = some ([0, 1, 7, 8], [4], 999999) := by kernel_rfl
end
end Go.Proofs.Ytdbhfmdndiphcaa
namespace Go.Proofs.Ytdbhfmdndiphcaa
set_option linter.unusedVariables false
set_option linter.unusedSimpArgs false
open Go.Den
noncomputable section
def whc (n lo hi : Int) : Int := if n.tmod (hi - lo + 1) < 0 then lo + (n.tmod (hi - lo + 1) + hi - lo + 1) else lo + n.tmod (hi - lo + 1)
theorem wne (n lo hi : Int) (h1 : -1000000 ≤ lo) (h2 : lo ≤ hi) (h3 : hi ≤ 1000000) : lim Try.prog cfg (.call 15 [.int .i64 n, .int .i64 lo, .int .i64 hi]) (HP []) = some (.val (.int .i64 (whc n lo hi)), HP []) := by
  refine wib hc wip (Nat.le_of_ble_eq_true rfl) (Nat.le_of_ble_eq_true rfl) ?_
  unfold wvl whc
  have hb : -(hi - lo + 1) < n.tmod (hi - lo + 1) ∧ n.tmod (hi - lo + 1) < hi - lo + 1 := by
    have := Int.emod_nonneg n (show hi - lo + 1 ≠ 0 by omega)
    have h5 := Int.emod_lt_of_pos n (show 0 < hi - lo + 1 by omega)
    rw [Int.tmod_eq_emod]
    split <;> omega
  (repeat' (first | (simp -implicitDefEqProofs (maxSteps := 2000000) (disch := first | with_reducible assumption | omega | (simp only [zS, zA, seval] <;> omega) | fail) only [zS, argl, insA, Go.Den.wm, wo, wu, looks, wz, wy, idOf, riA, seval, Go.Den.wh, kK, *]) | (with_reducible (first | apply z1 | apply z2 | apply z3 | apply z4) <;> intro hq <;> (try simp only [zH] at hq) <;> (try (exfalso; omega)))))
def wap : Mt := ⟨[-1, -1, -1, -1, -1, -1, -1, -1], rfl⟩
theorem wrib (m : Mt) (i j : Nat) (a : Int) : (m.put i a).at j = if i = j ∧ j < 8 then a else m.at j := by
  rw [Mt.at, Mt.at, Mt.put, List.getD_eq_getElem?_getD, List.getD_eq_getElem?_getD, List.getElem?_set, m.2]
  by_cases h1 : i = j
  · subst h1
    by_cases h2 : i < 8
    · simp [h2]
    · have h3 := m.2
      simp [h2]
      rw [List.getElem?_eq_none (by omega)]
      rfl
  · simp [h1]
theorem woec (z : List Value) : ∀ (k i : Nat) (m : Mt), i + k = 4 → (∀ j, j < 2 * i → m.at j = -1) →
    lim Try.prog cfg (.loop 30 0 (wfo 0) (SE (EJ 11 G0) [(3, .int .i64 i), (1, .pointer (some ⟨1, 0, none⟩)), (0, .pointer (some ⟨0, 0, none⟩))])) (HP [X z 55 0 true, X (mtC m) 55 0 true]) = some (.code (.exit 0) (SE (EJ 11 G0) [(1, .pointer (some ⟨1, 0, none⟩)), (0, .pointer (some ⟨0, 0, none⟩))]), HP [X z 55 0 true, X (mtC wap) 55 0 true]) := by
  intro k
  induction k with
  | zero =>
    intro i m hi hm
    have : m = wap := by
      apply Subtype.ext
      apply List.ext_getElem (by rw [m.2]; rfl)
      intro j h1 h2
      have h3 := hm j (by rw [m.2] at h1; omega)
      rw [Mt.at, List.getD_eq_getElem?_getD, List.getElem?_eq_getElem h1] at h3
      have h4 : wap.1[j] = -1 := by
        have : ∀ x ∈ wap.1, x = -1 := by decide
        exact this _ (List.getElem_mem h2)
      rw [h4]
      exact h3
    subst this
    refine wcb wuo ?_
    unfold wgo
    (repeat' (first | (simp -implicitDefEqProofs (maxSteps := 2000000) (disch := first | with_reducible assumption | omega | (simp only [zS, zA, seval, zD] <;> omega) | fail) only [zS, argl, insA, Go.Den.wm, wo, wu, looks, wz, wy, idOf, riA, seval, Go.Den.wh, kK, wmo, *, zT]) | (with_reducible (first | apply z1 | apply z2 | apply z3 | apply z4) <;> intro hq <;> (try simp only [zH] at hq) <;> (try (exfalso; omega)))))
  | succ k ih =>
    intro i m hi hm
    refine wcb wuo ?_
    unfold wgo
    (repeat' (first | (simp -implicitDefEqProofs (maxSteps := 2000000) (disch := first | with_reducible assumption | omega | (simp only [zS, zA, seval, zD] <;> omega) | fail) only [zS, argl, insA, Go.Den.wm, wo, wu, looks, wz, wy, idOf, riA, seval, Go.Den.wh, kK, wmo, *, zT]) | (with_reducible (first | apply z1 | apply z2 | apply z3 | apply z4) <;> intro hq <;> (try simp only [zH] at hq) <;> (try (exfalso; omega)))))
    refine ih (i + 1) _ (by omega) fun j hj => ?_
    rw [wrib, wrib]
    split
    · rfl
    · split
      · rfl
      · exact hm j (by omega)
theorem wpec : lim Try.prog cfg (.call 30 []) (HP []) = some (.val (.agg ⟨mtC wap⟩), HP []) := by
  refine wib hc wnab (Nat.le_of_ble_eq_true rfl) (Nat.le_of_ble_eq_true rfl) ?_
  unfold wbz
  have h := woec (mtC Mt.zero) 4 0 Mt.zero rfl (fun j hj => by omega)
  rw [show ((0 : Nat) : Int) = 0 from rfl, show mtC Mt.zero = [.int .i64 0, .int .i64 0, .int .i64 0, .int .i64 0, .int .i64 0, .int .i64 0, .int .i64 0, .int .i64 0] from rfl] at h
  (repeat' (first | (simp -implicitDefEqProofs (maxSteps := 2000000) (disch := first | with_reducible assumption | omega | (simp only [zS, zA, seval, zD] <;> omega) | fail) only [zS, argl, insA, Go.Den.wm, wo, wu, looks, wz, wy, idOf, riA, seval, Go.Den.wh, kK, wmo, h, *, zT]) | (with_reducible (first | apply z1 | apply z2 | apply z3 | apply z4) <;> intro hq <;> (try simp only [zH] at hq) <;> (try (exfalso; omega)))))
def wfu (m : Mt) (s : List UInt8) (n : Int) : List UInt8 :=
  if n < 0 then [] else if 4 ≤ n then [] else if m.at (n.toNat * 2) < 0 then [] else if m.at (n.toNat * 2) > m.at (n.toNat * 2 + 1) then [] else if m.at (n.toNat * 2 + 1) > s.length then []
  else (s.take (m.at (n.toNat * 2 + 1)).toNat).drop (m.at (n.toNat * 2)).toNat
theorem wrpb (m : Mt) (s : List UInt8) (n : Int) : lim Try.prog cfg (.call 31 [.agg ⟨mtC m⟩, str s, .int .i64 n]) (HP []) = some (.val (str (wfu m s n)), HP []) := by
  refine wib hc wjw (Nat.le_of_ble_eq_true rfl) (Nat.le_of_ble_eq_true rfl) ?_
  unfold wzt wfu
  (repeat' (first | (simp -implicitDefEqProofs (maxSteps := 2000000) (disch := first | with_reducible assumption | omega | (simp only [zS, zA, seval, zD] <;> omega) | fail) only [zS, argl, insA, Go.Den.wm, wo, wu, looks, wz, wy, idOf, riA, seval, Go.Den.wh, kK, *, zT]) | (with_reducible (first | apply z1 | apply z2 | apply z3 | apply z4) <;> intro hq <;> (try simp only [zH] at hq) <;> (try (exfalso; omega))) | (with_reducible apply z5; (case hl => (repeat (first | exact .nil | with_reducible apply z6 | with_reducible apply z7))); (case h => kernel_rfl))))
theorem ev_Has (s : BitVec 256) (x : Nat) (hx : x < 256) : lim Try.prog cfg (.call 83 [.agg ⟨setC s⟩, .int .u8 x]) (HP []) = some (.val (.bool (s.getLsbD x)), HP []) := by
  refine wib hc wsab (Nat.le_of_ble_eq_true rfl) (Nat.le_of_ble_eq_true rfl) ?_
  unfold wgz
  have h1 : BitVec.ofInt (IntKind.bits .u64) 1 = BitVec.ofInt (IntKind.bits .u64) (((1#64).toNat : Nat) : Int) := rfl
  (repeat' (first | (simp -implicitDefEqProofs (maxSteps := 2000000) (disch := first | with_reducible assumption | omega | (simp only [zS, zA, seval, zD] <;> omega) | fail) only [zS, argl, insA, Go.Den.wm, wo, wu, looks, wz, wy, idOf, riA, seval, Go.Den.wh, kK, wnpb, shr_u64, h1, and_u64, bit_one, *, zT]) | (with_reducible (first | apply z1 | apply z2 | apply z3 | apply z4) <;> intro hq <;> (try simp only [zH] at hq) <;> (try (exfalso; omega)))))
  have e1 : ((x : Int) / 64).toNat = x / 64 := by omega
  have e2 : ((x : Int) % 64).toNat = x % 64 := by omega
  rw [e1, e2, has_bit s x hx]
end
end Go.Proofs.Ytdbhfmdndiphcaa
namespace Go.Den
noncomputable section
variable {P : Program}
def nfX : Option ABlk → Bool
  | some (.cells b) => isNil b.lens && (Nat.beq b.wver 0 && !b.pf)
  | _ => false
theorem wae {cs : List Value} {t z : Nat} : nfX (some (X cs t z false)) = true := rfl
def rowU (i n k : Nat) : Option (List Value × Frs) → Option (Value × Frs)
  | some (cs, f) => bif wtb cs then some (FL n cs, (i, k) :: f) else none
  | none => none
theorem wnc {i n k : Nat} {cs : List Value} {f : Frs} : rowU i n k (some (cs, f)) = bif wtb cs then some (FL n cs, (i, k) :: f) else none := rfl
def rowT (P : Program) (i n c : Nat) (sl : List Value → Option (List Value × Frs)) : Option ABlk → Option (Value × Frs)
  | some (.cells b) => bif Nat.ble n c && (Nat.blt 0 (tsz P b.elem) && Nat.ble (n * tsz P b.elem) b.cells.length) then rowU i n (n * tsz P b.elem) (sl (slotsOf b.cells 0 (n * tsz P b.elem))) else none
  | _ => none
theorem whg {i n c : Nat} {sl : List Value → Option (List Value × Frs)} {cs : List Value} {t z : Nat} {pf : Bool} : rowT P i n c sl (some (X cs t z pf)) = bif Nat.ble n c && (Nat.blt 0 (tsz P t) && Nat.ble (n * tsz P t) cs.length) then rowU i n (n * tsz P t) (sl (slotsOf cs 0 (n * tsz P t))) else none := rfl
theorem woc {h : List ABlk} (hh : h.length ≤ 1099511627774) {i n c : Nat} {sl : List Value → Option (List Value × Frs)} (hx : nfX h[i]? = true) :
    wqe P (HP h) sl (.slice (some ⟨i, 0, none⟩) (n + 1) (c + 1)) = rowT P i (n + 1) c sl h[i]? := by
  show wvm P (HP h) sl ⟨i, 0, none⟩ (n + 1) (c + 1) = _
  unfold wvm
  rw [wyh h hh]
  cases hb : h[i]? with
  | none => rw [hb] at hx; cases hx
  | some b =>
    rw [hb] at hx
    cases b with
    | map es => cases hx
    | tok a b c => cases hx
    | cells b =>
      have hx : (isNil b.lens && (Nat.beq b.wver 0 && !b.pf)) = true := hx
      simp only [Bool.and_eq_true, Nat.beq_eq, Bool.not_eq_true'] at hx
      obtain ⟨h3, h4, h7⟩ := hx
      have h5 : b.lens = [] := by cases hl : b.lens with | nil => rfl | cons a r => rw [hl] at h3; cases h3
      have e0 : wfg P b = tsz P b.elem := by unfold wfg; rw [h5]; rfl
      have hi : wbc i = true := wsh (by have := wwt hb; omega)
      have h6 : rdOk b (aver ⟨i, 0, none⟩) (0 + (n + 1) * tsz P b.elem) = Nat.ble ((n + 1) * tsz P b.elem) b.cells.length := by
        unfold rdOk
        have e1 : b.top = 0 := by unfold CBlk.top; rw [h5]; rfl
        have e2 : b.lenAt 0 = b.cells.length := by unfold CBlk.lenAt; rw [h5]
        rw [h4, e1]
        show (Nat.ble 0 0 && (Nat.ble 0 0 && Nat.ble (0 + (n + 1) * tsz P b.elem) (b.lenAt 0))) = _
        rw [e2, Nat.zero_add, nble 0 0]
        simp
      simp only [e0, h6, h7, cond_false]
      show (bif (Nat.ble (n + 1) c && Nat.blt 0 (tsz P b.elem)) && Nat.ble ((n + 1) * tsz P b.elem) b.cells.length then _ else none) = (bif Nat.ble (n + 1) c && (Nat.blt 0 (tsz P b.elem) && Nat.ble ((n + 1) * tsz P b.elem) b.cells.length) then _ else none)
      rw [Bool.and_assoc]
      cases (Nat.ble (n + 1) c && (Nat.blt 0 (tsz P b.elem) && Nat.ble ((n + 1) * tsz P b.elem) b.cells.length)) with
      | false => rfl
      | true =>
        simp only [cond_true, hi, Bool.and_true, Nat.zero_add]
        cases sl (slotsOf b.cells 0 ((n + 1) * tsz P b.elem)) <;> rfl
end
end Go.Den
namespace Go.Den
noncomputable section
theorem wei : nfL [] = [] := rfl
theorem wif {v : Value} {r : List Value} : nfL (v :: r) = nfV v :: nfL r := rfl
theorem wcl {k : IntKind} {n : Int} : nfV (.int k n) = .int k n := rfl
theorem wjr {n : Nat} {cs : List Value} : nfV (FL n cs) = FL n cs := rfl
theorem wfi : nfV (.slice none 0 0) = FL 0 [] := rfl
theorem wrm {h : List ABlk} (hh : h.length ≤ 1099511627774) {elem size bytes t len n : Nat} {cs new : List Value} (ht : t < h.length) (hn : len + n ≤ 16777216) (hb : bytes ≤ 1048576) (hc : cs.length = len * size) (ha : wwe (nfL new) = true) :
    appN h elem size bytes (FO t len cs) n new = appT h elem size t len n cs (nfL new) h[t]? := by
  show (bif roomy (len + n) bytes then won (HP h) elem size t len cs (nfL new) n else .none) = _
  have h1 : roomy (len + n) bytes = true := by unfold roomy; rw [nble, nble, decide_eq_true hn, decide_eq_true hb]; rfl
  rw [h1, cond_true]
  generalize nfL new = new at *
  unfold won
  rw [wyh h hh]
  cases hq : h[t]? with
  | none => rfl
  | some b =>
    cases b with
    | cells b => rfl
    | map es => rfl
    | tok m el es =>
      show (bif wlr m el es elem size t len cs new then _ else _) = (bif decide (m = len ∧ el = elem ∧ es = size) then _ else _)
      have h2 : wlr m el es elem size t len cs new = decide (m = len ∧ el = elem ∧ es = size) := by
        unfold wlr
        rw [wrk ha, wcq ha, hc, Nat.beq_refl, wsh (by omega), nbeq, nbeq, nbeq]
        by_cases q1 : m = len <;> by_cases q2 : el = elem <;> by_cases q3 : es = size <;> simp [q1, q2, q3]
      rw [h2, wut _ _ _ ht]
      by_cases q : m = len ∧ el = elem ∧ es = size
      · obtain ⟨rfl, rfl, rfl⟩ := q; rfl
      · rw [decide_eq_false q]; rfl
theorem wqec {h : List ABlk} {elem size bytes : Nat} {s : Value} {t n : Nat} {cs : List Value} (h0 : 0 < n) (hc : n * size ≤ cs.length) : appA true (HP h) elem size bytes s (FO t n cs) = appN h elem size bytes s n (slotsOf cs 0 (n * size)) := by
  have h1 : appA true (HP h) elem size bytes s (FO t n cs) = appA true (HP h) elem size bytes s (FL n cs) := rfl
  rw [h1, app_FL h0 hc]
def appE (h : List ABlk) (elem size : Nat) (len n : Nat) (new : List Value) : Option ABlk → ARes
  | some (.cells b) => bif decide (len * size ≤ b.cells.length) then wsi true (HP h) elem size (slotsOf b.cells 0 (len * size) ++ new) (len + n) else .none
  | _ => .none
theorem wij {h : List ABlk} (hh : h.length ≤ 1099511627774) {elem size bytes i len c n : Nat} {new : List Value} (hx : wkec h[i]? = true) (hc : len + 1 ≤ c) (hg : c < len + 1 + n) (hr : len + 1 + n ≤ 16777216) (hb : bytes ≤ 1048576) :
    appN h elem size bytes (.slice (some ⟨i, 0, none⟩) (len + 1) (c + 1)) n new = appE h elem size (len + 1) n new h[i]? := by
  show (bif roomy (len + 1 + n) bytes && Nat.ble (len + 1) c then wpn true (HP h) elem size (.slice (some ⟨i, 0, none⟩) (len + 1) (c + 1)) ⟨i, 0, none⟩ (len + 1) c n new else .none) = _
  have h1 : roomy (len + 1 + n) bytes = true := by unfold roomy; rw [nble, nble, decide_eq_true hr, decide_eq_true hb]; rfl
  rw [h1, nble, decide_eq_true hc]
  unfold wpn
  rw [nble, decide_eq_false (by omega)]
  have h2 : wlj (HP h) size (len + 1) (.slice (some ⟨i, 0, none⟩) (len + 1) (c + 1)) = match whh (HP h) ⟨i, 0, none⟩ ((len + 1) * size) with
    | some b => some (slotsOf b.cells 0 ((len + 1) * size))
    | none => none := by
    show (bif Nat.ble (len + 1) (len + 1) && Nat.blt 0 (len + 1) then _ else none) = _
    rw [nble, nblt, decide_eq_true (Nat.le_refl _), decide_eq_true (Nat.succ_pos _)]
    rfl
  simp only [h2, Bool.and_self, cond_true, cond_false]
  unfold whh
  rw [wyh h hh]
  cases hq : h[i]? with
  | none => rw [hq] at hx; cases hx
  | some b =>
    rw [hq] at hx
    cases b with
    | cells b =>
      have hx : (isNil b.lens && Nat.beq b.wver 0) = true := hx
      simp only [Bool.and_eq_true, Nat.beq_eq] at hx
      obtain ⟨h3, h4⟩ := hx
      have h5 : b.lens = [] := by cases hl : b.lens with | nil => rfl | cons a r => rw [hl] at h3; cases h3
      have h6 : rdOk b (aver ⟨i, 0, none⟩) (0 + (len + 1) * size) = decide ((len + 1) * size ≤ b.cells.length) := by
        unfold rdOk
        have e1 : b.top = 0 := by unfold CBlk.top; rw [h5]; rfl
        have e2 : b.lenAt 0 = b.cells.length := by unfold CBlk.lenAt; rw [h5]
        rw [h4, e1]
        show (Nat.ble 0 0 && (Nat.ble 0 0 && Nat.ble (0 + (len + 1) * size) (b.lenAt 0))) = _
        rw [e2, Nat.zero_add, nble, nble]
        simp
      simp only [h6]
      by_cases hk : (len + 1) * size ≤ b.cells.length
      · simp only [decide_eq_true hk, cond_true, appE]
      · simp only [decide_eq_false hk, cond_false, appE]
    | map es => cases hx
    | tok a b c => cases hx
theorem wew {h : List ABlk} (hh : h.length ≤ 1099511627774) {elem size len n : Nat} {cs new : List Value} {t z : Nat} {pf : Bool} (hl : len * size ≤ cs.length) (ha : wwe (nfL (slotsOf cs 0 (len * size) ++ new)) = true) :
    appE h elem size len n new (some (X cs t z pf)) = .eff (FO h.length (len + n) (nfL (slotsOf cs 0 (len * size) ++ new))) (HP (h ++ [.tok (len + n) elem size])) := by
  show (bif decide (len * size ≤ cs.length) then wsi true (HP h) elem size (slotsOf cs 0 (len * size) ++ new) (len + n) else .none) = _
  rw [decide_eq_true hl, cond_true]
  show (bif waab (HP h) (nfL (slotsOf cs 0 (len * size) ++ new)) then ARes.eff (FO (HP h).n (len + n) (nfL (slotsOf cs 0 (len * size) ++ new))) ((HP h).push (.tok (len + n) elem size)) else .none) = _
  have h2 : waab (HP h) (nfL (slotsOf cs 0 (len * size) ++ new)) = true := by
    unfold waab
    rw [wrk ha, wcq ha, HP_n, wsh hh]; rfl
  rw [h2, cond_true, HP_n, wtl]
end
end Go.Den
namespace Go.Den
noncomputable section
variable {P : Program}
def ptrX (i : Nat) : Option CBlk → ARes
  | some _ => val (.pointer (some ⟨i, 0, none⟩))
  | none => .none
theorem wuj {i : Nat} {b : CBlk} : ptrX i (some b) = val (.pointer (some ⟨i, 0, none⟩)) := rfl
theorem wgu {v : Value} {cs : List Value} {t z : Nat} {pf : Bool} : rdX 0 1 (some (X (v :: cs) t z pf)) = some { cells := v :: cs, elem := t, esz := 1, lens := [], wver := 0, frz := z, mark := false, pf := pf } := rdX_X (by simp)
theorem woo {h : List ABlk} (hh : h.length ≤ 1099511627774) {i : Nat} : weyb (HP h) (.pointer (some ⟨i, 0, none⟩)) = ptrX i (rdX 0 1 h[i]?) := by
  show (match whh (HP h) ⟨i, 0, none⟩ 1 with | some _ => val (.pointer (some ⟨i, 0, none⟩)) | none => .none) = _
  rw [wvt hh]
  cases rdX 0 1 h[i]? <;> rfl
def frpX (P : Program) (u : TypeId) (i : Nat) : Option CBlk → ARes
  | some b => bif rowOk P b 0 u then val (.pointer (some ⟨i, 0, none⟩)) else .none
  | none => .none
theorem wvj {u : TypeId} {i : Nat} {cs : List Value} {t z : Nat} {pf : Bool} : frpX P u i (some { cells := cs, elem := t, esz := 1, lens := [], wver := 0, frz := z, mark := false, pf := pf }) = bif liesAt P P.depth t (cs.length / P.cellsOf t) 0 u 1 then val (.pointer (some ⟨i, 0, none⟩)) else .none := rfl
theorem wpo {h : List ABlk} (hh : h.length ≤ 1099511627774) {i : Nat} {u : TypeId} : wfyb P (HP h) u (.pointer (some ⟨i, 0, none⟩)) = frpX P u i (rdX 0 1 h[i]?) := by
  show (match whh (HP h) ⟨i, 0, none⟩ 1 with | some b => bif rowOk P b 0 u then val (.pointer (some ⟨i, 0, none⟩)) else .none | none => .none) = _
  rw [wvt hh]
  cases rdX 0 1 h[i]? <;> rfl
theorem whu {neg : Bool} {t : TypeId} : refA neg (.pointer t) (.pointer none) (.pointer none) = val (.bool (!neg)) := rfl
theorem wiu {neg : Bool} {t : TypeId} {a : Addr} : refA neg (.pointer t) (.pointer (some a)) (.pointer none) = val (.bool neg) := rfl
theorem wju {neg : Bool} {t : TypeId} {i : Nat} : refA neg (.pointer t) (.pointer (some ⟨i, 0, none⟩)) (.pointer (some ⟨i, 0, none⟩)) = val (.bool (!neg)) := by
  show (bif (Nat.beq i i && (Nat.beq 0 0 && Nat.beq 0 0)) then val (.bool (!neg)) else .none) = _
  rw [Nat.beq_refl]; rfl
theorem wrg {l : List UInt8} : (u8s l).length = l.length := List.length_map ..
theorem u8s_app {l m : List UInt8} : u8s l ++ u8s m = u8s (l ++ m) := by unfold u8s; rw [List.map_append]
theorem wmk (l : List UInt8) : wwe (u8s l) = true := by
  induction l with
  | nil => rfl
  | cons a l ih => show (wgp (.int .u8 a.toNat) && wwe (u8s l)) = true; rw [ih]; rfl
theorem wwj (l : List UInt8) : FzL (u8s l) := fzl (wmk l)
theorem u8s_all (l : List UInt8) : (u8s l).all isU8 = true := by
  rw [List.all_eq_true]
  intro v hv
  obtain ⟨b, _, rfl⟩ := List.mem_map.1 hv
  show Nat.ble b.toNat 255 = true
  have := b.toNat_lt
  rw [Nat.ble_eq]; omega
theorem u8s_back (l : List UInt8) : (u8s l).map toU8 = l := by
  unfold u8s
  rw [List.map_map]
  conv => rhs; rw [← List.map_id l]
  apply List.map_congr_left
  intro b _
  show UInt8.ofNat b.toNat = b
  simp
theorem wqo {h : List ABlk} {elem bytes : Nat} {s : Value} {l : List UInt8} (hl : l ≠ []) : appA true (HP h) elem 1 bytes s (.string ⟨⟨l⟩⟩) = appN h elem 1 bytes s l.length (u8s l) := by
  unfold appA
  have h1 : lenA (.string ⟨⟨l⟩⟩) = some l.length := rfl
  have hl : 0 < l.length := List.length_pos_iff.2 hl
  obtain ⟨n, hn⟩ : ∃ n, l.length = n + 1 := ⟨l.length - 1, by omega⟩
  have h2 : wlj (HP h) 1 (n + 1) (.string ⟨⟨l⟩⟩) = some (u8s l) := by
    show (bif Nat.beq 1 1 && Nat.ble (n + 1) l.length then some (u8s (l.take (n + 1))) else none) = _
    rw [← hn, nble, decide_eq_true (Nat.le_refl _), List.take_length]; rfl
  rw [h1, hn]
  simp only [h2]
  rfl
theorem wxj {h : List ABlk} {elem bytes : Nat} : appA true (HP h) elem 1 bytes (.slice none 0 0) (.string ⟨⟨[]⟩⟩) = .eff (.slice none 0 0) (HP h) := rfl
theorem whl {h : List ABlk} {elem bytes t n : Nat} {cs : List Value} : appA true (HP h) elem 1 bytes (FO t n cs) (.string ⟨⟨[]⟩⟩) = .eff (FO t n cs) (HP h) := rfl
theorem wro {h : List ABlk} : usdA (HP h) (.slice none 0 0) = val (.pointer none) := rfl
theorem wku {h : List ABlk} {t n : Nat} {cs : List Value} (hn : 0 < n) : usdA (HP h) (FO t n cs) = val (OP t n cs) := by
  show (bif Nat.blt 0 n then val (OP t n cs) else .none) = _
  rw [nblt, decide_eq_true hn]; rfl
theorem wil {h : List ABlk} {u : TypeId} : wycb P (HP h) u (.pointer none) (some 0) = val (.string ⟨#[]⟩) := rfl
def ustX (P : Program) (h : List ABlk) (u : TypeId) (n m : Nat) (cs : List Value) : Option ABlk → ARes
  | some (.tok k elem esz) => bif Nat.beq k m && (Nat.beq esz 1 && (Nat.ble n m && (wum P elem u && (Nat.ble n 9223372036854775807 && (cs.take n).all isU8)))) then .eff (.string ⟨((cs.take n).map toU8).toArray⟩) (HP h) else .none
  | _ => .none
theorem wso {h : List ABlk} (hh : h.length ≤ 1099511627774) {u : TypeId} {t n m : Nat} {cs : List Value} (hn : 0 < n) : wycb P (HP h) u (OP t m cs) (some n) = ustX P h u n m cs h[t]? := by
  obtain ⟨k, rfl⟩ : ∃ k, n = k + 1 := ⟨n - 1, by omega⟩
  show wtqb P (HP h) u (k + 1) m cs ((HP h).get t) = _
  rw [wyh h hh]
  cases h[t]? with
  | none => rfl
  | some b => cases b <;> rfl
theorem wjl {h : List ABlk} {u elem : TypeId} {l : List UInt8} (hb : wum P elem u = true) (hl : l.length ≤ 9223372036854775807) : ustX P h u l.length l.length (u8s l) (some (.tok l.length elem 1)) = .eff (.string ⟨⟨l⟩⟩) (HP h) := by
  show (bif Nat.beq l.length l.length && (Nat.beq 1 1 && (Nat.ble l.length l.length && (wum P elem u && (Nat.ble l.length 9223372036854775807 && ((u8s l).take l.length).all isU8)))) then _ else _) = _
  have ht : (u8s l).take l.length = u8s l := by rw [← wrg, List.take_length]
  rw [ht, u8s_all, u8s_back, hb, nble, nble, decide_eq_true (Nat.le_refl _), decide_eq_true hl, Nat.beq_refl]
  rfl
end
end Go.Den
namespace Go.Proofs.Ytdbhfmdndiphcaa
set_option linter.unusedVariables false
set_option linter.unusedSimpArgs false
open Go.Den
noncomputable section
theorem sb_lies : liesAt Try.prog Try.prog.depth 98 (2 / Try.prog.cellsOf 98) 0 98 1 = true := by kernel_rfl
theorem sb_bytes : wum Try.prog 5 5 = true := by kernel_rfl
abbrev sbP : Value := .pointer (some ⟨0, 0, none⟩)
abbrev SB : Nat := 98
abbrev BY : Nat := 5
def sbA (a : Bool) : Value := if a = true then sbP else .pointer none
theorem wsib : sbA true = sbP := rfl
theorem wtib : sbA false = .pointer none := rfl
def sbH (a : Bool) (l : List UInt8) : List ABlk := if l = [] then [X [sbA a, .slice none 0 0] SB 0 false] else [X [sbP, FO 1 l.length (u8s l)] SB 0 false, .tok l.length BY 1]
theorem wfvb {a : Bool} : sbH a [] = [X [sbA a, .slice none 0 0] SB 0 false] := rfl
theorem wgnb {a : Bool} {l : List UInt8} (h : l ≠ []) : sbH a l = [X [sbP, FO 1 l.length (u8s l)] SB 0 false, .tok l.length BY 1] := by unfold sbH; rw [if_neg h]
theorem check_no : lim Try.prog cfg (.call 71 [sbP]) (HP [X [.pointer none, .slice none 0 0] SB 0 false]) = some (.val (.tuple ⟨[]⟩), HP [X [sbP, .slice none 0 0] SB 0 false]) := by
  refine wib hc wzd (Nat.le_of_ble_eq_true rfl) (Nat.le_of_ble_eq_true rfl) ?_
  unfold wnd
  have h := sb_lies
  (repeat' (first | (simp -implicitDefEqProofs (maxSteps := 2000000) (disch := first | with_reducible assumption | omega | (simp only [zS, zA, seval, wmk, wrg, wwj] <;> omega) | fail) only [zS, argl, insA, Go.Den.wm, wo, wu, looks, wz, wy, idOf, riA, seval, Go.Den.wh, kK, whu, wiu, wju, woo, wpo, wgu, wuj, wvj, wqo, wxj, whl, wrg, wro, wku, wil, wso, wjl, *]) | (with_reducible (first | apply z1 | apply z2 | apply z3 | apply z4) <;> intro hq <;> (try simp only [zH] at hq) <;> (try (exfalso; omega)))))
  all_goals rfl
theorem wrec : lim Try.prog cfg (.call 71 [sbP]) (HP [X [sbP, .slice none 0 0] SB 0 false]) = some (.val (.tuple ⟨[]⟩), HP [X [sbP, .slice none 0 0] SB 0 false]) := by
  refine wib hc wzd (Nat.le_of_ble_eq_true rfl) (Nat.le_of_ble_eq_true rfl) ?_
  unfold wnd
  (repeat' (first | (simp -implicitDefEqProofs (maxSteps := 2000000) (disch := first | with_reducible assumption | omega | (simp only [zS, zA, seval, wmk, wrg, wwj] <;> omega) | fail) only [zS, argl, insA, Go.Den.wm, wo, wu, looks, wz, wy, idOf, riA, seval, Go.Den.wh, kK, whu, wiu, wju, woo, wpo, wgu, wuj, wvj, wqo, wxj, whl, wrg, wro, wku, wil, wso, wjl, *]) | (with_reducible (first | apply z1 | apply z2 | apply z3 | apply z4) <;> intro hq <;> (try simp only [zH] at hq) <;> (try (exfalso; omega)))))
  all_goals rfl
theorem wspb (n : Nat) (cs : List Value) : lim Try.prog cfg (.call 71 [sbP]) (HP [X [sbP, FO 1 n cs] SB 0 false, .tok n BY 1]) = some (.val (.tuple ⟨[]⟩), HP [X [sbP, FO 1 n cs] SB 0 false, .tok n BY 1]) := by
  refine wib hc wzd (Nat.le_of_ble_eq_true rfl) (Nat.le_of_ble_eq_true rfl) ?_
  unfold wnd
  (repeat' (first | (simp -implicitDefEqProofs (maxSteps := 2000000) (disch := first | with_reducible assumption | omega | (simp only [zS, zA, seval, wmk, wrg, wwj] <;> omega) | fail) only [zS, argl, insA, Go.Den.wm, wo, wu, looks, wz, wy, idOf, riA, seval, Go.Den.wh, kK, whu, wiu, wju, woo, wpo, wgu, wuj, wvj, wqo, wxj, whl, wrg, wro, wku, wil, wso, wjl, *]) | (with_reducible (first | apply z1 | apply z2 | apply z3 | apply z4) <;> intro hq <;> (try simp only [zH] at hq) <;> (try (exfalso; omega)))))
  all_goals rfl
theorem wuib (a : Bool) : lim Try.prog cfg (.call 71 [sbP]) (HP [X [sbA a, .slice none 0 0] SB 0 false]) = some (.val (.tuple ⟨[]⟩), HP [X [sbP, .slice none 0 0] SB 0 false]) := by
  cases a with
  | true => exact wrec
  | false => exact check_no
theorem wzw (a : Bool) : lim Try.prog cfg (.call 52 [sbP, str []]) (HP [X [sbA a, .slice none 0 0] SB 0 false]) = some (.val (.tuple ⟨[.int .i64 0, .nilIface]⟩), HP [X [sbP, .slice none 0 0] SB 0 false]) := by
  have h := wuib a
  refine wib hc wzc (Nat.le_of_ble_eq_true rfl) (Nat.le_of_ble_eq_true rfl) ?_
  unfold wsc
  cases a <;> simp only [wsib, wtib] at h ⊢
  all_goals (repeat' (first | (simp -implicitDefEqProofs (maxSteps := 2000000) (disch := first | with_reducible assumption | omega | (simp only [zS, zA, seval, wmk, wrg, wwj] <;> omega) | fail) only [zS, argl, insA, Go.Den.wm, wo, wu, looks, wz, wy, idOf, riA, seval, Go.Den.wh, kK, whu, wiu, wju, woo, wpo, wgu, wuj, wvj, wqo, wxj, whl, wrg, wro, wku, wil, wso, wjl, *]) | (with_reducible (first | apply z1 | apply z2 | apply z3 | apply z4) <;> intro hq <;> (try simp only [zH] at hq) <;> (try (exfalso; omega)))))
  all_goals rfl
theorem wax (a : Bool) (s : List UInt8) (hs : s.length ≤ 1000000) (h0 : s ≠ []) : lim Try.prog cfg (.call 52 [sbP, str s]) (HP [X [sbA a, .slice none 0 0] SB 0 false]) = some (.val (.tuple ⟨[.int .i64 s.length, .nilIface]⟩), HP [X [sbP, FO 1 s.length (u8s s)] SB 0 false, .tok s.length BY 1]) := by
  have h := wuib a
  refine wib hc wzc (Nat.le_of_ble_eq_true rfl) (Nat.le_of_ble_eq_true rfl) ?_
  unfold wsc
  cases a <;> simp only [wsib, wtib] at h ⊢
  all_goals (repeat' (first | (simp -implicitDefEqProofs (maxSteps := 2000000) (disch := first | with_reducible assumption | omega | (simp only [zS, zA, seval, wmk, wrg, wwj] <;> omega) | fail) only [zS, argl, insA, Go.Den.wm, wo, wu, looks, wz, wy, idOf, riA, seval, Go.Den.wh, kK, whu, wiu, wju, woo, wpo, wgu, wuj, wvj, wqo, wxj, whl, wrg, wro, wku, wil, wso, wjl, *]) | (with_reducible (first | apply z1 | apply z2 | apply z3 | apply z4) <;> intro hq <;> (try simp only [zH] at hq) <;> (try (exfalso; omega)))))
  all_goals rfl
theorem write_10 (l : List UInt8) : lim Try.prog cfg (.call 52 [sbP, str []]) (HP [X [sbP, FO 1 l.length (u8s l)] SB 0 false, .tok l.length BY 1]) = some (.val (.tuple ⟨[.int .i64 0, .nilIface]⟩), HP [X [sbP, FO 1 l.length (u8s l)] SB 0 false, .tok l.length BY 1]) := by
  have h := wspb l.length (u8s l)
  refine wib hc wzc (Nat.le_of_ble_eq_true rfl) (Nat.le_of_ble_eq_true rfl) ?_
  unfold wsc
  (repeat' (first | (simp -implicitDefEqProofs (maxSteps := 2000000) (disch := first | with_reducible assumption | omega | (simp only [zS, zA, seval, wmk, wrg, wwj] <;> omega) | fail) only [zS, argl, insA, Go.Den.wm, wo, wu, looks, wz, wy, idOf, riA, seval, Go.Den.wh, kK, whu, wiu, wju, woo, wpo, wgu, wuj, wvj, wqo, wxj, whl, wrg, wro, wku, wil, wso, wjl, *]) | (with_reducible (first | apply z1 | apply z2 | apply z3 | apply z4) <;> intro hq <;> (try simp only [zH] at hq) <;> (try (exfalso; omega)))))
  all_goals rfl
theorem write_11 (l s : List UInt8) (hs : l.length + s.length ≤ 1000000) (h0 : s ≠ []) : lim Try.prog cfg (.call 52 [sbP, str s]) (HP [X [sbP, FO 1 l.length (u8s l)] SB 0 false, .tok l.length BY 1]) = some (.val (.tuple ⟨[.int .i64 s.length, .nilIface]⟩), HP [X [sbP, FO 1 (l ++ s).length (u8s (l ++ s))] SB 0 false, .tok (l ++ s).length BY 1]) := by
  have h := wspb l.length (u8s l)
  rw [← u8s_app, List.length_append]
  refine wib hc wzc (Nat.le_of_ble_eq_true rfl) (Nat.le_of_ble_eq_true rfl) ?_
  unfold wsc
  (repeat' (first | (simp -implicitDefEqProofs (maxSteps := 2000000) (disch := first | with_reducible assumption | omega | (simp only [zS, zA, seval, wmk, wrg, wwj] <;> omega) | fail) only [zS, argl, insA, Go.Den.wm, wo, wu, looks, wz, wy, idOf, riA, seval, Go.Den.wh, kK, whu, wiu, wju, woo, wpo, wgu, wuj, wvj, wqo, wxj, whl, wrg, wro, wku, wil, wso, wjl, *]) | (with_reducible (first | apply z1 | apply z2 | apply z3 | apply z4) <;> intro hq <;> (try simp only [zH] at hq) <;> (try (exfalso; omega)))))
  all_goals rfl
theorem wtpb (a : Bool) : lim Try.prog cfg (.call 53 [sbP]) (HP [X [sbA a, .slice none 0 0] SB 0 false]) = some (.val (str []), HP [X [sbA a, .slice none 0 0] SB 0 false]) := by
  refine wib hc wfh (Nat.le_of_ble_eq_true rfl) (Nat.le_of_ble_eq_true rfl) ?_
  unfold wzf
  cases a <;> simp only [wsib, wtib]
  all_goals (repeat' (first | (simp -implicitDefEqProofs (maxSteps := 2000000) (disch := first | with_reducible assumption | omega | (simp only [zS, zA, seval, wmk, wrg, wwj] <;> omega) | fail) only [zS, argl, insA, Go.Den.wm, wo, wu, looks, wz, wy, idOf, riA, seval, Go.Den.wh, kK, whu, wiu, wju, woo, wpo, wgu, wuj, wvj, wqo, wxj, whl, wrg, wro, wku, wil, wso, wjl, *]) | (with_reducible (first | apply z1 | apply z2 | apply z3 | apply z4) <;> intro hq <;> (try simp only [zH] at hq) <;> (try (exfalso; omega))) | (with_reducible apply z5; (case hl => (repeat (first | exact .nil | with_reducible apply z6 | with_reducible apply z7))); (case h => kernel_rfl))))
  all_goals rfl
theorem wyeb (l : List UInt8) (h0 : 0 < l.length) (hl : l.length ≤ 1000000) : lim Try.prog cfg (.call 53 [sbP]) (HP [X [sbP, FO 1 l.length (u8s l)] SB 0 false, .tok l.length BY 1]) = some (.val (str l), HP [X [sbP, FO 1 l.length (u8s l)] SB 0 false, .tok l.length BY 1]) := by
  have h := sb_bytes
  refine wib hc wfh (Nat.le_of_ble_eq_true rfl) (Nat.le_of_ble_eq_true rfl) ?_
  unfold wzf
  (repeat' (first | (simp -implicitDefEqProofs (maxSteps := 2000000) (disch := first | with_reducible assumption | omega | (simp only [zS, zA, seval, wmk, wrg, wwj] <;> omega) | fail) only [zS, argl, insA, Go.Den.wm, wo, wu, looks, wz, wy, idOf, riA, seval, Go.Den.wh, kK, whu, wiu, wju, woo, wpo, wgu, wuj, wvj, wqo, wxj, whl, wrg, wro, wku, wil, wso, wjl, *]) | (with_reducible (first | apply z1 | apply z2 | apply z3 | apply z4) <;> intro hq <;> (try simp only [zH] at hq) <;> (try (exfalso; omega))) | (with_reducible apply z5; (case hl => (repeat (first | exact .nil | with_reducible apply z6 | with_reducible apply z7))); (case h => kernel_rfl))))
  all_goals rfl
theorem wnv (l s : List UInt8) (hs : l.length + s.length ≤ 1000000) : lim Try.prog cfg (.call 52 [sbP, str s]) (HP [X [sbP, FO 1 l.length (u8s l)] SB 0 false, .tok l.length BY 1]) = some (.val (.tuple ⟨[.int .i64 s.length, .nilIface]⟩), HP [X [sbP, FO 1 (l ++ s).length (u8s (l ++ s))] SB 0 false, .tok (l ++ s).length BY 1]) := by
  by_cases h : s = []
  · subst h
    rw [List.append_nil]
    exact write_10 l
  · exact write_11 l s hs h
end
end Go.Proofs.Ytdbhfmdndiphcaa
namespace Go.Den
noncomputable section
def addF : List St → List St → List St
  | l, [] => l
  | l, x :: xs => addF (if x ∈ l then l else l ++ [x]) xs
theorem wlu {l xs : List St} {x : St} : addF l (x :: xs) = addF (if x ∈ l then l else l ++ [x]) xs := rfl
theorem wcr {y : St} : ∀ (xs l : List St), y ∈ addF l xs ↔ y ∈ l ∨ y ∈ xs := by
  intro xs
  induction xs with
  | nil => intro l; simp [addF]
  | cons x xs ih =>
    intro l
    rw [wlu, ih]
    by_cases h : x ∈ l
    · rw [if_pos h]
      constructor
      · rintro (h1 | h1)
        · exact .inl h1
        · exact .inr (List.mem_cons_of_mem _ h1)
      · rintro (h1 | h1)
        · exact .inl h1
        · rcases List.mem_cons.1 h1 with rfl | h1
          · exact .inl h
          · exact .inr h1
    · rw [if_neg h]
      simp only [List.mem_append, List.mem_cons, List.not_mem_nil, or_false]
      constructor
      · rintro ((h1 | h1) | h1)
        · exact .inl h1
        · exact .inr (.inl h1)
        · exact .inr (.inr h1)
      · rintro (h1 | h1 | h1)
        · exact .inl (.inl h1)
        · exact .inl (.inr h1)
        · exact .inr h1
theorem wgvb : ∀ (xs l : List St), l.Nodup → (addF l xs).Nodup := by
  intro xs
  induction xs with
  | nil => intro l h; exact h
  | cons x xs ih =>
    intro l h
    rw [wlu]
    by_cases hx : x ∈ l
    · rw [if_pos hx]; exact ih l h
    · rw [if_neg hx]
      refine ih _ ?_
      rw [List.nodup_append]
      refine ⟨h, by simp, ?_⟩
      intro a ha b hb
      rw [List.mem_singleton] at hb
      subst hb
      intro hab
      subst hab
      exact hx ha
theorem wupb : ∀ (xs l : List St), l.length ≤ (addF l xs).length := by
  intro xs
  induction xs with
  | nil => intro l; exact Nat.le_refl _
  | cons x xs ih =>
    intro l
    rw [wlu]
    refine Nat.le_trans ?_ (ih _)
    split
    · exact Nat.le_refl _
    · simp
theorem waj {l xs : List St} (h : l ≠ [] ∨ xs ≠ []) : addF l xs ≠ [] := by
  intro he
  rcases h with h | h
  · obtain ⟨a, ha⟩ := List.exists_mem_of_ne_nil l h
    have := (wcr xs l).2 (.inl ha)
    rw [he] at this; cases this
  · obtain ⟨a, ha⟩ := List.exists_mem_of_ne_nil xs h
    have := (wcr xs l).2 (.inr ha)
    rw [he] at this; cases this
def keyF (mn mx n : Int) (x : St) : Int × St := (if mx < 0 then min n mn else n, x)
def onF (w : St → List St) (mn mx : Int) : Nat → Int → St → List (Int × St) × List St → List (Int × St) × List St
  | 0, _, _, a => a
  | k + 1, n, x, a =>
    if keyF mn mx n x ∈ a.1 then a
    else
      let b := if mx < 0 ∨ n < mx then (w x).foldl (fun b y => if y.1 ≠ x.1 ∨ n < mn then onF w mn mx k (n + 1) y b else b) (a.1 ++ [keyF mn mx n x], a.2) else (a.1 ++ [keyF mn mx n x], a.2)
      if n ≥ mn then (b.1, addF b.2 [x]) else b
def whnb (s : List UInt8) (n : Int) (x : St) : List St :=
  if x.2.at (n.toNat * 2) < 0 then []
  else if x.2.at (n.toNat * 2 + 1) - x.2.at (n.toNat * 2) > s.length - x.1 then []
  else if (s.take (x.2.at (n.toNat * 2 + 1)).toNat).drop (x.2.at (n.toNat * 2)).toNat ≠ (s.take (x.1 + (x.2.at (n.toNat * 2 + 1) - x.2.at (n.toNat * 2))).toNat).drop x.1.toNat then []
  else [(x.1 + (x.2.at (n.toNat * 2 + 1) - x.2.at (n.toNat * 2)), x.2)]
def winb (w : St → List St) (l : List St) : List St := l.foldl (fun out y => addF out (w y)) []
def groupW (n : Int) (x : St) (l : List St) : List St := l.foldl (fun out y => addF out [(y.1, (y.2.put (n.toNat * 2) x.1).put (n.toNat * 2 + 1) y.1)]) []
mutual
def wjg (s : List UInt8) (bol : Bool) : Rx → St → List St
  | .mk k mn mx n set kids, x =>
    if k = 1 then (if x.1 < s.length ∧ set.getLsbD (s.getD x.1.toNat 0).toNat = true then [(x.1 + 1, x.2)] else [])
    else if k = 7 then (if x.1 = 0 ∧ bol = true then [x] else [])
    else if k = 8 then (if x.1 = s.length then [x] else [])
    else if k = 6 then whnb s n x
    else if k = 5 then groupW n x (kidF s bol kids x)
    else if k = 3 then altF s bol kids x []
    else if k = 2 then catF s bol kids [x]
    else if k = 4 then (onF (fun y => kidF s bol kids y) mn mx 100 0 x ([], [])).2
    else []
def kidF (s : List UInt8) (bol : Bool) : List Rx → St → List St
  | [], _ => []
  | r :: _, x => wjg s bol r x
def altF (s : List UInt8) (bol : Bool) : List Rx → St → List St → List St
  | [], _, out => out
  | r :: rs, x, out => altF s bol rs x (addF out (wjg s bol r x))
def catF (s : List UInt8) (bol : Bool) : List Rx → List St → List St
  | [], l => l
  | r :: rs, l => catF s bol rs (winb (fun y => wjg s bol r y) l)
end
mutual
def okR : Rx → Bool
  | .mk k mn mx n _ kids =>
    (if k = 5 then decide (kids ≠ []) && (decide (1 ≤ n) && decide (n ≤ 3)) else if k = 4 then decide (kids ≠ []) && (decide (0 ≤ mn) && (decide (mn ≤ 20) && (decide (-1 ≤ mx) && decide (mx ≤ 20)))) else if k = 6 then decide (1 ≤ n) && decide (n ≤ 3) else true) && okRs kids
def okRs : List Rx → Bool
  | [] => true
  | r :: rs => okR r && okRs rs
end
def wsec (len : Nat) (a b : Int) : Prop := (a = -1 ∧ b = -1) ∨ (0 ≤ a ∧ a ≤ b ∧ b ≤ len)
structure GdS (len : Nat) (x : St) : Prop where
  lo : 0 ≤ x.1
  hi : x.1 ≤ len
  m0 : x.2.at 0 = -1
  m1 : x.2.at 1 = -1
  sp : ∀ g : Nat, 1 ≤ g → g ≤ 3 → wsec len (x.2.at (g * 2)) (x.2.at (g * 2 + 1))
theorem Mt.at_put (m : Mt) (i j : Nat) (a : Int) : (m.put i a).at j = if i = j ∧ j < 8 then a else m.at j := by
  rw [Mt.at, Mt.at, Mt.put, List.getD_eq_getElem?_getD, List.getD_eq_getElem?_getD, List.getElem?_set, m.2]
  by_cases h1 : i = j
  · subst h1
    by_cases h2 : i < 8
    · simp [h2]
    · have h3 := m.2
      simp [h2]
      rw [List.getElem?_eq_none (by omega)]
      rfl
  · simp [h1]
theorem GdS.move {len : Nat} {x : St} (h : GdS len x) {a : Int} (h1 : 0 ≤ a) (h2 : a ≤ len) : GdS len (a, x.2) := ⟨h1, h2, h.m0, h.m1, h.sp⟩
theorem GdS.group {len : Nat} {x y : St} (hx : GdS len x) (hy : GdS len y) (hxy : x.1 ≤ y.1) {n : Int} (n1 : 1 ≤ n) (n3 : n ≤ 3) : GdS len (y.1, (y.2.put (n.toNat * 2) x.1).put (n.toNat * 2 + 1) y.1) := by
  refine ⟨hy.lo, hy.hi, ?_, ?_, fun g g1 g3 => ?_⟩
  · show Mt.at _ 0 = -1
    rw [Mt.at_put, if_neg (by omega), Mt.at_put, if_neg (by omega)]; exact hy.m0
  · show Mt.at _ 1 = -1
    rw [Mt.at_put, if_neg (by omega), Mt.at_put, if_neg (by omega)]; exact hy.m1
  · show wsec len (Mt.at _ (g * 2)) (Mt.at _ (g * 2 + 1))
    rw [Mt.at_put, Mt.at_put, Mt.at_put, Mt.at_put]
    by_cases h : n.toNat = g
    · rw [if_neg (by omega), if_pos (by omega), if_pos (by omega)]
      exact .inr ⟨hx.lo, hxy, hy.hi⟩
    · rw [if_neg (by omega), if_neg (by omega), if_neg (by omega), if_neg (by omega)]
      exact hy.sp g g1 g3
structure RwS (len : Nat) (at0 : Int) (l : List St) : Prop where
  nd : l.Nodup
  good : ∀ y ∈ l, GdS len y ∧ at0 ≤ y.1
theorem RwS.nil {len : Nat} {a : Int} : RwS len a [] := ⟨List.nodup_nil, fun y h => (by cases h)⟩
theorem RwS.one {len : Nat} {a : Int} {x : St} (h : GdS len x) (ha : a ≤ x.1) : RwS len a [x] := ⟨by simp, fun y hy => by rw [List.mem_singleton] at hy; subst hy; exact ⟨h, ha⟩⟩
theorem RwS.add {len : Nat} {a : Int} {l xs : List St} (h : RwS len a l) (hx : ∀ y ∈ xs, GdS len y ∧ a ≤ y.1) : RwS len a (addF l xs) :=
  ⟨wgvb _ _ h.nd, fun y hy => by rcases (wcr _ _).1 hy with h1 | h1; exact h.good y h1; exact hx y h1⟩
theorem RwS.fold {len : Nat} {a : Int} {α : Type} (f : α → List St) : ∀ (l : List α), (∀ z ∈ l, ∀ y ∈ f z, GdS len y ∧ a ≤ y.1) → ∀ out, RwS len a out → RwS len a (l.foldl (fun out z => addF out (f z)) out) := by
  intro l
  induction l with
  | nil => intro _ out h; exact h
  | cons z l ih =>
    intro hf out h
    exact ih (fun z' hz' => hf z' (List.mem_cons_of_mem _ hz')) _ (h.add (hf z (List.mem_cons_self ..)))
theorem wvib {len : Nat} {a0 : Int} {w : St → List St} {mn mx : Int} (hw : ∀ x, GdS len x → a0 ≤ x.1 → RwS len x.1 (w x)) : ∀ (k : Nat) (n : Int) (x : St) (a : List (Int × St) × List St), GdS len x → a0 ≤ x.1 → RwS len a0 a.2 → RwS len a0 (onF w mn mx k n x a).2 := by
  intro k
  induction k with
  | zero => intro n x a _ _ h; exact h
  | succ k ih =>
    intro n x a hx hxa h
    have hf : ∀ (l : List St), (∀ y ∈ l, GdS len y ∧ x.1 ≤ y.1) → ∀ b : List (Int × St) × List St, RwS len a0 b.2 → RwS len a0 (l.foldl (fun b y => if y.1 ≠ x.1 ∨ n < mn then onF w mn mx k (n + 1) y b else b) b).2 := by
      intro l
      induction l with
      | nil => intro _ b hb; exact hb
      | cons y l ih2 =>
        intro hl b hb
        have hy := hl y (List.mem_cons_self ..)
        refine ih2 (fun z hz => hl z (List.mem_cons_of_mem _ hz)) _ ?_
        show RwS len a0 (if y.1 ≠ x.1 ∨ n < mn then onF w mn mx k (n + 1) y b else b).2
        split
        · exact ih _ _ _ hy.1 (by omega) hb
        · exact hb
    unfold onF
    split
    · exact h
    · simp only
      have hb : RwS len a0 (if mx < 0 ∨ n < mx then (w x).foldl (fun b y => if y.1 ≠ x.1 ∨ n < mn then onF w mn mx k (n + 1) y b else b) (a.1 ++ [keyF mn mx n x], a.2) else (a.1 ++ [keyF mn mx n x], a.2)).2 := by
        split
        · exact hf (w x) (hw x hx hxa).good _ h
        · exact h
      split
      · exact hb.add (fun y hy => by rw [List.mem_singleton] at hy; subst hy; exact ⟨hx, hxa⟩)
      · exact hb
theorem wvpb {len : Nat} {s : List UInt8} (hs : s.length = len) {n : Int} (n1 : 1 ≤ n) (n3 : n ≤ 3) {x : St} (hx : GdS len x) : RwS len x.1 (whnb s n x) := by
  unfold whnb
  split
  · exact .nil
  rename_i h0
  split
  · exact .nil
  rename_i h1
  split
  · exact .nil
  have h := hx.sp n.toNat (by omega) (by omega)
  have hlo := hx.lo
  have hhi := hx.hi
  rcases h with h | h
  · omega
  · exact .one (hx.move (by omega) (by omega)) (by show x.1 ≤ x.1 + _; omega)
theorem wmu {len : Nat} {s : List UInt8} (hs : s.length = len) {bol : Bool} : ∀ (r : Rx), okR r = true → ∀ x, GdS len x → RwS len x.1 (wjg s bol r x) := by
  refine Rx.rec (motive_1 := fun r => okR r = true → ∀ x, GdS len x → RwS len x.1 (wjg s bol r x))
    (motive_2 := fun kids => okRs kids = true → (∀ r ∈ kids, ∀ x, GdS len x → RwS len x.1 (wjg s bol r x))) ?_ ?_ ?_
  · intro k mn mx n set kids ih hok x hx
    rw [okR, Bool.and_eq_true] at hok
    have hk := ih hok.2
    have kid : kids ≠ [] → ∀ y, GdS len y → RwS len y.1 (kidF s bol kids y) := by
      intro hne y hy
      cases kids with
      | nil => exact absurd rfl hne
      | cons r rs => rw [kidF]; exact hk r (List.mem_cons_self ..) y hy
    rw [wjg]
    have hlo := hx.lo
    split
    · split
      · rename_i h; exact .one (hx.move (by omega) (by omega)) (by show x.1 ≤ x.1 + 1; omega)
      · exact .nil
    split
    · split
      · exact .one hx (Int.le_refl _)
      · exact .nil
    split
    · split
      · exact .one hx (Int.le_refl _)
      · exact .nil
    split
    · rename_i h6
      have h := hok.1
      rw [if_neg (by omega), if_neg (by omega), if_pos h6] at h
      simp only [Bool.and_eq_true, decide_eq_true_eq] at h
      exact wvpb hs h.1 h.2 hx
    split
    · rename_i h5
      have h := hok.1
      rw [if_pos h5] at h
      simp only [Bool.and_eq_true, decide_eq_true_eq] at h
      refine RwS.fold (fun y : St => [(y.1, (y.2.put (n.toNat * 2) x.1).put (n.toNat * 2 + 1) y.1)]) _ (fun z hz y hy => ?_) _ .nil
      rw [List.mem_singleton] at hy
      subst hy
      have hz := (kid h.1 x hx).good z hz
      exact ⟨hx.group hz.1 hz.2 h.2.1 h.2.2, hz.2⟩
    split
    · have alt : ∀ (l : List Rx), (∀ r ∈ l, ∀ x, GdS len x → RwS len x.1 (wjg s bol r x)) → ∀ out, RwS len x.1 out → RwS len x.1 (altF s bol l x out) := by
        intro l
        induction l with
        | nil => intro _ out h; rw [altF]; exact h
        | cons r l ih =>
          intro hl out h
          rw [altF]
          exact ih (fun r hr => hl r (List.mem_cons_of_mem _ hr)) _ (h.add (hl r (List.mem_cons_self ..) x hx).good)
      exact alt kids hk [] .nil
    split
    · have cat : ∀ (l : List Rx), (∀ r ∈ l, ∀ x, GdS len x → RwS len x.1 (wjg s bol r x)) → ∀ out, RwS len x.1 out → RwS len x.1 (catF s bol l out) := by
        intro l
        induction l with
        | nil => intro _ out h; rw [catF]; exact h
        | cons r l ih =>
          intro hl out h
          rw [catF]
          refine ih (fun r hr => hl r (List.mem_cons_of_mem _ hr)) _ ?_
          refine RwS.fold (fun y => wjg s bol r y) _ (fun z hz y hy => ?_) _ .nil
          have h1 := h.good z hz
          have h2 := (hl r (List.mem_cons_self ..) z h1.1).good y hy
          exact ⟨h2.1, by omega⟩
      exact cat kids hk [x] (.one hx (Int.le_refl _))
    split
    · rename_i h4
      have h := hok.1
      rw [if_neg (by omega), if_pos h4] at h
      simp only [Bool.and_eq_true, decide_eq_true_eq] at h
      exact wvib (a0 := x.1) (fun y hy _ => kid h.1 y hy) 100 0 x _ hx (Int.le_refl _) .nil
    · exact .nil
  · intro _ r hr; cases hr
  · intro r rs ih1 ih2 hok
    rw [okRs, Bool.and_eq_true] at hok
    intro r' hr'
    rcases List.mem_cons.1 hr' with rfl | h
    · exact ih1 hok.1
    · exact ih2 hok.2 r' h
theorem nodup_le {α : Type} [DecidableEq α] : ∀ (l L : List α), l.Nodup → (∀ x ∈ l, x ∈ L) → l.length ≤ L.length := by
  intro l
  induction l with
  | nil => intro L _ _; exact Nat.zero_le _
  | cons a l ih =>
    intro L hn hs
    rw [List.nodup_cons] at hn
    have ha := hs a (List.mem_cons_self ..)
    have h1 := ih (L.erase a) hn.2 (fun x hx => by
      refine (List.mem_erase_of_ne ?_).2 (hs x (List.mem_cons_of_mem _ hx))
      intro h
      subst h
      exact hn.1 hx)
    rw [List.length_erase_of_mem ha] at h1
    have := List.length_pos_of_mem ha
    rw [List.length_cons]
    omega
theorem wzeb {α β : Type} {f : α → List β} {k : Nat} (h : ∀ a, (f a).length = k) (l : List α) : (l.flatMap f).length = l.length * k := by
  induction l with
  | nil => simp
  | cons a l ih => rw [List.flatMap_cons, List.length_append, h, ih, List.length_cons, Nat.add_mul]; omega
def wdk (len : Nat) : List (Int × Int) := (-1, -1) :: (List.range (len + 1)).flatMap fun (a : Nat) => (List.range (len + 1 - a)).map fun (d : Nat) => ((a : Int), ((a + d : Nat) : Int))
def allSt (len : Nat) : List St := (List.range (len + 1)).flatMap fun (a : Nat) => (wdk len).flatMap fun p => (wdk len).flatMap fun q => (wdk len).map fun r => ((a : Int), ⟨[-1, -1, p.1, p.2, q.1, q.2, r.1, r.2], rfl⟩)
theorem wmz {len : Nat} {a b : Int} (h : wsec len a b) : (a, b) ∈ wdk len := by
  unfold wdk
  rcases h with ⟨rfl, rfl⟩ | ⟨h1, h2, h3⟩
  · exact List.mem_cons_self ..
  · refine List.mem_cons_of_mem _ (List.mem_flatMap.2 ⟨a.toNat, List.mem_range.2 (by omega), List.mem_map.2 ⟨(b - a).toNat, List.mem_range.2 (by omega), ?_⟩⟩)
    rw [Prod.mk.injEq]
    exact ⟨by omega, by omega⟩
theorem all_mem {len : Nat} {x : St} (h : GdS len x) : x ∈ allSt len := by
  obtain ⟨a, ⟨l, hl⟩⟩ := x
  match l, hl with
  | [c0, c1, c2, c3, c4, c5, c6, c7], hl =>
    obtain ⟨h1, h2, h3, h4, h5⟩ := h
    have e0 : c0 = -1 := h3
    have e1 : c1 = -1 := h4
    subst e0 e1
    have s1 := wmz (h5 1 (by omega) (by omega))
    have s2 := wmz (h5 2 (by omega) (by omega))
    have s3 := wmz (h5 3 (by omega) (by omega))
    have h1 : 0 ≤ a := h1
    have h2 : a ≤ len := h2
    refine List.mem_flatMap.2 ⟨a.toNat, List.mem_range.2 (by omega), List.mem_flatMap.2 ⟨_, s1, List.mem_flatMap.2 ⟨_, s2, List.mem_map.2 ⟨_, s3, ?_⟩⟩⟩⟩
    rw [Prod.mk.injEq]
    exact ⟨by omega, rfl⟩
theorem wtec : ∀ len : Nat, len ≤ 12 → (wdk len).length ≤ 92 := by
  intro len h
  match len, h with
  | 0, _ => decide
  | 1, _ => decide
  | 2, _ => decide
  | 3, _ => decide
  | 4, _ => decide
  | 5, _ => decide
  | 6, _ => decide
  | 7, _ => decide
  | 8, _ => decide
  | 9, _ => decide
  | 10, _ => decide
  | 11, _ => decide
  | 12, _ => decide
theorem row_len {len : Nat} {a : Int} {l : List St} (h : RwS len a l) (hl : len ≤ 12) : l.length ≤ 11000000 := by
  have h1 := nodup_le l (allSt len) h.nd (fun x hx => all_mem (h.good x hx).1)
  have h2 : (allSt len).length = (len + 1) * ((wdk len).length * ((wdk len).length * (wdk len).length)) := by
    unfold allSt
    rw [wzeb (k := (wdk len).length * ((wdk len).length * (wdk len).length)), List.length_range]
    intro a
    rw [wzeb (k := (wdk len).length * (wdk len).length)]
    intro p
    rw [wzeb (k := (wdk len).length)]
    intro q
    rw [List.length_map]
  have h3 := wtec len hl
  have h4 : (len + 1) * ((wdk len).length * ((wdk len).length * (wdk len).length)) ≤ 13 * (92 * (92 * 92)) :=
    Nat.mul_le_mul (by omega) (Nat.mul_le_mul h3 (Nat.mul_le_mul h3 h3))
  omega
end
end Go.Den
namespace Go.Proofs.Ytdbhfmdndiphcaa
set_option linter.unusedVariables false
set_option linter.unusedSimpArgs false
open Go.Den
noncomputable section
theorem wvab : KeyT Try.prog 113 stC :=
  ⟨by kernel_rfl, ⟨[.int .i64, .int .i64, .int .i64, .int .i64, .int .i64, .int .i64, .int .i64, .int .i64, .int .i64], by kernel_rfl, fun _ => wanb⟩, fun _ _ => st_eqL, fun _ => wydc⟩
theorem wgb (l : List St) : beqP (setK stC l) (setK stC l) = true := wjec (fun _ => st_bq) l
theorem wtk : lim Try.prog cfg (.call 85 []) (HP []) = some (.val (.pointer (some ⟨0, 0, none⟩)), HP [X [.slice none 0 0, .map (some 1)] 158 0 false, .map []]) := by
  refine wib hc wlw (Nat.le_of_ble_eq_true rfl) (Nat.le_of_ble_eq_true rfl) ?_
  unfold wbu
  (repeat' (first | (simp -implicitDefEqProofs (maxSteps := 2000000) (disch := first | with_reducible assumption | omega | (simp only [zS, zA, seval, zD] <;> omega) | fail) only [zS, argl, insA, Go.Den.wm, wo, wu, looks, wz, wy, idOf, riA, seval, Go.Den.wh, kK, *, zT]) | (with_reducible (first | apply z1 | apply z2 | apply z3 | apply z4) <;> intro hq <;> (try simp only [zH] at hq) <;> (try (exfalso; omega)))))
abbrev rowB (l : List St) : List ABlk := [X [FO 2 l.length (stsC l), .map (some 1)] 158 0 false, .map (setK stC l), .tok l.length 113 9]
abbrev rowC (l : List St) : List ABlk := [X [FO 1 l.length (stsC l), .map (some 2)] 158 0 false, .tok l.length 113 9, .map (setK stC l)]
abbrev rowN : List ABlk := [X [.slice none 0 0, .map (some 1)] 158 0 false, .map []]
theorem wph (xs : List St) {i : Nat} (h : i < xs.length) : xs.drop i = xs.getD i St.zero :: xs.drop (i + 1) := by
  rw [List.drop_eq_getElem_cons h, List.getD_eq_getElem?_getD, List.getElem?_eq_getElem h]; rfl
theorem wuec (xs : List St) (hx : xs.length ≤ 16000000) : ∀ (k i : Nat) (l : List St), i + k = xs.length → l ≠ [] → (addF l (xs.drop i)).length ≤ 16000000 →
    lim Try.prog cfg (.loop 86 3 (wwf 0) (SE (EJ 35 G0) [(8, .int .i64 i), (7, .int .i64 xs.length), (6, FL xs.length (stsC xs)), (0, .pointer (some ⟨0, 0, none⟩))])) (HP (rowC l)) = some (.code (.exit 0) (SE (EJ 35 G0) []), HP (rowC (addF l (xs.drop i)))) := by
  intro k
  induction k with
  | zero =>
    intro i l hi hl hn
    rw [List.drop_of_length_le (by omega)]
    refine wcb wyd ?_
    unfold wie
    (repeat' (first | (simp -implicitDefEqProofs (maxSteps := 2000000) (disch := first | with_reducible assumption | omega | (simp only [zS, zA, seval, wab, zD] <;> omega) | fail) only [zS, argl, insA, Go.Den.wm, wo, wu, looks, wz, wy, idOf, riA, seval, Go.Den.wh, kK, wtc, wab, *, zT]) | (with_reducible (first | apply z1 | apply z2 | apply z3 | apply z4) <;> intro hq <;> (try simp only [zH] at hq) <;> (try (exfalso; omega))) | (with_reducible apply z5; (case hl => (repeat (first | exact .nil | with_reducible apply z6 | with_reducible apply z7))); (case h => kernel_rfl))))
    all_goals rfl
  | succ k ih =>
    intro i l hi hl hn
    rw [wph xs (by omega), addF] at hn ⊢
    refine wcb wyd ?_
    unfold wie
    have hn2 := Nat.le_trans (wupb _ _) hn
    by_cases hm : xs.getD i St.zero ∈ l
    · rw [if_pos hm] at hn hn2 ⊢
      (repeat' (first | (simp -implicitDefEqProofs (maxSteps := 2000000) (disch := first | with_reducible assumption | omega | (simp only [zS, zA, seval, wab, zD] <;> omega) | fail) only [zS, argl, insA, Go.Den.wm, wo, wu, looks, wz, wy, idOf, riA, seval, Go.Den.wh, kK, wtc, wab, wpd wvab, wag wvab, *, zT]) | (with_reducible (first | apply z1 | apply z2 | apply z3 | apply z4) <;> intro hq <;> (try simp only [zH] at hq) <;> (try (exfalso; omega))) | (with_reducible apply z5; (case hl => (repeat (first | exact .nil | with_reducible apply z6 | with_reducible apply z7))); (case h => kernel_rfl))))
      exact ih (i + 1) l (by omega) hl hn
    · rw [if_neg hm] at hn hn2 ⊢
      have hn3 : l.length + 1 ≤ 16000000 := by rw [List.length_append] at hn2; exact hn2
      (repeat' (first | (simp -implicitDefEqProofs (maxSteps := 2000000) (disch := first | with_reducible assumption | omega | (simp only [zS, zA, seval, wab, zD] <;> omega) | fail) only [zS, argl, insA, Go.Den.wm, wo, wu, looks, wz, wy, idOf, riA, seval, Go.Den.wh, kK, wtc, wab, wpd wvab, wag wvab, *, zT]) | (with_reducible (first | apply z1 | apply z2 | apply z3 | apply z4) <;> intro hq <;> (try simp only [zH] at hq) <;> (try (exfalso; omega))) | (with_reducible apply z5; (case hl => (repeat (first | exact .nil | with_reducible apply z6 | with_reducible apply z7))); (case h => kernel_rfl))))
      have h := ih (i + 1) (l ++ [xs.getD i St.zero]) (by omega) (by simp) hn
      unfold rowC at h
      rw [show (l ++ [xs.getD i St.zero]).length = l.length + 1 by simp, wopb] at h
      exact h
theorem wvec (xs : List St) (hx : xs.length ≤ 16000000) : ∀ (k i : Nat) (l : List St), i + k = xs.length → l ≠ [] → (addF l (xs.drop i)).length ≤ 16000000 →
    lim Try.prog cfg (.loop 86 2 (wwf 0) (SE (EJ 35 G0) [(8, .int .i64 i), (7, .int .i64 xs.length), (6, FL xs.length (stsC xs)), (0, .pointer (some ⟨0, 0, none⟩))])) (HP (rowB l)) = some (.code (.exit 0) (SE (EJ 35 G0) []), HP (rowB (addF l (xs.drop i)))) := by
  intro k
  induction k with
  | zero =>
    intro i l hi hl hn
    rw [List.drop_of_length_le (by omega)]
    refine wcb wyd ?_
    unfold wie
    (repeat' (first | (simp -implicitDefEqProofs (maxSteps := 2000000) (disch := first | with_reducible assumption | omega | (simp only [zS, zA, seval, wab, zD] <;> omega) | fail) only [zS, argl, insA, Go.Den.wm, wo, wu, looks, wz, wy, idOf, riA, seval, Go.Den.wh, kK, wtc, wab, *, zT]) | (with_reducible (first | apply z1 | apply z2 | apply z3 | apply z4) <;> intro hq <;> (try simp only [zH] at hq) <;> (try (exfalso; omega))) | (with_reducible apply z5; (case hl => (repeat (first | exact .nil | with_reducible apply z6 | with_reducible apply z7))); (case h => kernel_rfl))))
    all_goals rfl
  | succ k ih =>
    intro i l hi hl hn
    rw [wph xs (by omega), addF] at hn ⊢
    refine wcb wyd ?_
    unfold wie
    have hn2 := Nat.le_trans (wupb _ _) hn
    by_cases hm : xs.getD i St.zero ∈ l
    · rw [if_pos hm] at hn hn2 ⊢
      (repeat' (first | (simp -implicitDefEqProofs (maxSteps := 2000000) (disch := first | with_reducible assumption | omega | (simp only [zS, zA, seval, wab, zD] <;> omega) | fail) only [zS, argl, insA, Go.Den.wm, wo, wu, looks, wz, wy, idOf, riA, seval, Go.Den.wh, kK, wtc, wab, wpd wvab, wag wvab, *, zT]) | (with_reducible (first | apply z1 | apply z2 | apply z3 | apply z4) <;> intro hq <;> (try simp only [zH] at hq) <;> (try (exfalso; omega))) | (with_reducible apply z5; (case hl => (repeat (first | exact .nil | with_reducible apply z6 | with_reducible apply z7))); (case h => kernel_rfl))))
      exact ih (i + 1) l (by omega) hl hn
    · rw [if_neg hm] at hn hn2 ⊢
      have hn3 : l.length + 1 ≤ 16000000 := by rw [List.length_append] at hn2; exact hn2
      (repeat' (first | (simp -implicitDefEqProofs (maxSteps := 2000000) (disch := first | with_reducible assumption | omega | (simp only [zS, zA, seval, wab, zD] <;> omega) | fail) only [zS, argl, insA, Go.Den.wm, wo, wu, looks, wz, wy, idOf, riA, seval, Go.Den.wh, kK, wtc, wab, wpd wvab, wag wvab, *, zT]) | (with_reducible (first | apply z1 | apply z2 | apply z3 | apply z4) <;> intro hq <;> (try simp only [zH] at hq) <;> (try (exfalso; omega))) | (with_reducible apply z5; (case hl => (repeat (first | exact .nil | with_reducible apply z6 | with_reducible apply z7))); (case h => kernel_rfl))))
      have h := ih (i + 1) (l ++ [xs.getD i St.zero]) (by omega) (by simp) hn
      unfold rowB at h
      rw [show (l ++ [xs.getD i St.zero]).length = l.length + 1 by simp, wopb] at h
      exact h
theorem wwec (xs : List St) (hx : xs.length ≤ 16000000) (h0 : xs ≠ []) (hn : (addF [] xs).length ≤ 16000000) :
    lim Try.prog cfg (.loop 86 2 (wwf 0) (SE (EJ 35 G0) [(8, .int .i64 0), (7, .int .i64 xs.length), (6, FL xs.length (stsC xs)), (0, .pointer (some ⟨0, 0, none⟩))])) (HP rowN) = some (.code (.exit 0) (SE (EJ 35 G0) []), HP (rowB (addF [] xs))) := by
  have hl : 0 < xs.length := List.length_pos_iff.2 h0
  have e : addF [] xs = addF [xs.getD 0 St.zero] (xs.drop 1) := by
    have h1 := wph xs hl
    rw [List.drop_zero] at h1
    conv => lhs; rw [h1]
    rw [wlu, if_neg (by simp)]
    rfl
  rw [e] at hn ⊢
  refine wcb wyd ?_
  unfold wie
  have hg := wteb (l := xs) (i := 0) hl
  rw [Nat.zero_mul] at hg
  have hm : xs.getD 0 St.zero ∉ ([] : List St) := by simp
  (repeat' (first | (simp -implicitDefEqProofs (maxSteps := 2000000) (disch := first | with_reducible assumption | omega | (simp only [zS, zA, seval, wab, zD] <;> omega) | fail) only [zS, argl, insA, Go.Den.wm, wo, wu, looks, wz, wy, idOf, riA, seval, Go.Den.wh, kK, wtc, wab, wweb (enc := stC), wpd wvab, wag wvab, *, zT]) | (with_reducible (first | apply z1 | apply z2 | apply z3 | apply z4) <;> intro hq <;> (try simp only [zH] at hq) <;> (try (exfalso; omega))) | (with_reducible apply z5; (case hl => (repeat (first | exact .nil | with_reducible apply z6 | with_reducible apply z7))); (case h => kernel_rfl))))
  have h := wvec xs hx (xs.length - 1) 1 [xs.getD 0 St.zero] (by omega) (by simp) hn
  unfold rowB at h
  rw [show [xs.getD 0 St.zero].length = 1 from rfl, ← sts_one] at h
  exact h
theorem wdr (l xs : List St) (hl : l ≠ []) (hx : xs.length ≤ 16000000) (hn : (addF l xs).length ≤ 16000000) : lim Try.prog cfg (.call 86 [.pointer (some ⟨0, 0, none⟩), FL xs.length (stsC xs)]) (HP (rowC l)) = some (.val (.tuple ⟨[]⟩), HP (rowC (addF l xs))) := by
  refine wib hc wik (Nat.le_of_ble_eq_true rfl) (Nat.le_of_ble_eq_true rfl) ?_
  unfold wlk
  have h := wuec xs hx xs.length 0 l (by omega) hl hn
  rw [List.drop_zero, show ((0 : Nat) : Int) = 0 from rfl] at h
  (repeat' (first | (simp -implicitDefEqProofs (maxSteps := 2000000) (disch := first | with_reducible assumption | omega | (simp only [zS, zA, seval, wab, zD] <;> omega) | fail) only [zS, argl, insA, Go.Den.wm, wo, wu, looks, wz, wy, idOf, riA, seval, Go.Den.wh, kK, wtc, wab, *, zT]) | (with_reducible (first | apply z1 | apply z2 | apply z3 | apply z4) <;> intro hq <;> (try simp only [zH] at hq) <;> (try (exfalso; omega)))))
theorem wnu (xs : List St) (h0 : xs ≠ []) (hx : xs.length ≤ 16000000) (hn : (addF [] xs).length ≤ 16000000) : lim Try.prog cfg (.call 86 [.pointer (some ⟨0, 0, none⟩), FL xs.length (stsC xs)]) (HP rowN) = some (.val (.tuple ⟨[]⟩), HP (rowB (addF [] xs))) := by
  refine wib hc wik (Nat.le_of_ble_eq_true rfl) (Nat.le_of_ble_eq_true rfl) ?_
  unfold wlk
  have h := wwec xs hx h0 hn
  (repeat' (first | (simp -implicitDefEqProofs (maxSteps := 2000000) (disch := first | with_reducible assumption | omega | (simp only [zS, zA, seval, wab, zD] <;> omega) | fail) only [zS, argl, insA, Go.Den.wm, wo, wu, looks, wz, wy, idOf, riA, seval, Go.Den.wh, kK, wtc, wab, *, zT]) | (with_reducible (first | apply z1 | apply z2 | apply z3 | apply z4) <;> intro hq <;> (try simp only [zH] at hq) <;> (try (exfalso; omega)))))
theorem wwpb : lim Try.prog cfg (.call 86 [.pointer (some ⟨0, 0, none⟩), FL 0 []]) (HP rowN) = some (.val (.tuple ⟨[]⟩), HP rowN) := by
  refine wib hc wik (Nat.le_of_ble_eq_true rfl) (Nat.le_of_ble_eq_true rfl) ?_
  unfold wlk
  have h : lim Try.prog cfg (.loop 86 2 (wwf 0) (SE (EJ 35 G0) [(8, .int .i64 0), (7, .int .i64 0), (6, FL 0 []), (0, .pointer (some ⟨0, 0, none⟩))])) (HP rowN) = some (.code (.exit 0) (SE (EJ 35 G0) []), HP rowN) := by
    refine wcb wyd ?_
    unfold wie
    (repeat' (first | (simp -implicitDefEqProofs (maxSteps := 2000000) (disch := first | with_reducible assumption | omega | (simp only [zS, zA, seval, zD] <;> omega) | fail) only [zS, argl, insA, Go.Den.wm, wo, wu, looks, wz, wy, idOf, riA, seval, Go.Den.wh, kK, wtc, *, zT]) | (with_reducible (first | apply z1 | apply z2 | apply z3 | apply z4) <;> intro hq <;> (try simp only [zH] at hq) <;> (try (exfalso; omega))) | (with_reducible apply z5; (case hl => (repeat (first | exact .nil | with_reducible apply z6 | with_reducible apply z7))); (case h => kernel_rfl))))
  (repeat' (first | (simp -implicitDefEqProofs (maxSteps := 2000000) (disch := first | with_reducible assumption | omega | (simp only [zS, zA, seval, zD] <;> omega) | fail) only [zS, argl, insA, Go.Den.wm, wo, wu, looks, wz, wy, idOf, riA, seval, Go.Den.wh, kK, wtc, Int.natCast_zero, *, zT]) | (with_reducible (first | apply z1 | apply z2 | apply z3 | apply z4) <;> intro hq <;> (try simp only [zH] at hq) <;> (try (exfalso; omega))) | (with_reducible apply z5; (case hl => (repeat (first | exact .nil | with_reducible apply z6 | with_reducible apply z7))); (case h => kernel_rfl))))
end
end Go.Proofs.Ytdbhfmdndiphcaa
