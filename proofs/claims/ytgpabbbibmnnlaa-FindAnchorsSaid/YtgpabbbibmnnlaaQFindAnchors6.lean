/-
  PARTS OF A PROOF, joined by a program (6 of 7): a proved reckoner of the model, and what the functions come to.
-/
import Derived.Test.YtgpabbbibmnnlaaQFindAnchors5
import Derived.Test.YtgpabbbibmnnlaaProg
import Derived.KernelRfl
set_option linter.unusedVariables false
set_option linter.unusedSimpArgs false
namespace Go.Proofs.Ytgpabbbibmnnlaa
open Go.Den
@[reducible] def Mv (d n : Nat) : RO := ⟨some d, none, .ins (.mv (.tmp n))⟩
@[reducible] def Op (d : Nat) (i : RI) : RO := ⟨some d, none, i⟩
@[reducible] def Oi (d : Nat) (i : Ins) : RO := ⟨some d, none, .ins i⟩
@[reducible] def On (i : Ins) : RO := ⟨none, none, .ins i⟩
@[reducible] def Ot (d g : Nat) (i : RI) : RO := ⟨some d, some (some g, true), i⟩
@[reducible] def Of (d g : Nat) (i : RI) : RO := ⟨some d, some (some g, false), i⟩
@[reducible] def Tm (n : Nat) : Operand := .tmp n
@[reducible] def Kn (n : Int) : Operand := .const (.int .i64 n)
@[reducible] def Kb (b : Bool) : Operand := .const (.bool b)
noncomputable def wnj : RF := ⟨24, (.seq (.ops [Oi 6 (.mv (Kn 0))]) (.seq (.ops [Mv 7 0, Mv 8 2, Mv 9 1, Op 10 (.int2 .sub .i64 (Tm 8) (Tm 9)), Op 11 (.int2 .add .i64 (Tm 10) (Kn 1)), Op 12 (.int2 .rem .i64 (Tm 7) (Tm 11)), Mv 0 12]) (.seq (.seq (.ops [Mv 13 0, Op 14 (.int2 .lss .i64 (Tm 13) (Kn 0))]) (.cond (Tm 14) (.ops [Mv 15 0, Mv 16 2, Op 17 (.int2 .add .i64 (Tm 15) (Tm 16)), Mv 18 1, Op 19 (.int2 .sub .i64 (Tm 17) (Tm 18)), Op 20 (.int2 .add .i64 (Tm 19) (Kn 1)), Mv 0 20]) .skip)) (.seq (.ops [Mv 21 1, Mv 22 0, Op 23 (.int2 .add .i64 (Tm 21) (Tm 22)), Mv 6 23]) .ret)))), [(.tmp 6)]⟩
theorem wim : trF Try.prog 15 = some wnj := by kernel_rfl
noncomputable def wpl (i : Nat) : Code := lp Try.prog 38 i
noncomputable def wql : RC := (.seq (.ops [Op 4 (.int2 .lss .i64 (Tm 3) (Kn 4))]) (.seq (.cond (Tm 4) .skip (.exit 0)) (.seq (.block 1 (.seq (.ops [Mv 5 3, Mv 2 5]) (.ops [Mv 6 2, Oi 7 (.build [(.int .i64 0), (.int .i64 0)] [(0, (1, (Kn (-1)))), (1, (1, (Kn (-1))))]), Oi 8 (.iaddrA 4 2 (Tm 1) (Tm 6)), On (.store 2 (Tm 8) (Tm 7))]))) (.ops [Op 9 (.int2 .add .i64 (Tm 3) (Kn 1)), Mv 3 9]))))
theorem wzl : trC Try.prog (wpl 0) = wql := by kernel_rfl
noncomputable def wfv : RF := ⟨11, (.seq (.ops [Oi 0 (.new [(.int .i64 0), (.int .i64 0), (.int .i64 0), (.int .i64 0), (.int .i64 0), (.int .i64 0), (.int .i64 0), (.int .i64 0)] 53)]) (.seq (.ops [Oi 1 (.new [(.int .i64 0), (.int .i64 0), (.int .i64 0), (.int .i64 0), (.int .i64 0), (.int .i64 0), (.int .i64 0), (.int .i64 0)] 53)]) (.seq (.seq (.ops [Oi 3 (.mv (Kn 0))]) (.block 0 (.loop (wpl 0)))) (.seq (.ops [Oi 10 (.loadN 8 (Tm 1)), On (.store 8 (Tm 0) (Tm 10))]) .ret)))), [(.cellN 0 8)]⟩
theorem wlw : trF Try.prog 38 = some wfv := by kernel_rfl
noncomputable def wme (i : Nat) : Code := lp Try.prog 27 i
noncomputable def wag : RC := (.seq (.ops [Op 46 (.int2 .lss .i64 (Tm 45) (Tm 44))]) (.seq (.cond (Tm 46) .skip (.exit 2)) (.seq (.block 3 (.seq (.ops [Oi 47 (.iaddrS 9 (Tm 43) (Tm 45)), Oi 48 (.loadN 9 (Tm 47)), Oi 12 (.new [(.int .i64 0), (.int .i64 0), (.int .i64 0), (.int .i64 0), (.int .i64 0), (.int .i64 0), (.int .i64 0), (.int .i64 0), (.int .i64 0)] 87), On (.store 9 (Tm 12) (Tm 48))]) (.seq (.ops [Mv 49 10, Op 50 (.un .not (Tm 49)), Mv 51 50, Of 52 51 (.ins (.faddr 0 (Tm 12))), Of 53 51 (.ins (.load1 (Tm 52))), Of 54 51 (.ins (.faddr 0 (Tm 9))), Of 55 51 (.ins (.load1 (Tm 54))), Of 56 51 (.int2 .gtr .i64 (Tm 53) (Tm 55)), Oi 57 (.pick (Tm 51) (Kb true) (Tm 56))]) (.cond (Tm 57) (.ops [Oi 58 (.loadN 9 (Tm 12)), On (.store 9 (Tm 9) (Tm 58)), Oi 10 (.mv (Kb true))]) .skip)))) (.ops [Op 59 (.int2 .add .i64 (Tm 45) (Kn 1)), Mv 45 59]))))
theorem wvf : trC Try.prog (wme 1) = wag := by kernel_rfl
noncomputable def wbg : RC := (.seq (.seq (.ops [Mv 33 8, Mv 34 1, Op 35 (.slen (Tm 34)), Op 36 (.int2 .leq .i64 (Tm 33) (Tm 35))]) (.cond (Tm 36) .skip (.exit 0))) (.seq (.block 1 (.seq (.ops [Oi 39 (.build [(.int .i64 0), (.int .i64 0), (.int .i64 0), (.int .i64 0), (.int .i64 0), (.int .i64 0), (.int .i64 0), (.int .i64 0), (.int .i64 0)] []), Oi 9 (.new [(.int .i64 0), (.int .i64 0), (.int .i64 0), (.int .i64 0), (.int .i64 0), (.int .i64 0), (.int .i64 0), (.int .i64 0), (.int .i64 0)] 87), On (.store 9 (Tm 9) (Tm 39)), Oi 10 (.mv (Kb false))]) (.seq (.seq (.ops [Oi 40 (.loadN 9 (Tm 3)), Mv 41 1, Mv 42 8, Oi 43 (.call 36 [(Tm 40), (Tm 41), (Kb true), (Tm 42)]), Op 44 (.lenS (Tm 43)), Oi 45 (.mv (Kn 0))]) (.block 2 (.loop (wme 1)))) (.seq (.ops [Mv 60 10]) (.cond (Tm 60) (.seq (.ops [Mv 61 8, Oi 62 (.faddr 0 (Tm 9)), Oi 63 (.load1 (Tm 62)), Oi 64 (.build [(.int .i64 0), (.int .i64 0)] [(0, (1, (Tm 61))), (1, (1, (Tm 63)))]), Oi 65 (.faddr 1 (Tm 9)), Oi 66 (.iaddrA 4 2 (Tm 65) (Kn 0)), On (.store 2 (Tm 66) (Tm 64))]) (.seq (.ops [Oi 67 (.faddr 1 (Tm 9)), Oi 68 (.loadN 8 (Tm 67)), On (.store 8 (Tm 6) (Tm 68)), Oi 7 (.mv (Kb true))]) .ret)) .skip))))) (.ops [Mv 37 8, Op 38 (.int2 .add .i64 (Tm 37) (Kn 1)), Mv 8 38])))
theorem wwf : trC Try.prog (wme 0) = wbg := by kernel_rfl
noncomputable def wsq : RF := ⟨70, (.seq (.ops [Oi 3 (.box 47 (Tm 0)), Oi 6 (.new [(.int .i64 0), (.int .i64 0), (.int .i64 0), (.int .i64 0), (.int .i64 0), (.int .i64 0), (.int .i64 0), (.int .i64 0)] 53), Oi 7 (.mv (Kb false))]) (.seq (.seq (.ops [Mv 13 2, Op 14 (.int2 .lss .i64 (Tm 13) (Kn 0)), Mv 15 14, Of 16 15 (.ins (.mv (Tm 2))), Of 17 15 (.ins (.mv (Tm 1))), Of 18 15 (.slen (Tm 17)), Of 19 15 (.int2 .gtr .i64 (Tm 16) (Tm 18)), Oi 20 (.pick (Tm 15) (Kb true) (Tm 19)), Mv 21 20, Of 22 21 (.ins (.mv (Tm 1))), Of 23 21 (.slen (Tm 22)), Of 24 21 (.int2 .gtr .i64 (Tm 23) (Kn 60)), Oi 25 (.pick (Tm 21) (Kb true) (Tm 24)), Mv 26 25, Of 27 26 (.ins (.loadN 9 (Tm 3))), Of 28 26 (.ins (.call 69 [(Tm 27), (Kb true)])), Of 29 26 (.un .not (Tm 28)), Oi 30 (.pick (Tm 26) (Kb true) (Tm 29))]) (.cond (Tm 30) (.seq (.ops [Oi 31 (.call 38 []), On (.store 8 (Tm 6) (Tm 31)), Oi 7 (.mv (Kb false))]) .ret) .skip)) (.seq (.seq (.ops [Mv 32 2, Mv 8 32]) (.block 0 (.loop (wme 0)))) (.seq (.ops [Oi 69 (.call 38 []), On (.store 8 (Tm 6) (Tm 69)), Oi 7 (.mv (Kb false))]) .ret)))), [(.cellN 6 8), (.tmp 7)]⟩
theorem wks : trF Try.prog 27 = some wsq := by kernel_rfl
noncomputable def woj (i : Nat) : Code := lp Try.prog 30 i
noncomputable def wub : RC := (.seq (.seq (.ops [Mv 11 7, Mv 12 1, Op 13 (.slen (Tm 12)), Op 14 (.int2 .leq .i64 (Tm 11) (Tm 13))]) (.cond (Tm 14) .skip (.exit 0))) (.block 1 (.seq (.ops [Oi 16 (.loadN 9 (Tm 2)), Mv 17 1, Mv 18 7, Oi 19 (.call 27 [(Tm 16), (Tm 17), (Tm 18)]), Mv 15 19, Oi 20 (.ext (Tm 15) 0), Oi 21 (.ext (Tm 15) 1), Oi 8 (.new [(.int .i64 0), (.int .i64 0), (.int .i64 0), (.int .i64 0), (.int .i64 0), (.int .i64 0), (.int .i64 0), (.int .i64 0)] 53), On (.store 8 (Tm 8) (Tm 20)), Mv 9 21]) (.seq (.seq (.ops [Mv 22 9, Op 23 (.un .not (Tm 22))]) (.cond (Tm 23) (.seq (.ops [Mv 24 5, Mv 4 24]) .ret) .skip)) (.seq (.ops [Oi 25 (.iaddrA 4 2 (Tm 8) (Kn 0)), Oi 26 (.loadN 2 (Tm 25)), Oi 10 (.new [(.int .i64 0), (.int .i64 0)] 51), On (.store 2 (Tm 10) (Tm 26))]) (.seq (.ops [Oi 27 (.faddr 1 (Tm 10)), Oi 28 (.load1 (Tm 27)), Mv 7 28]) (.seq (.seq (.ops [Oi 29 (.faddr 0 (Tm 10)), Oi 30 (.load1 (Tm 29)), Oi 31 (.faddr 1 (Tm 10)), Oi 32 (.load1 (Tm 31)), Op 33 (.int2 .eql .i64 (Tm 30) (Tm 32))]) (.cond (Tm 33) (.seq (.ops [Mv 34 7, Op 35 (.int2 .add .i64 (Tm 34) (Kn 1)), Mv 7 35]) (.seq (.ops [Oi 36 (.faddr 1 (Tm 10)), Oi 37 (.load1 (Tm 36)), Mv 38 6, Op 39 (.int2 .eql .i64 (Tm 37) (Tm 38))]) (.cond (Tm 39) (.exit 1) .skip))) .skip)) (.seq (.ops [Mv 40 5, Oi 41 (.loadN 8 (Tm 8)), Oi 42 (.bslice 53 1 [(.int .i64 0), (.int .i64 0), (.int .i64 0), (.int .i64 0), (.int .i64 0), (.int .i64 0), (.int .i64 0), (.int .i64 0)] [(0, (8, (Tm 41)))]), Oi 43 (.app 53 8 64 (Tm 40) (Tm 42)), Mv 5 43]) (.ops [Oi 44 (.faddr 1 (Tm 10)), Oi 45 (.load1 (Tm 44)), Mv 6 45])))))))))
theorem wkb : trC Try.prog (woj 0) = wub := by kernel_rfl
noncomputable def wgv : RF := ⟨47, (.seq (.ops [Oi 2 (.box 47 (Tm 0)), Oi 4 (.mv (.const (.slice none 0 0)))]) (.seq (.ops [Oi 5 (.mv (.const (.slice none 0 0)))]) (.seq (.ops [Oi 6 (.mv (Kn (-1)))]) (.seq (.seq (.ops [Oi 7 (.mv (Kn 0))]) (.block 0 (.loop (woj 0)))) (.seq (.ops [Mv 46 5, Mv 4 46]) .ret))))), [(.tmp 4)]⟩
theorem wmw : trF Try.prog 30 = some wgv := by kernel_rfl
noncomputable def whv : RF := ⟨14, (.seq (.ops [Oi 2 (.box 47 (Tm 0)), Oi 4 (.mv (Kb false))]) (.seq (.ops [Oi 8 (.loadN 9 (Tm 2)), Mv 9 1, Oi 10 (.call 27 [(Tm 8), (Tm 9), (Kn 0)]), Mv 7 10, Oi 11 (.ext (Tm 7) 0), Oi 12 (.ext (Tm 7) 1), Oi 5 (.new [(.int .i64 0), (.int .i64 0), (.int .i64 0), (.int .i64 0), (.int .i64 0), (.int .i64 0), (.int .i64 0), (.int .i64 0)] 53), On (.store 8 (Tm 5) (Tm 11)), Mv 6 12]) (.seq (.ops [Mv 13 6, Mv 4 13]) .ret))), [(.tmp 4)]⟩
theorem wnw : trF Try.prog 33 = some whv := by kernel_rfl
noncomputable def wtb (i : Nat) : Code := lp Try.prog 75 i
noncomputable def wne : RC := (.seq (.ops [Op 83 (.int2 .lss .i64 (Tm 82) (Tm 81))]) (.seq (.cond (Tm 83) .skip (.exit 1)) (.seq (.block 2 (.seq (.ops [Oi 84 (.iaddrS 9 (Tm 80) (Tm 82)), Oi 85 (.loadN 9 (Tm 84)), Oi 10 (.new [(.int .i64 0), (.int .i64 0), (.int .i64 0), (.int .i64 0), (.int .i64 0), (.int .i64 0), (.int .i64 0), (.int .i64 0), (.int .i64 0)] 87), On (.store 9 (Tm 10) (Tm 85))]) (.seq (.ops [Oi 86 (.faddr 3 (Tm 4)), Oi 87 (.load1 (Tm 86)), Oi 88 (.faddr 0 (Tm 5)), Oi 89 (.load1 (Tm 88)), Oi 90 (.faddr 0 (Tm 10)), Oi 91 (.load1 (Tm 90)), Oi 92 (.build [(.int .i64 0), (.int .i64 0)] [(0, (1, (Tm 89))), (1, (1, (Tm 91)))]), Oi 93 (.faddr 1 (Tm 10)), Oi 94 (.iaddrA 4 2 (Tm 93) (Tm 87)), On (.store 2 (Tm 94) (Tm 92))]) (.ops [Mv 95 8, Oi 96 (.loadN 9 (Tm 10)), Oi 97 (.bslice 87 1 [(.int .i64 0), (.int .i64 0), (.int .i64 0), (.int .i64 0), (.int .i64 0), (.int .i64 0), (.int .i64 0), (.int .i64 0), (.int .i64 0)] [(0, (9, (Tm 96)))]), Oi 98 (.call 103 [(Tm 95), (Tm 97)])])))) (.ops [Op 99 (.int2 .add .i64 (Tm 82) (Kn 1)), Mv 82 99]))))
theorem woe : trC Try.prog (wtb 0) = wne := by kernel_rfl
noncomputable def wrd : RC := (.seq (.ops [Op 111 (.int2 .lss .i64 (Tm 110) (Tm 109))]) (.seq (.cond (Tm 111) .skip (.exit 3)) (.seq (.block 4 (.seq (.ops [Oi 112 (.iaddrS 9 (Tm 108) (Tm 110)), Oi 113 (.loadN 9 (Tm 112)), Oi 13 (.new [(.int .i64 0), (.int .i64 0), (.int .i64 0), (.int .i64 0), (.int .u64 0), (.int .u64 0), (.int .u64 0), (.int .u64 0), (.slice none 0 0)] 47), On (.store 9 (Tm 13) (Tm 113))]) (.ops [Mv 114 11, Oi 115 (.loadN 2 (Tm 3)), Oi 116 (.loadN 9 (Tm 13)), Oi 117 (.loadN 9 (Tm 5)), Oi 118 (.call 75 [(Tm 115), (Tm 116), (Tm 117)]), Oi 119 (.call 103 [(Tm 114), (Tm 118)])]))) (.ops [Op 120 (.int2 .add .i64 (Tm 110) (Kn 1)), Mv 110 120]))))
theorem wqd : trC Try.prog (wtb 1) = wrd := by kernel_rfl
noncomputable def wpe : RC := (.seq (.ops [Op 131 (.int2 .lss .i64 (Tm 130) (Tm 129))]) (.seq (.cond (Tm 131) .skip (.exit 5)) (.seq (.block 6 (.seq (.ops [Oi 132 (.iaddrS 9 (Tm 128) (Tm 130)), Oi 133 (.loadN 9 (Tm 132)), Oi 15 (.new [(.int .i64 0), (.int .i64 0), (.int .i64 0), (.int .i64 0), (.int .u64 0), (.int .u64 0), (.int .u64 0), (.int .u64 0), (.slice none 0 0)] 47), On (.store 9 (Tm 15) (Tm 133))]) (.ops [Oi 134 (.loadN 2 (Tm 3)), Oi 135 (.loadN 9 (Tm 15)), Mv 136 7, Oi 137 (.call 104 [(Tm 134), (Tm 135), (Tm 136)]), Mv 7 137]))) (.ops [Op 138 (.int2 .add .i64 (Tm 130) (Kn 1)), Mv 130 138]))))
theorem wqe : trC Try.prog (wtb 2) = wpe := by kernel_rfl
noncomputable def wam : RF := ⟨158, (.seq (.ops [Oi 3 (.box 138 (Tm 0)), Oi 4 (.box 47 (Tm 1)), Oi 5 (.box 87 (Tm 2)), Oi 6 (.mv (.const (.slice none 0 0)))]) (.seq (.ops [Oi 17 (.loadN 9 (Tm 5)), Oi 18 (.bslice 87 1 [(.int .i64 0), (.int .i64 0), (.int .i64 0), (.int .i64 0), (.int .i64 0), (.int .i64 0), (.int .i64 0), (.int .i64 0), (.int .i64 0)] [(0, (9, (Tm 17)))]), Mv 7 18]) (.seq (.seq (.ops [Oi 19 (.faddr 0 (Tm 4)), Oi 20 (.load1 (Tm 19))]) (.block 0 (.seq (.ops [Op 22 (.int2 .eql .i64 (Tm 20) (Kn 1)), Mv 21 22]) (.cond (Tm 21) (.seq (.draw #[0, 1, 0, 4, 12, 31, 63, 127, 255, 127, 639, 127, 2175, 7807, 16383, 32767] [Oi 23 (.faddr 0 (Tm 5)), Oi 24 (.load1 (Tm 23)), Oi 25 (.faddr 0 (Tm 3)), Oi 26 (.load1 (Tm 25)), Op 27 (.slen (Tm 26)), Op 28 (.int2 .lss .i64 (Tm 24) (Tm 27)), Mv 29 28, Ot 30 29 (.ins (.faddr 4 (Tm 4))), Ot 31 29 (.ins (.loadN 4 (Tm 30))), Ot 32 29 (.ins (.faddr 0 (Tm 3))), Ot 33 29 (.ins (.load1 (Tm 32))), Ot 34 29 (.ins (.faddr 0 (Tm 5))), Ot 35 29 (.ins (.load1 (Tm 34))), Ot 36 29 (.sidx (Tm 33) (Tm 35)), Ot 37 29 (.ins (.call 52 [(Tm 31), (Tm 36)])), Oi 38 (.pick (Tm 29) (Tm 37) (Kb false))]) (.cond (Tm 38) (.seq (.ops [Oi 39 (.faddr 0 (Tm 5)), Oi 40 (.load1 (Tm 39)), Op 41 (.int2 .add .i64 (Tm 40) (Kn 1)), Oi 42 (.faddr 0 (Tm 5)), On (.store 1 (Tm 42) (Tm 41))]) (.seq (.ops [Oi 43 (.loadN 9 (Tm 5)), Oi 44 (.bslice 87 1 [(.int .i64 0), (.int .i64 0), (.int .i64 0), (.int .i64 0), (.int .i64 0), (.int .i64 0), (.int .i64 0), (.int .i64 0), (.int .i64 0)] [(0, (9, (Tm 43)))]), Mv 6 44]) .ret)) .skip)) (.seq (.ops [Op 46 (.int2 .eql .i64 (Tm 20) (Kn 7)), Mv 45 46]) (.cond (Tm 45) (.seq (.ops [Oi 47 (.faddr 0 (Tm 5)), Oi 48 (.load1 (Tm 47)), Op 49 (.int2 .eql .i64 (Tm 48) (Kn 0)), Mv 50 49, Ot 51 50 (.ins (.faddr 1 (Tm 3))), Ot 52 50 (.ins (.load1 (Tm 51))), Oi 53 (.pick (Tm 50) (Tm 52) (Kb false))]) (.cond (Tm 53) (.seq (.ops [Mv 54 7, Mv 6 54]) .ret) .skip)) (.seq (.ops [Op 56 (.int2 .eql .i64 (Tm 20) (Kn 8)), Mv 55 56]) (.cond (Tm 55) (.seq (.ops [Oi 57 (.faddr 0 (Tm 5)), Oi 58 (.load1 (Tm 57)), Oi 59 (.faddr 0 (Tm 3)), Oi 60 (.load1 (Tm 59)), Op 61 (.slen (Tm 60)), Op 62 (.int2 .eql .i64 (Tm 58) (Tm 61))]) (.cond (Tm 62) (.seq (.ops [Mv 63 7, Mv 6 63]) .ret) .skip)) (.seq (.ops [Op 65 (.int2 .eql .i64 (Tm 20) (Kn 6)), Mv 64 65]) (.cond (Tm 64) (.seq (.ops [Oi 66 (.loadN 2 (Tm 3)), Oi 67 (.faddr 3 (Tm 4)), Oi 68 (.load1 (Tm 67)), Oi 69 (.loadN 9 (Tm 5)), Oi 70 (.call 101 [(Tm 66), (Tm 68), (Tm 69)]), Mv 6 70]) .ret) (.seq (.ops [Op 72 (.int2 .eql .i64 (Tm 20) (Kn 5)), Mv 71 72]) (.cond (Tm 71) (.seq (.ops [Oi 73 (.call 102 []), Mv 8 73]) (.seq (.seq (.draw #[0, 0, 2, 6, 14, 0, 63, 127, 0] [Oi 74 (.loadN 2 (Tm 3)), Oi 75 (.faddr 8 (Tm 4)), Oi 76 (.load1 (Tm 75)), Oi 77 (.iaddrS 9 (Tm 76) (Kn 0)), Oi 78 (.loadN 9 (Tm 77)), Oi 79 (.loadN 9 (Tm 5)), Oi 80 (.call 75 [(Tm 74), (Tm 78), (Tm 79)]), Op 81 (.lenS (Tm 80)), Oi 82 (.mv (Kn 0))]) (.block 1 (.loop (wtb 0)))) (.seq (.ops [Mv 100 8, Oi 101 (.nilc (Tm 100)), Oi 102 (.faddr 0 (Tm 101)), Oi 103 (.load1 (Tm 102)), Mv 6 103]) .ret))) (.seq (.ops [Op 105 (.int2 .eql .i64 (Tm 20) (Kn 3)), Mv 104 105]) (.cond (Tm 104) (.seq (.ops [Oi 106 (.call 102 []), Mv 11 106]) (.seq (.seq (.ops [Oi 107 (.faddr 8 (Tm 4)), Oi 108 (.load1 (Tm 107)), Op 109 (.lenS (Tm 108)), Oi 110 (.mv (Kn 0))]) (.block 3 (.loop (wtb 1)))) (.seq (.ops [Mv 121 11, Oi 122 (.nilc (Tm 121)), Oi 123 (.faddr 0 (Tm 122)), Oi 124 (.load1 (Tm 123)), Mv 6 124]) .ret))) (.seq (.ops [Op 126 (.int2 .eql .i64 (Tm 20) (Kn 2)), Mv 125 126]) (.cond (Tm 125) (.seq (.seq (.ops [Oi 127 (.faddr 8 (Tm 4)), Oi 128 (.load1 (Tm 127)), Op 129 (.lenS (Tm 128)), Oi 130 (.mv (Kn 0))]) (.block 5 (.loop (wtb 2)))) (.seq (.ops [Mv 139 7, Mv 6 139]) .ret)) (.seq (.ops [Op 141 (.int2 .eql .i64 (Tm 20) (Kn 4)), Mv 140 141]) (.cond (Tm 140) (.seq (.draw #[0, 0, 0, 0, 15, 31, 63] [Oi 142 (.loadN 2 (Tm 3)), Oi 143 (.loadN 9 (Tm 4)), Oi 144 (.call 102 []), Oi 145 .mkmap, Oi 146 (.build [(str []), (.bool false), (.int .i64 0), (.int .i64 0), (.int .i64 0), (.int .i64 0), (.int .u64 0), (.int .u64 0), (.int .u64 0), (.int .u64 0), (.slice none 0 0), (.pointer none), (.map none)] [(0, (2, (Tm 142))), (2, (9, (Tm 143))), (11, (1, (Tm 144))), (12, (1, (Tm 145)))]), Oi 147 (.box 183 (Tm 146)), Mv 16 147]) (.seq (.ops [Mv 148 16, Oi 149 (.loadN 9 (Tm 5)), Oi 150 (.call 105 [(Tm 148), (Kn 0), (Tm 149)])]) (.seq (.ops [Mv 151 16, Oi 152 (.nilc (Tm 151)), Oi 153 (.faddr 11 (Tm 152)), Oi 154 (.load1 (Tm 153)), Oi 155 (.nilc (Tm 154)), Oi 156 (.faddr 0 (Tm 155)), Oi 157 (.load1 (Tm 156)), Mv 6 157]) .ret))) .skip)))))))))))))))))) (.seq (.ops [Oi 6 (.mv (.const (.slice none 0 0)))]) .ret)))), [(.tmp 6)]⟩
theorem wfp : trF Try.prog 75 = some wam := by kernel_rfl
noncomputable def wbm : RF := ⟨55, (.seq (.ops [Oi 3 (.box 138 (Tm 0)), Oi 5 (.box 87 (Tm 2)), Oi 6 (.mv (.const (.slice none 0 0)))]) (.seq (.ops [Mv 9 1, Oi 10 (.faddr 1 (Tm 5)), Oi 11 (.iaddrA 4 2 (Tm 10) (Tm 9)), Oi 12 (.loadN 2 (Tm 11)), Oi 7 (.new [(.int .i64 0), (.int .i64 0)] 51), On (.store 2 (Tm 7) (Tm 12))]) (.seq (.seq (.ops [Oi 13 (.faddr 0 (Tm 7)), Oi 14 (.load1 (Tm 13)), Op 15 (.int2 .lss .i64 (Tm 14) (Kn 0))]) (.cond (Tm 15) (.seq (.ops [Oi 6 (.mv (.const (.slice none 0 0)))]) .ret) .skip)) (.seq (.ops [Oi 16 (.faddr 1 (Tm 7)), Oi 17 (.load1 (Tm 16)), Oi 18 (.faddr 0 (Tm 7)), Oi 19 (.load1 (Tm 18)), Op 20 (.int2 .sub .i64 (Tm 17) (Tm 19)), Mv 8 20]) (.seq (.seq (.draw #[0, 0, 2, 6, 0, 16, 62, 127, 255, 511, 1023, 511, 2559, 511, 8703, 32767, 511, 66047, 511, 262655, 511, 1049087, 511, 7340543, 16712191, 33554431, 67108863] [Mv 21 8, Oi 22 (.faddr 0 (Tm 3)), Oi 23 (.load1 (Tm 22)), Op 24 (.slen (Tm 23)), Oi 25 (.faddr 0 (Tm 5)), Oi 26 (.load1 (Tm 25)), Op 27 (.int2 .sub .i64 (Tm 24) (Tm 26)), Op 28 (.int2 .gtr .i64 (Tm 21) (Tm 27)), Mv 29 28, Of 30 29 (.ins (.faddr 0 (Tm 3))), Of 31 29 (.ins (.load1 (Tm 30))), Of 32 29 (.ins (.faddr 0 (Tm 7))), Of 33 29 (.ins (.load1 (Tm 32))), Of 34 29 (.ins (.faddr 1 (Tm 7))), Of 35 29 (.ins (.load1 (Tm 34))), Of 36 29 (.ssl (Tm 31) (some (Tm 33)) (some (Tm 35))), Of 37 29 (.ins (.faddr 0 (Tm 3))), Of 38 29 (.ins (.load1 (Tm 37))), Of 39 29 (.ins (.faddr 0 (Tm 5))), Of 40 29 (.ins (.load1 (Tm 39))), Of 41 29 (.ins (.faddr 0 (Tm 5))), Of 42 29 (.ins (.load1 (Tm 41))), Of 43 29 (.ins (.mv (Tm 8))), Of 44 29 (.int2 .add .i64 (Tm 42) (Tm 43)), Of 45 29 (.ssl (Tm 38) (some (Tm 40)) (some (Tm 44))), Of 46 29 (.str2 .neq (Tm 36) (Tm 45)), Oi 47 (.pick (Tm 29) (Kb true) (Tm 46))]) (.cond (Tm 47) (.seq (.ops [Oi 6 (.mv (.const (.slice none 0 0)))]) .ret) .skip)) (.seq (.ops [Oi 48 (.faddr 0 (Tm 5)), Oi 49 (.load1 (Tm 48)), Mv 50 8, Op 51 (.int2 .add .i64 (Tm 49) (Tm 50)), Oi 52 (.faddr 0 (Tm 5)), On (.store 1 (Tm 52) (Tm 51))]) (.seq (.ops [Oi 53 (.loadN 9 (Tm 5)), Oi 54 (.bslice 87 1 [(.int .i64 0), (.int .i64 0), (.int .i64 0), (.int .i64 0), (.int .i64 0), (.int .i64 0), (.int .i64 0), (.int .i64 0), (.int .i64 0)] [(0, (9, (Tm 53)))]), Mv 6 54]) .ret))))))), [(.tmp 6)]⟩
theorem wgp : trF Try.prog 101 = some wbm := by kernel_rfl
noncomputable def wtq : RF := ⟨4, (.seq (.ops [Oi 0 (.mv (.const (.pointer none)))]) (.seq (.ops [Oi 1 .mkmap, Oi 2 (.build [(.slice none 0 0), (.map none)] [(1, (1, (Tm 1)))]), Oi 3 (.box 178 (Tm 2)), Mv 0 3]) .ret)), [(.tmp 0)]⟩
theorem wls : trF Try.prog 102 = some wtq := by kernel_rfl
noncomputable def wwe (i : Nat) : Code := lp Try.prog 103 i
noncomputable def wvd : RC := (.seq (.ops [Op 9 (.int2 .lss .i64 (Tm 8) (Tm 7))]) (.seq (.cond (Tm 9) .skip (.exit 0)) (.seq (.block 1 (.seq (.ops [Oi 10 (.iaddrS 9 (Tm 6) (Tm 8)), Oi 11 (.loadN 9 (Tm 10)), Oi 5 (.new [(.int .i64 0), (.int .i64 0), (.int .i64 0), (.int .i64 0), (.int .i64 0), (.int .i64 0), (.int .i64 0), (.int .i64 0), (.int .i64 0)] 87), On (.store 9 (Tm 5) (Tm 11))]) (.seq (.draw #[0, 1, 3, 7, 0, 31, 63] [Mv 12 0, Oi 13 (.nilc (Tm 12)), Oi 14 (.faddr 1 (Tm 13)), Oi 15 (.load1 (Tm 14)), Oi 16 (.loadN 9 (Tm 5)), Op 17 (.look 87 (.bool false) false (Tm 15) (Tm 16)), Op 18 (.un .not (Tm 17))]) (.cond (Tm 18) (.seq (.draw #[0, 1, 3, 7, 0, 31] [Mv 19 0, Oi 20 (.nilc (Tm 19)), Oi 21 (.faddr 1 (Tm 20)), Oi 22 (.load1 (Tm 21)), Oi 23 (.loadN 9 (Tm 5)), On (.upd 87 (Tm 22) (Tm 23) (Kb true))]) (.draw #[0, 0, 2, 6, 14, 0, 32, 126, 255, 511, 1023] [Mv 24 0, Mv 25 0, Oi 26 (.nilc (Tm 25)), Oi 27 (.faddr 0 (Tm 26)), Oi 28 (.load1 (Tm 27)), Oi 29 (.loadN 9 (Tm 5)), Oi 30 (.bslice 87 1 [(.int .i64 0), (.int .i64 0), (.int .i64 0), (.int .i64 0), (.int .i64 0), (.int .i64 0), (.int .i64 0), (.int .i64 0), (.int .i64 0)] [(0, (9, (Tm 29)))]), Oi 31 (.app 87 9 72 (Tm 28) (Tm 30)), Oi 32 (.nilc (Tm 24)), Oi 33 (.faddr 0 (Tm 32)), On (.store 1 (Tm 33) (Tm 31))])) .skip)))) (.ops [Op 34 (.int2 .add .i64 (Tm 8) (Kn 1)), Mv 8 34]))))
theorem wod : trC Try.prog (wwe 0) = wvd := by kernel_rfl
noncomputable def whi : RF := ⟨35, (.seq (.ops [Mv 6 1, Op 7 (.lenS (Tm 6)), Oi 8 (.mv (Kn 0))]) (.block 0 (.loop (wwe 0)))), []⟩
theorem wci : trF Try.prog 103 = some whi := by kernel_rfl
noncomputable def wpf (i : Nat) : Code := lp Try.prog 104 i
noncomputable def wre : RC := (.seq (.ops [Op 14 (.int2 .lss .i64 (Tm 13) (Tm 12))]) (.seq (.cond (Tm 14) .skip (.exit 0)) (.seq (.block 1 (.seq (.ops [Oi 15 (.iaddrS 9 (Tm 11) (Tm 13)), Oi 16 (.loadN 9 (Tm 15)), Oi 9 (.new [(.int .i64 0), (.int .i64 0), (.int .i64 0), (.int .i64 0), (.int .i64 0), (.int .i64 0), (.int .i64 0), (.int .i64 0), (.int .i64 0)] 87), On (.store 9 (Tm 9) (Tm 16))]) (.ops [Mv 17 7, Oi 18 (.loadN 2 (Tm 3)), Oi 19 (.loadN 9 (Tm 4)), Oi 20 (.loadN 9 (Tm 9)), Oi 21 (.call 75 [(Tm 18), (Tm 19), (Tm 20)]), Oi 22 (.call 103 [(Tm 17), (Tm 21)])]))) (.ops [Op 23 (.int2 .add .i64 (Tm 13) (Kn 1)), Mv 13 23]))))
theorem wse : trC Try.prog (wpf 0) = wre := by kernel_rfl
noncomputable def wcm : RF := ⟨28, (.seq (.ops [Oi 3 (.box 138 (Tm 0)), Oi 4 (.box 47 (Tm 1)), Oi 6 (.mv (.const (.slice none 0 0)))]) (.seq (.ops [Oi 10 (.call 102 []), Mv 7 10]) (.seq (.seq (.ops [Mv 11 2, Op 12 (.lenS (Tm 11)), Oi 13 (.mv (Kn 0))]) (.block 0 (.loop (wpf 0)))) (.seq (.ops [Mv 24 7, Oi 25 (.nilc (Tm 24)), Oi 26 (.faddr 0 (Tm 25)), Oi 27 (.load1 (Tm 26)), Mv 6 27]) .ret)))), [(.tmp 6)]⟩
theorem whp : trF Try.prog 104 = some wcm := by kernel_rfl
noncomputable def wsd (i : Nat) : Code := lp Try.prog 105 i
noncomputable def wzc : RC := (.seq (.ops [Op 55 (.int2 .lss .i64 (Tm 54) (Tm 53))]) (.seq (.cond (Tm 55) .skip (.exit 0)) (.seq (.block 1 (.seq (.ops [Oi 56 (.iaddrS 9 (Tm 52) (Tm 54)), Oi 57 (.loadN 9 (Tm 56)), Oi 7 (.new [(.int .i64 0), (.int .i64 0), (.int .i64 0), (.int .i64 0), (.int .i64 0), (.int .i64 0), (.int .i64 0), (.int .i64 0), (.int .i64 0)] 87), On (.store 9 (Tm 7) (Tm 57))]) (.seq (.ops [Oi 58 (.faddr 0 (Tm 7)), Oi 59 (.load1 (Tm 58)), Oi 60 (.faddr 0 (Tm 5)), Oi 61 (.load1 (Tm 60)), Op 62 (.int2 .neq .i64 (Tm 59) (Tm 61)), Mv 63 62, Of 64 63 (.ins (.mv (Tm 1))), Of 65 63 (.ins (.mv (Tm 0))), Of 66 63 (.ins (.nilc (Tm 65))), Of 67 63 (.ins (.faddr 2 (Tm 66))), Of 68 63 (.ins (.faddr 1 (Tm 67))), Of 69 63 (.ins (.load1 (Tm 68))), Of 70 63 (.int2 .lss .i64 (Tm 64) (Tm 69)), Oi 71 (.pick (Tm 63) (Kb true) (Tm 70))]) (.cond (Tm 71) (.ops [Mv 72 0, Mv 73 1, Op 74 (.int2 .add .i64 (Tm 73) (Kn 1)), Oi 75 (.loadN 9 (Tm 7)), Oi 76 (.call 105 [(Tm 72), (Tm 74), (Tm 75)])]) .skip)))) (.ops [Op 77 (.int2 .add .i64 (Tm 54) (Kn 1)), Mv 54 77]))))
theorem wuc : trC Try.prog (wsd 0) = wzc := by kernel_rfl
noncomputable def wqh : RF := ⟨92, (.seq (.ops [Oi 5 (.box 87 (Tm 2))]) (.seq (.seq (.draw #[0, 1, 3, 7, 0, 0, 0, 112, 255] [Mv 8 0, Oi 9 (.nilc (Tm 8)), Oi 10 (.faddr 12 (Tm 9)), Oi 11 (.load1 (Tm 10)), Mv 12 0, Mv 13 1, Oi 14 (.loadN 9 (Tm 5)), Oi 15 (.call 125 [(Tm 12), (Tm 13), (Tm 14)]), Op 16 (.look 202 (.bool false) false (Tm 11) (Tm 15))]) (.cond (Tm 16) .ret .skip)) (.seq (.draw #[0, 1, 3, 7, 0, 0, 0, 112, 255] [Mv 17 0, Oi 18 (.nilc (Tm 17)), Oi 19 (.faddr 12 (Tm 18)), Oi 20 (.load1 (Tm 19)), Mv 21 0, Mv 22 1, Oi 23 (.loadN 9 (Tm 5)), Oi 24 (.call 125 [(Tm 21), (Tm 22), (Tm 23)]), On (.upd 202 (Tm 20) (Tm 24) (Kb true))]) (.seq (.seq (.ops [Mv 25 0, Oi 26 (.nilc (Tm 25)), Oi 27 (.faddr 2 (Tm 26)), Oi 28 (.faddr 2 (Tm 27)), Oi 29 (.load1 (Tm 28)), Op 30 (.int2 .lss .i64 (Tm 29) (Kn 0)), Mv 31 30, Of 32 31 (.ins (.mv (Tm 1))), Of 33 31 (.ins (.mv (Tm 0))), Of 34 31 (.ins (.nilc (Tm 33))), Of 35 31 (.ins (.faddr 2 (Tm 34))), Of 36 31 (.ins (.faddr 2 (Tm 35))), Of 37 31 (.ins (.load1 (Tm 36))), Of 38 31 (.int2 .lss .i64 (Tm 32) (Tm 37)), Oi 39 (.pick (Tm 31) (Kb true) (Tm 38))]) (.cond (Tm 39) (.seq (.draw #[0, 1, 3, 7, 0, 16, 48, 112, 240, 496, 1008, 0, 4095, 8191, 0] [Mv 40 0, Oi 41 (.nilc (Tm 40)), Oi 42 (.faddr 0 (Tm 41)), Oi 43 (.loadN 2 (Tm 42)), Mv 44 0, Oi 45 (.nilc (Tm 44)), Oi 46 (.faddr 2 (Tm 45)), Oi 47 (.faddr 8 (Tm 46)), Oi 48 (.load1 (Tm 47)), Oi 49 (.iaddrS 9 (Tm 48) (Kn 0)), Oi 50 (.loadN 9 (Tm 49)), Oi 51 (.loadN 9 (Tm 5)), Oi 52 (.call 75 [(Tm 43), (Tm 50), (Tm 51)]), Op 53 (.lenS (Tm 52)), Oi 54 (.mv (Kn 0))]) (.block 0 (.loop (wsd 0)))) .skip)) (.seq (.ops [Mv 78 1, Mv 79 0, Oi 80 (.nilc (Tm 79)), Oi 81 (.faddr 2 (Tm 80)), Oi 82 (.faddr 1 (Tm 81)), Oi 83 (.load1 (Tm 82)), Op 84 (.int2 .geq .i64 (Tm 78) (Tm 83))]) (.cond (Tm 84) (.draw #[0, 1, 3, 7, 0, 16, 63] [Mv 85 0, Oi 86 (.nilc (Tm 85)), Oi 87 (.faddr 11 (Tm 86)), Oi 88 (.load1 (Tm 87)), Oi 89 (.loadN 9 (Tm 5)), Oi 90 (.bslice 87 1 [(.int .i64 0), (.int .i64 0), (.int .i64 0), (.int .i64 0), (.int .i64 0), (.int .i64 0), (.int .i64 0), (.int .i64 0), (.int .i64 0)] [(0, (9, (Tm 89)))]), Oi 91 (.call 103 [(Tm 88), (Tm 90)])]) .skip)))))), []⟩
theorem wmi : trF Try.prog 105 = some wqh := by kernel_rfl
noncomputable def wch : RF := ⟨23, (.seq (.ops [Oi 5 (.box 87 (Tm 2)), Oi 6 (.new [(.int .i64 0), (.int .i64 0), (.int .i64 0), (.int .i64 0), (.int .i64 0), (.int .i64 0), (.int .i64 0), (.int .i64 0), (.int .i64 0), (.int .i64 0)] 202)]) (.seq (.seq (.ops [Mv 7 0, Oi 8 (.nilc (Tm 7)), Oi 9 (.faddr 2 (Tm 8)), Oi 10 (.faddr 2 (Tm 9)), Oi 11 (.load1 (Tm 10)), Op 12 (.int2 .lss .i64 (Tm 11) (Kn 0))]) (.cond (Tm 12) (.ops [Mv 13 1, Mv 14 0, Oi 15 (.nilc (Tm 14)), Oi 16 (.faddr 2 (Tm 15)), Oi 17 (.faddr 1 (Tm 16)), Oi 18 (.load1 (Tm 17)), Op 19 (.mm false (Tm 13) [(Tm 18)]), Mv 1 19]) .skip)) (.seq (.ops [Mv 20 1, Oi 21 (.loadN 9 (Tm 5)), Oi 22 (.build [(.int .i64 0), (.int .i64 0), (.int .i64 0), (.int .i64 0), (.int .i64 0), (.int .i64 0), (.int .i64 0), (.int .i64 0), (.int .i64 0), (.int .i64 0)] [(0, (1, (Tm 20))), (1, (9, (Tm 21)))]), On (.store 10 (Tm 6) (Tm 22))]) .ret))), [(.cellN 6 10)]⟩
theorem wuh : trF Try.prog 125 = some wch := by kernel_rfl
noncomputable def wiv : RF := ⟨35, (.seq (.ops [Oi 4 (.box 47 (Tm 0)), Oi 8 (.mv (.const (.slice none 0 0)))]) (.seq (.seq (.ops [Oi 9 (.loadN 9 (Tm 4)), Oi 10 (.call 69 [(Tm 9), (Kb true)]), Op 11 (.un .not (Tm 10)), Mv 12 11, Of 13 12 (.ins (.mv (Tm 1))), Of 14 12 (.slen (Tm 13)), Of 15 12 (.int2 .gtr .i64 (Tm 14) (Kn 60)), Oi 16 (.pick (Tm 12) (Kb true) (Tm 15)), Mv 17 16, Of 18 17 (.ins (.mv (Tm 3))), Of 19 17 (.int2 .lss .i64 (Tm 18) (Kn 0)), Oi 20 (.pick (Tm 17) (Kb true) (Tm 19)), Mv 21 20, Of 22 21 (.ins (.mv (Tm 3))), Of 23 21 (.ins (.mv (Tm 1))), Of 24 21 (.slen (Tm 23)), Of 25 21 (.int2 .gtr .i64 (Tm 22) (Tm 24)), Oi 26 (.pick (Tm 21) (Kb true) (Tm 25))]) (.cond (Tm 26) (.seq (.ops [Oi 8 (.mv (.const (.slice none 0 0)))]) .ret) .skip)) (.seq (.draw #[0, 0, 3, 0, 0, 0, 48, 127, 255] [Mv 27 1, Mv 28 2, Oi 29 (.build [(str []), (.bool false)] [(0, (1, (Tm 27))), (1, (1, (Tm 28)))]), Oi 30 (.loadN 9 (Tm 4)), Mv 31 3, Oi 32 (.call 38 []), Oi 33 (.build [(.int .i64 0), (.int .i64 0), (.int .i64 0), (.int .i64 0), (.int .i64 0), (.int .i64 0), (.int .i64 0), (.int .i64 0), (.int .i64 0)] [(0, (1, (Tm 31))), (1, (8, (Tm 32)))]), Oi 34 (.call 75 [(Tm 29), (Tm 30), (Tm 33)]), Mv 8 34]) .ret))), [(.tmp 8)]⟩
theorem wow : trF Try.prog 36 = some wiv := by kernel_rfl
noncomputable def wjv : RF := ⟨29, (.seq (.ops [Oi 2 (.box 47 (Tm 0)), Oi 4 (.mv (Kb false))]) (.seq (.ops [Mv 6 1, Oi 7 (.build [(.bool false), (.int .i64 0)] [(0, (1, (Tm 6)))]), Oi 8 (.box 165 (Tm 7)), Mv 5 8]) (.seq (.ops [Oi 9 (.loadN 9 (Tm 2)), Oi 10 (.call 74 [(Tm 9)]), Op 11 (.int2 .leq .i64 (Tm 10) (Kn 40)), Mv 12 11, Ot 13 12 (.ins (.mv (Tm 5))), Ot 14 12 (.ins (.loadN 9 (Tm 2))), Ot 15 12 (.ins (.call 96 [(Tm 13), (Tm 14)])), Oi 16 (.pick (Tm 12) (Tm 15) (Kb false)), Mv 17 16, Ot 18 17 (.ins (.mv (Tm 5))), Ot 19 17 (.ins (.loadN 9 (Tm 2))), Ot 20 17 (.ins (.call 97 [(Tm 18), (Tm 19), (Kn 0)])), Oi 21 (.pick (Tm 17) (Tm 20) (Kb false)), Mv 22 21, Ot 23 22 (.ins (.mv (Tm 5))), Ot 24 22 (.ins (.nilc (Tm 23))), Ot 25 22 (.ins (.faddr 1 (Tm 24))), Ot 26 22 (.ins (.load1 (Tm 25))), Ot 27 22 (.int2 .leq .i64 (Tm 26) (Kn 3)), Oi 28 (.pick (Tm 22) (Tm 27) (Kb false)), Mv 4 28]) .ret))), [(.tmp 4)]⟩
theorem wpw : trF Try.prog 69 = some wjv := by kernel_rfl
noncomputable def wrl (i : Nat) : Code := lp Try.prog 74 i
noncomputable def wsl : RC := (.seq (.ops [Op 10 (.int2 .lss .i64 (Tm 9) (Tm 8))]) (.seq (.cond (Tm 10) .skip (.exit 0)) (.seq (.block 1 (.seq (.ops [Oi 11 (.iaddrS 9 (Tm 7) (Tm 9)), Oi 12 (.loadN 9 (Tm 11)), Oi 5 (.new [(.int .i64 0), (.int .i64 0), (.int .i64 0), (.int .i64 0), (.int .u64 0), (.int .u64 0), (.int .u64 0), (.int .u64 0), (.slice none 0 0)] 47), On (.store 9 (Tm 5) (Tm 12))]) (.ops [Mv 13 3, Oi 14 (.loadN 9 (Tm 5)), Oi 15 (.call 74 [(Tm 14)]), Op 16 (.int2 .add .i64 (Tm 13) (Tm 15)), Mv 3 16]))) (.ops [Op 17 (.int2 .add .i64 (Tm 9) (Kn 1)), Mv 9 17]))))
theorem wdm : trC Try.prog (wrl 0) = wsl := by kernel_rfl
noncomputable def wkv : RF := ⟨19, (.seq (.ops [Oi 1 (.box 47 (Tm 0)), Oi 2 (.mv (Kn 0))]) (.seq (.ops [Oi 3 (.mv (Kn 1))]) (.seq (.seq (.ops [Oi 6 (.faddr 8 (Tm 1)), Oi 7 (.load1 (Tm 6)), Op 8 (.lenS (Tm 7)), Oi 9 (.mv (Kn 0))]) (.block 0 (.loop (wrl 0)))) (.seq (.ops [Mv 18 3, Mv 2 18]) .ret)))), [(.tmp 2)]⟩
theorem wqw : trF Try.prog 74 = some wkv := by kernel_rfl
noncomputable def wio (i : Nat) : Code := lp Try.prog 96 i
noncomputable def wyi : RF := ⟨45, (.seq (.ops [Oi 3 (.box 47 (Tm 1)), Oi 4 (.mv (Kb false))]) (.seq (.seq (.ops [Mv 7 0, Oi 8 (.nilc (Tm 7)), Oi 9 (.faddr 0 (Tm 8)), Oi 10 (.load1 (Tm 9)), Mv 11 10, Of 12 11 (.ins (.faddr 0 (Tm 3))), Of 13 11 (.ins (.load1 (Tm 12))), Of 14 11 (.int2 .neq .i64 (Tm 13) (Kn 2)), Oi 15 (.pick (Tm 11) (Kb true) (Tm 14))]) (.cond (Tm 15) (.seq (.ops [Oi 4 (.mv (Kb true))]) .ret) .skip)) (.seq (.seq (.ops [Oi 16 (.faddr 8 (Tm 3)), Oi 17 (.load1 (Tm 16)), Op 18 (.lenS (Tm 17)), Oi 19 (.mv (Kn 0))]) (.block 0 (.loop (wio 0)))) (.seq (.ops [Oi 4 (.mv (Kb true))]) .ret)))), [(.tmp 4)]⟩
theorem wtl : trF Try.prog 96 = some wyi := by kernel_rfl
noncomputable def wig (i : Nat) : Code := lp Try.prog 97 i
noncomputable def wge : RC := (.seq (.ops [Op 80 (.int2 .lss .i64 (Tm 79) (Tm 78))]) (.seq (.cond (Tm 80) .skip (.exit 1)) (.seq (.block 2 (.seq (.ops [Oi 81 (.iaddrS 9 (Tm 77) (Tm 79)), Oi 82 (.loadN 9 (Tm 81)), Oi 8 (.new [(.int .i64 0), (.int .i64 0), (.int .i64 0), (.int .i64 0), (.int .u64 0), (.int .u64 0), (.int .u64 0), (.int .u64 0), (.slice none 0 0)] 47), On (.store 9 (Tm 8) (Tm 82))]) (.seq (.ops [Mv 83 0, Oi 84 (.loadN 9 (Tm 8)), Mv 85 2, Oi 86 (.call 97 [(Tm 83), (Tm 84), (Tm 85)]), Op 87 (.un .not (Tm 86))]) (.cond (Tm 87) (.seq (.ops [Oi 6 (.mv (Kb false))]) .ret) .skip)))) (.ops [Op 88 (.int2 .add .i64 (Tm 79) (Kn 1)), Mv 79 88]))))
theorem wie : trC Try.prog (wig 0) = wge := by kernel_rfl
noncomputable def wrk : RF := ⟨89, (.seq (.ops [Oi 4 (.box 47 (Tm 1)), Oi 6 (.mv (Kb false))]) (.seq (.seq (.ops [Oi 9 (.loadN 9 (Tm 4)), Oi 10 (.call 114 [(Tm 9)]), Op 11 (.un .not (Tm 10)), Mv 12 11, Of 13 12 (.ins (.loadN 9 (Tm 4))), Of 14 12 (.ins (.call 115 [(Tm 13)])), Of 15 12 (.un .not (Tm 14)), Oi 16 (.pick (Tm 12) (Kb true) (Tm 15)), Mv 17 16, Of 18 17 (.ins (.faddr 0 (Tm 4))), Of 19 17 (.ins (.load1 (Tm 18))), Of 20 17 (.int2 .eql .i64 (Tm 19) (Kn 3)), Of 21 17 (.ins (.mv (Tm 20))), Ot 22 21 (.ins (.mv (Tm 0))), Ot 23 21 (.ins (.nilc (Tm 22))), Ot 24 21 (.ins (.faddr 0 (Tm 23))), Ot 25 21 (.ins (.load1 (Tm 24))), Ot 26 21 (.un .not (Tm 25)), Of 27 17 (.ins (.pick (Tm 21) (Tm 26) (Kb false))), Oi 28 (.pick (Tm 17) (Kb true) (Tm 27))]) (.cond (Tm 28) (.seq (.ops [Oi 6 (.mv (Kb false))]) .ret) .skip)) (.seq (.seq (.ops [Oi 29 (.faddr 0 (Tm 4)), Oi 30 (.load1 (Tm 29))]) (.block 0 (.seq (.ops [Op 32 (.int2 .eql .i64 (Tm 30) (Kn 5)), Mv 31 32]) (.cond (Tm 31) (.seq (.ops [Mv 33 0, Oi 34 (.nilc (Tm 33)), Oi 35 (.faddr 1 (Tm 34)), Oi 36 (.load1 (Tm 35)), Op 37 (.int2 .add .i64 (Tm 36) (Kn 1)), Oi 38 (.nilc (Tm 33)), Oi 39 (.faddr 1 (Tm 38)), On (.store 1 (Tm 39) (Tm 37))]) (.seq (.ops [Mv 40 2, Op 41 (.int2 .add .i64 (Tm 40) (Kn 1)), Mv 2 41]) (.seq (.draw #[0, 1, 0, 4, 12, 28, 63, 127, 255, 511, 1023, 2047, 4095, 4095, 12287, 28671, 61439, 131071, 262143, 524287] [Oi 42 (.faddr 3 (Tm 4)), Oi 43 (.load1 (Tm 42)), Mv 44 0, Oi 45 (.nilc (Tm 44)), Oi 46 (.faddr 1 (Tm 45)), Oi 47 (.load1 (Tm 46)), Op 48 (.int2 .neq .i64 (Tm 43) (Tm 47)), Mv 49 48, Of 50 49 (.ins (.mv (Tm 2))), Of 51 49 (.int2 .gtr .i64 (Tm 50) (Kn 6)), Oi 52 (.pick (Tm 49) (Kb true) (Tm 51)), Mv 53 52, Of 54 53 (.ins (.mv (Tm 0))), Of 55 53 (.ins (.faddr 8 (Tm 4))), Of 56 53 (.ins (.load1 (Tm 55))), Of 57 53 (.ins (.iaddrS 9 (Tm 56) (Kn 0))), Of 58 53 (.ins (.loadN 9 (Tm 57))), Of 59 53 (.ins (.call 96 [(Tm 54), (Tm 58)])), Of 60 53 (.un .not (Tm 59)), Oi 61 (.pick (Tm 53) (Kb true) (Tm 60))]) (.cond (Tm 61) (.seq (.ops [Oi 6 (.mv (Kb false))]) .ret) .skip)))) (.seq (.ops [Op 63 (.int2 .eql .i64 (Tm 30) (Kn 6)), Mv 62 63]) (.cond (Tm 62) (.seq (.draw #[0, 1, 3, 7, 15, 31, 15, 79, 207, 463, 1023, 2047, 4095] [Oi 64 (.faddr 3 (Tm 4)), Oi 65 (.load1 (Tm 64)), Op 66 (.int2 .geq .i64 (Tm 65) (Kn 1)), Mv 67 66, Ot 68 67 (.ins (.faddr 3 (Tm 4))), Ot 69 67 (.ins (.load1 (Tm 68))), Ot 70 67 (.ins (.mv (Tm 0))), Ot 71 67 (.ins (.nilc (Tm 70))), Ot 72 67 (.ins (.faddr 1 (Tm 71))), Ot 73 67 (.ins (.load1 (Tm 72))), Ot 74 67 (.int2 .leq .i64 (Tm 69) (Tm 73)), Oi 75 (.pick (Tm 67) (Tm 74) (Kb false)), Mv 6 75]) .ret) .skip)))))) (.seq (.seq (.ops [Oi 76 (.faddr 8 (Tm 4)), Oi 77 (.load1 (Tm 76)), Op 78 (.lenS (Tm 77)), Oi 79 (.mv (Kn 0))]) (.block 1 (.loop (wig 0)))) (.seq (.ops [Oi 6 (.mv (Kb true))]) .ret))))), [(.tmp 6)]⟩
theorem wjo : trF Try.prog 97 = some wrk := by kernel_rfl
noncomputable def wcy : RF := ⟨40, (.seq (.ops [Oi 1 (.box 47 (Tm 0)), Oi 2 (.mv (Kb false))]) (.seq (.seq (.ops [Oi 3 (.faddr 0 (Tm 1)), Oi 4 (.load1 (Tm 3)), Op 5 (.int2 .neq .i64 (Tm 4) (Kn 1)), Mv 6 5, Ot 7 6 (.ins (.faddr 4 (Tm 1))), Ot 8 6 (.ins (.loadN 4 (Tm 7))), Ot 9 6 (.ins (.build [(.int .u64 0), (.int .u64 0), (.int .u64 0), (.int .u64 0)] [])), Ot 10 6 (.eqc true [(.int .u64), (.int .u64), (.int .u64), (.int .u64)] (Tm 8) (Tm 9)), Oi 11 (.pick (Tm 6) (Tm 10) (Kb false)), Mv 12 11, Of 13 12 (.ins (.faddr 0 (Tm 1))), Of 14 12 (.ins (.load1 (Tm 13))), Of 15 12 (.int2 .neq .i64 (Tm 14) (Kn 4)), Of 16 12 (.ins (.mv (Tm 15))), Ot 17 16 (.ins (.faddr 1 (Tm 1))), Ot 18 16 (.ins (.load1 (Tm 17))), Ot 19 16 (.int2 .neq .i64 (Tm 18) (Kn 0)), Ot 20 16 (.ins (.mv (Tm 19))), Of 21 20 (.ins (.faddr 2 (Tm 1))), Of 22 20 (.ins (.load1 (Tm 21))), Of 23 20 (.int2 .neq .i64 (Tm 22) (Kn 0)), Ot 24 16 (.ins (.pick (Tm 20) (Kb true) (Tm 23))), Of 25 12 (.ins (.pick (Tm 16) (Tm 24) (Kb false))), Oi 26 (.pick (Tm 12) (Kb true) (Tm 25))]) (.cond (Tm 26) (.seq (.ops [Oi 2 (.mv (Kb false))]) .ret) .skip)) (.seq (.ops [Oi 27 (.faddr 0 (Tm 1)), Oi 28 (.load1 (Tm 27)), Op 29 (.int2 .eql .i64 (Tm 28) (Kn 5)), Mv 30 29, Of 31 30 (.ins (.faddr 0 (Tm 1))), Of 32 30 (.ins (.load1 (Tm 31))), Of 33 30 (.int2 .eql .i64 (Tm 32) (Kn 6)), Oi 34 (.pick (Tm 30) (Kb true) (Tm 33)), Mv 35 34, Of 36 35 (.ins (.faddr 3 (Tm 1))), Of 37 35 (.ins (.load1 (Tm 36))), Of 38 35 (.int2 .eql .i64 (Tm 37) (Kn 0)), Oi 39 (.pick (Tm 35) (Kb true) (Tm 38)), Mv 2 39]) .ret))), [(.tmp 2)]⟩
theorem wpab : trF Try.prog 114 = some wcy := by kernel_rfl
noncomputable def wdy : RF := ⟨65, (.seq (.ops [Oi 1 (.box 47 (Tm 0)), Oi 2 (.mv (Kb false))]) (.seq (.ops [Oi 4 (.faddr 8 (Tm 1)), Oi 5 (.load1 (Tm 4)), Op 6 (.lenS (Tm 5)), Mv 3 6]) (.seq (.seq (.ops [Oi 7 (.faddr 0 (Tm 1)), Oi 8 (.load1 (Tm 7))]) (.block 0 (.seq (.ops [Op 10 (.int2 .eql .i64 (Tm 8) (Kn 1)), Mv 9 10]) (.cond (Tm 9) (.seq (.ops [Mv 11 3, Op 12 (.int2 .eql .i64 (Tm 11) (Kn 0)), Mv 13 12, Ot 14 13 (.ins (.faddr 4 (Tm 1))), Ot 15 13 (.ins (.loadN 4 (Tm 14))), Ot 16 13 (.ins (.build [(.int .u64 0), (.int .u64 0), (.int .u64 0), (.int .u64 0)] [])), Ot 17 13 (.eqc true [(.int .u64), (.int .u64), (.int .u64), (.int .u64)] (Tm 15) (Tm 16)), Oi 18 (.pick (Tm 13) (Tm 17) (Kb false)), Mv 2 18]) .ret) (.seq (.ops [Op 20 (.int2 .eql .i64 (Tm 8) (Kn 2)), Mv 19 20]) (.cond (Tm 19) (.seq (.ops [Mv 21 3, Op 22 (.int2 .neq .i64 (Tm 21) (Kn 1)), Mv 23 22, Ot 24 23 (.ins (.faddr 8 (Tm 1))), Ot 25 23 (.ins (.load1 (Tm 24))), Ot 26 23 (.ins (.bslice 3 2 [(.int .i64 0), (.int .i64 0)] [(0, (1, (Kn 2))), (1, (1, (Kn 3)))])), Ot 27 23 (.ins (.call 144 [(Tm 25), (Tm 26)])), Ot 28 23 (.un .not (Tm 27)), Oi 29 (.pick (Tm 23) (Tm 28) (Kb false)), Mv 2 29]) .ret) (.seq (.ops [Op 31 (.int2 .eql .i64 (Tm 8) (Kn 3)), Mv 30 31]) (.cond (Tm 30) (.seq (.ops [Mv 32 3, Op 33 (.int2 .geq .i64 (Tm 32) (Kn 2)), Mv 34 33, Ot 35 34 (.ins (.faddr 8 (Tm 1))), Ot 36 34 (.ins (.load1 (Tm 35))), Ot 37 34 (.ins (.bslice 3 1 [(.int .i64 0)] [(0, (1, (Kn 3)))])), Ot 38 34 (.ins (.call 144 [(Tm 36), (Tm 37)])), Ot 39 34 (.un .not (Tm 38)), Oi 40 (.pick (Tm 34) (Tm 39) (Kb false)), Mv 2 40]) .ret) (.seq (.ops [Op 42 (.int2 .eql .i64 (Tm 8) (Kn 4)), Mv 41 42]) (.cond (Tm 41) (.seq (.ops [Mv 43 3, Op 44 (.int2 .eql .i64 (Tm 43) (Kn 1)), Mv 45 44, Ot 46 45 (.ins (.faddr 8 (Tm 1))), Ot 47 45 (.ins (.load1 (Tm 46))), Ot 48 45 (.ins (.bslice 3 3 [(.int .i64 0), (.int .i64 0), (.int .i64 0)] [(0, (1, (Kn 1))), (1, (1, (Kn 5))), (2, (1, (Kn 6)))])), Ot 49 45 (.ins (.call 144 [(Tm 47), (Tm 48)])), Oi 50 (.pick (Tm 45) (Tm 49) (Kb false)), Mv 51 50, Ot 52 51 (.ins (.loadN 9 (Tm 1))), Ot 53 51 (.ins (.call 145 [(Tm 52)])), Oi 54 (.pick (Tm 51) (Tm 53) (Kb false)), Mv 2 54]) .ret) (.seq (.ops [Op 56 (.int2 .eql .i64 (Tm 8) (Kn 5)), Mv 55 56]) (.cond (Tm 55) (.seq (.ops [Mv 57 3, Op 58 (.int2 .eql .i64 (Tm 57) (Kn 1)), Mv 2 58]) .ret) (.seq (.seq (.ops [Op 60 (.int2 .eql .i64 (Tm 8) (Kn 6)), Mv 59 60]) (.cond (Tm 59) .skip (.seq (.ops [Op 61 (.int2 .eql .i64 (Tm 8) (Kn 7)), Mv 59 61]) (.cond (Tm 59) .skip (.ops [Op 62 (.int2 .eql .i64 (Tm 8) (Kn 8)), Mv 59 62]))))) (.cond (Tm 59) (.seq (.ops [Mv 63 3, Op 64 (.int2 .eql .i64 (Tm 63) (Kn 0)), Mv 2 64]) .ret) .skip)))))))))))))) (.seq (.ops [Oi 2 (.mv (Kb false))]) .ret)))), [(.tmp 2)]⟩
theorem wqab : trF Try.prog 115 = some wdy := by kernel_rfl
noncomputable def wlv : RF := ⟨14, (.seq (.ops [Oi 2 (.box 44 (Tm 0)), Oi 4 (.mv (Kb false))]) (.seq (.ops [Mv 5 1, Op 6 (.int2 .quo .u8 (Tm 5) (.const (.int .u8 64))), Oi 7 (.iaddrA 4 1 (Tm 2) (Tm 6)), Oi 8 (.load1 (Tm 7)), Mv 9 1, Op 10 (.int2 .rem .u8 (Tm 9) (.const (.int .u8 64))), Op 11 (.shift .shr (Tm 8) (Tm 10)), Op 12 (.int2 .and .u64 (Tm 11) (.const (.int .u64 1))), Op 13 (.int2 .eql .u64 (Tm 12) (.const (.int .u64 1))), Mv 4 13]) .ret)), [(.tmp 4)]⟩
theorem wrw : trF Try.prog 52 = some wlv := by kernel_rfl
noncomputable def wkeb : RF := ⟨8, (.seq (.ops [Oi 3 (.box 39 (Tm 1)), Oi 4 (.mv (Kb false))]) (.seq (.ops [Mv 5 0, Oi 6 (.mkfn (.func 164) [] [(Tm 3)]), Oi 7 (.call 163 [(Tm 5), (Tm 6)]), Mv 4 7]) .ret)), [(.tmp 4)]⟩
theorem wleb : trF Try.prog 144 = some wkeb := by kernel_rfl
noncomputable def wmeb : RF := ⟨29, (.seq (.ops [Oi 1 (.box 47 (Tm 0)), Oi 2 (.mv (Kb false))]) (.seq (.ops [Oi 3 (.faddr 1 (Tm 1)), Oi 4 (.load1 (Tm 3)), Op 5 (.int2 .geq .i64 (Tm 4) (Kn 0)), Mv 6 5, Ot 7 6 (.ins (.faddr 1 (Tm 1))), Ot 8 6 (.ins (.load1 (Tm 7))), Ot 9 6 (.int2 .leq .i64 (Tm 8) (Kn 20)), Oi 10 (.pick (Tm 6) (Tm 9) (Kb false)), Mv 11 10, Ot 12 11 (.ins (.faddr 2 (Tm 1))), Ot 13 11 (.ins (.load1 (Tm 12))), Ot 14 11 (.int2 .eql .i64 (Tm 13) (Kn (-1))), Ot 15 11 (.ins (.mv (Tm 14))), Of 16 15 (.ins (.faddr 2 (Tm 1))), Of 17 15 (.ins (.load1 (Tm 16))), Of 18 15 (.ins (.faddr 1 (Tm 1))), Of 19 15 (.ins (.load1 (Tm 18))), Of 20 15 (.mm true (Tm 19) [(Kn 1)]), Of 21 15 (.int2 .geq .i64 (Tm 17) (Tm 20)), Of 22 15 (.ins (.mv (Tm 21))), Ot 23 22 (.ins (.faddr 2 (Tm 1))), Ot 24 22 (.ins (.load1 (Tm 23))), Ot 25 22 (.int2 .leq .i64 (Tm 24) (Kn 20)), Of 26 15 (.ins (.pick (Tm 22) (Tm 25) (Kb false))), Ot 27 11 (.ins (.pick (Tm 15) (Kb true) (Tm 26))), Oi 28 (.pick (Tm 11) (Tm 27) (Kb false)), Mv 2 28]) .ret)), [(.tmp 2)]⟩
theorem wneb : trF Try.prog 145 = some wmeb := by kernel_rfl
noncomputable def wyd : RF := ⟨9, (.seq (.ops [Oi 4 (.mv (Kb false))]) (.seq (.ops [Mv 5 0, Mv 6 1, Oi 7 (.call 172 [(Tm 5), (Tm 6)]), Op 8 (.int2 .geq .i64 (Tm 7) (Kn 0)), Mv 4 8]) .ret)), [(.tmp 4)]⟩
theorem wcg : trF Try.prog 163 = some wyd := by kernel_rfl
noncomputable def wmv : RF := ⟨8, (.seq (.ops [Oi 2 (.box 47 (Tm 0)), Oi 3 (.mv (Kb false))]) (.seq (.ops [Oi 4 (.load1 (Tm 1)), Oi 5 (.faddr 0 (Tm 2)), Oi 6 (.load1 (Tm 5)), Oi 7 (.call 165 [(Tm 4), (Tm 6)]), Mv 3 7]) .ret)), [(.tmp 3)]⟩
theorem wsw : trF Try.prog 164 = some wmv := by kernel_rfl
noncomputable def wmg : RF := ⟨9, (.seq (.ops [Oi 4 (.mv (Kb false))]) (.seq (.ops [Mv 5 0, Mv 6 1, Oi 7 (.call 173 [(Tm 5), (Tm 6)]), Op 8 (.int2 .geq .i64 (Tm 7) (Kn 0)), Mv 4 8]) .ret)), [(.tmp 4)]⟩
theorem wsi : trF Try.prog 165 = some wmg := by kernel_rfl
noncomputable def wqc (i : Nat) : Code := lp Try.prog 172 i
noncomputable def wbc : RC := (.seq (.ops [Op 9 (.int2 .lss .i64 (Tm 8) (Tm 7))]) (.seq (.cond (Tm 9) .skip (.exit 0)) (.seq (.block 1 (.seq (.ops [Mv 10 8, Mv 5 10]) (.seq (.ops [Mv 11 1, Mv 12 0, Mv 13 5, Oi 14 (.iaddrS 9 (Tm 12) (Tm 13)), Oi 15 (.loadN 9 (Tm 14)), Oi 16 (.dyn (Tm 11) [(Tm 15)])]) (.cond (Tm 16) (.seq (.ops [Mv 17 5, Mv 4 17]) .ret) .skip)))) (.ops [Op 18 (.int2 .add .i64 (Tm 8) (Kn 1)), Mv 8 18]))))
theorem wfc : trC Try.prog (wqc 0) = wbc := by kernel_rfl
noncomputable def wte : RF := ⟨19, (.seq (.ops [Oi 4 (.mv (Kn 0))]) (.seq (.seq (.ops [Mv 6 0, Op 7 (.lenS (Tm 6)), Oi 8 (.mv (Kn 0))]) (.block 0 (.loop (wqc 0)))) (.seq (.ops [Oi 4 (.mv (Kn (-1)))]) .ret))), [(.tmp 4)]⟩
theorem wvg : trF Try.prog 172 = some wte := by kernel_rfl
noncomputable def wxd (i : Nat) : Code := lp Try.prog 173 i
noncomputable def wad : RC := (.seq (.ops [Op 9 (.int2 .lss .i64 (Tm 8) (Tm 7))]) (.seq (.cond (Tm 9) .skip (.exit 0)) (.seq (.block 1 (.seq (.ops [Mv 10 8, Mv 5 10]) (.seq (.ops [Mv 11 1, Mv 12 0, Mv 13 5, Oi 14 (.iaddrS 1 (Tm 12) (Tm 13)), Oi 15 (.load1 (Tm 14)), Op 16 (.int2 .eql .i64 (Tm 11) (Tm 15))]) (.cond (Tm 16) (.seq (.ops [Mv 17 5, Mv 4 17]) .ret) .skip)))) (.ops [Op 18 (.int2 .add .i64 (Tm 8) (Kn 1)), Mv 8 18]))))
theorem wed : trC Try.prog (wxd 0) = wad := by kernel_rfl
noncomputable def wrh : RF := ⟨19, (.seq (.ops [Oi 4 (.mv (Kn 0))]) (.seq (.seq (.ops [Mv 6 0, Op 7 (.lenS (Tm 6)), Oi 8 (.mv (Kn 0))]) (.block 0 (.loop (wxd 0)))) (.seq (.ops [Oi 4 (.mv (Kn (-1)))]) .ret))), [(.tmp 4)]⟩
theorem wsj : trF Try.prog 173 = some wrh := by kernel_rfl
noncomputable def wjg (i : Nat) : Code := lp Try.prog 26 i
noncomputable def wdh : RC := (.seq (.seq (.ops [Mv 7 6, Mv 8 0, Op 9 (.lenS (Tm 8)), Op 10 (.int2 .lss .i64 (Tm 7) (Tm 9)), Mv 11 10, Ot 12 11 (.ins (.mv (Tm 6))), Ot 13 11 (.ins (.mv (Tm 1))), Ot 14 11 (.int2 .lss .i64 (Tm 12) (Tm 13)), Oi 15 (.pick (Tm 11) (Tm 14) (Kb false))]) (.cond (Tm 15) .skip (.exit 0))) (.seq (.block 1 (.ops [Mv 18 5, Oi 19 (.bslice 5 8 [(.int .u8 0), (.int .u8 0), (.int .u8 0), (.int .u8 0), (.int .u8 0), (.int .u8 0), (.int .u8 0), (.int .u8 0)] [(0, (1, (.const (.int .u8 97)))), (1, (1, (.const (.int .u8 98)))), (2, (1, (.const (.int .u8 97)))), (3, (1, (.const (.int .u8 99)))), (4, (1, (.const (.int .u8 98)))), (5, (1, (.const (.int .u8 46)))), (6, (1, (.const (.int .u8 97)))), (7, (1, (.const (.int .u8 32))))]), Mv 20 0, Mv 21 6, Oi 22 (.iaddrS 1 (Tm 20) (Tm 21)), Oi 23 (.load1 (Tm 22)), Oi 24 (.call 15 [(Tm 23), (Kn 0), (Kn 7)]), Oi 25 (.iaddrS 1 (Tm 19) (Tm 24)), Oi 26 (.load1 (Tm 25)), Oi 27 (.bslice 5 1 [(.int .u8 0)] [(0, (1, (Tm 26)))]), Op 28 (.b2s (Tm 27)), Op 29 (.str2 .add (Tm 18) (Tm 28)), Mv 5 29])) (.ops [Mv 16 6, Op 17 (.int2 .add .i64 (Tm 16) (Kn 1)), Mv 6 17])))
theorem wvh : trC Try.prog (wjg 0) = wdh := by kernel_rfl
noncomputable def wsk : RF := ⟨31, (.seq (.ops [Oi 4 (.mv (.const (str [])))]) (.seq (.ops [Oi 5 (.mv (.const (str [])))]) (.seq (.seq (.ops [Oi 6 (.mv (Kn 0))]) (.block 0 (.loop (wjg 0)))) (.seq (.ops [Mv 30 5, Mv 4 30]) .ret)))), [(.tmp 4)]⟩
theorem wko : trF Try.prog 26 = some wsk := by kernel_rfl
noncomputable def wxb (i : Nat) : Code := lp Try.prog 6 i
noncomputable def wwc : RC := (.seq (.seq (.ops [Mv 44 13, Mv 45 3, Op 46 (.slen (Tm 45)), Op 47 (.int2 .lss .i64 (Tm 44) (Tm 46)), Mv 48 47, Ot 49 48 (.ins (.mv (Tm 3))), Ot 50 48 (.ins (.mv (Tm 13))), Ot 51 48 (.sidx (Tm 49) (Tm 50)), Ot 52 48 (.int2 .eql .u8 (Tm 51) (.const (.int .u8 97))), Ot 53 48 (.ins (.mv (Tm 52))), Of 54 53 (.ins (.mv (Tm 3))), Of 55 53 (.ins (.mv (Tm 13))), Of 56 53 (.sidx (Tm 54) (Tm 55)), Of 57 53 (.int2 .eql .u8 (Tm 56) (.const (.int .u8 98))), Ot 58 48 (.ins (.pick (Tm 53) (Kb true) (Tm 57))), Oi 59 (.pick (Tm 48) (Tm 58) (Kb false))]) (.cond (Tm 59) .skip (.exit 0))) (.block 1 (.ops [Mv 60 13, Op 61 (.int2 .add .i64 (Tm 60) (Kn 1)), Mv 13 61])))
theorem wbd : trC Try.prog (wxb 0) = wwc := by kernel_rfl
noncomputable def wxc : RC := (.seq (.seq (.ops [Mv 62 14, Mv 63 3, Op 64 (.slen (Tm 63)), Op 65 (.int2 .lss .i64 (Tm 62) (Tm 64)), Mv 66 65, Ot 67 66 (.ins (.mv (Tm 3))), Ot 68 66 (.ins (.mv (Tm 3))), Ot 69 66 (.slen (Tm 68)), Ot 70 66 (.int2 .sub .i64 (Tm 69) (Kn 1)), Ot 71 66 (.ins (.mv (Tm 14))), Ot 72 66 (.int2 .sub .i64 (Tm 70) (Tm 71)), Ot 73 66 (.sidx (Tm 67) (Tm 72)), Ot 74 66 (.int2 .eql .u8 (Tm 73) (.const (.int .u8 97))), Ot 75 66 (.ins (.mv (Tm 74))), Of 76 75 (.ins (.mv (Tm 3))), Of 77 75 (.ins (.mv (Tm 3))), Of 78 75 (.slen (Tm 77)), Of 79 75 (.int2 .sub .i64 (Tm 78) (Kn 1)), Of 80 75 (.ins (.mv (Tm 14))), Of 81 75 (.int2 .sub .i64 (Tm 79) (Tm 80)), Of 82 75 (.sidx (Tm 76) (Tm 81)), Of 83 75 (.int2 .eql .u8 (Tm 82) (.const (.int .u8 98))), Ot 84 66 (.ins (.pick (Tm 75) (Kb true) (Tm 83))), Oi 85 (.pick (Tm 66) (Tm 84) (Kb false))]) (.cond (Tm 85) .skip (.exit 2))) (.block 3 (.ops [Mv 86 14, Op 87 (.int2 .add .i64 (Tm 86) (Kn 1)), Mv 14 87])))
theorem wcd : trC Try.prog (wxb 1) = wxc := by kernel_rfl
noncomputable def wdf : RF := ⟨138, (.seq (.ops [Oi 2 (.mv (Kb false))]) (.seq (.ops [Mv 17 0, Oi 18 (.call 26 [(Tm 17), (Kn 9)]), Mv 3 18]) (.seq (.ops [Oi 20 (.call 35 [(.const (str [94, 91, 97, 98, 93, 42])), (Kb false)]), Mv 19 20, Oi 21 (.ext (Tm 19) 0), Oi 22 (.ext (Tm 19) 1), Oi 23 (.ext (Tm 19) 2), Oi 4 (.new [(.int .i64 0), (.int .i64 0), (.int .i64 0), (.int .i64 0), (.int .u64 0), (.int .u64 0), (.int .u64 0), (.int .u64 0), (.slice none 0 0)] 47), On (.store 9 (Tm 4) (Tm 21)), Mv 5 22, Mv 6 23]) (.seq (.ops [Oi 25 (.call 35 [(.const (str [91, 97, 98, 93, 42, 36])), (Kb false)]), Mv 24 25, Oi 26 (.ext (Tm 24) 0), Oi 27 (.ext (Tm 24) 1), Oi 28 (.ext (Tm 24) 2), Oi 7 (.new [(.int .i64 0), (.int .i64 0), (.int .i64 0), (.int .i64 0), (.int .u64 0), (.int .u64 0), (.int .u64 0), (.int .u64 0), (.slice none 0 0)] 47), On (.store 9 (Tm 7) (Tm 26)), Mv 8 27, Mv 9 28]) (.seq (.ops [Oi 30 (.call 35 [(.const (str [94, 91, 97, 98, 93, 42, 36])), (Kb false)]), Mv 29 30, Oi 31 (.ext (Tm 29) 0), Oi 32 (.ext (Tm 29) 1), Oi 33 (.ext (Tm 29) 2), Oi 10 (.new [(.int .i64 0), (.int .i64 0), (.int .i64 0), (.int .i64 0), (.int .u64 0), (.int .u64 0), (.int .u64 0), (.int .u64 0), (.slice none 0 0)] 47), On (.store 9 (Tm 10) (Tm 31)), Mv 11 32, Mv 12 33]) (.seq (.seq (.ops [Mv 34 6, Op 35 (.int2 .neq .i64 (Tm 34) (Kn 0)), Mv 36 35, Of 37 36 (.ins (.mv (Tm 9))), Of 38 36 (.int2 .neq .i64 (Tm 37) (Kn 0)), Oi 39 (.pick (Tm 36) (Kb true) (Tm 38)), Mv 40 39, Of 41 40 (.ins (.mv (Tm 12))), Of 42 40 (.int2 .neq .i64 (Tm 41) (Kn 0)), Oi 43 (.pick (Tm 40) (Kb true) (Tm 42))]) (.cond (Tm 43) (.seq (.ops [Oi 2 (.mv (Kb false))]) .ret) .skip)) (.seq (.ops [Oi 13 (.mv (Kn 0)), Oi 14 (.mv (Kn 0))]) (.seq (.block 0 (.loop (wxb 0))) (.seq (.block 2 (.loop (wxb 1))) (.seq (.draw #[0, 0, 3, 0, 0, 31, 63, 127] [Oi 88 (.loadN 9 (Tm 4)), Mv 89 3, Oi 90 (.call 30 [(Tm 88), (Tm 89)]), Oi 91 (.loadN 9 (Tm 7)), Mv 92 3, Oi 93 (.call 30 [(Tm 91), (Tm 92)]), Mv 15 90, Mv 16 93]) (.seq (.ops [Mv 94 15, Op 95 (.lenS (Tm 94)), Op 96 (.int2 .eql .i64 (Tm 95) (Kn 1)), Mv 97 96, Ot 98 97 (.ins (.mv (Tm 15))), Ot 99 97 (.ins (.iaddrS 8 (Tm 98) (Kn 0))), Ot 100 97 (.ins (.iaddrA 4 2 (Tm 99) (Kn 0))), Ot 101 97 (.ins (.loadN 2 (Tm 100))), Ot 102 97 (.ins (.mv (Tm 13))), Ot 103 97 (.ins (.build [(.int .i64 0), (.int .i64 0)] [(1, (1, (Tm 102)))])), Ot 104 97 (.eqc false [(.int .i64), (.int .i64)] (Tm 101) (Tm 103)), Oi 105 (.pick (Tm 97) (Tm 104) (Kb false)), Mv 106 105, Ot 107 106 (.ins (.mv (Tm 16))), Ot 108 106 (.lenS (Tm 107)), Ot 109 106 (.int2 .eql .i64 (Tm 108) (Kn 1)), Oi 110 (.pick (Tm 106) (Tm 109) (Kb false)), Mv 111 110, Ot 112 111 (.ins (.mv (Tm 16))), Ot 113 111 (.ins (.iaddrS 8 (Tm 112) (Kn 0))), Ot 114 111 (.ins (.iaddrA 4 2 (Tm 113) (Kn 0))), Ot 115 111 (.ins (.loadN 2 (Tm 114))), Ot 116 111 (.ins (.mv (Tm 3))), Ot 117 111 (.slen (Tm 116)), Ot 118 111 (.ins (.mv (Tm 14))), Ot 119 111 (.int2 .sub .i64 (Tm 117) (Tm 118)), Ot 120 111 (.ins (.mv (Tm 3))), Ot 121 111 (.slen (Tm 120)), Ot 122 111 (.ins (.build [(.int .i64 0), (.int .i64 0)] [(0, (1, (Tm 119))), (1, (1, (Tm 121)))])), Ot 123 111 (.eqc false [(.int .i64), (.int .i64)] (Tm 115) (Tm 122)), Oi 124 (.pick (Tm 111) (Tm 123) (Kb false)), Mv 125 124, Ot 126 125 (.ins (.loadN 9 (Tm 10))), Ot 127 125 (.ins (.mv (Tm 3))), Ot 128 125 (.ins (.call 33 [(Tm 126), (Tm 127)])), Ot 129 125 (.ins (.mv (Tm 13))), Ot 130 125 (.ins (.mv (Tm 3))), Ot 131 125 (.slen (Tm 130)), Ot 132 125 (.int2 .eql .i64 (Tm 129) (Tm 131)), Ot 133 125 (.eqb false (Tm 128) (Tm 132)), Oi 134 (.pick (Tm 125) (Tm 133) (Kb false)), Mv 135 134, Ot 136 135 (.ins (.call 34 [])), Oi 137 (.pick (Tm 135) (Tm 136) (Kb false)), Mv 2 137]) .ret))))))))))), [(.tmp 2)]⟩
theorem wdg : trF Try.prog 6 = some wdf := by kernel_rfl
end Go.Proofs.Ytgpabbbibmnnlaa
namespace Go.Den
noncomputable section
def wd (s : BitVec 256) (i : Nat) : BitVec 64 := s.extractLsb' (64 * i) 64
abbrev wdV (s : BitVec 256) (i : Nat) : Value := .int .u64 ((wd s i).toNat : Nat)
def setC (s : BitVec 256) : List Value := [wdV s 0, wdV s 1, wdV s 2, wdV s 3]
def setV (s : BitVec 256) : Value := .agg ⟨setC s⟩
theorem setC_get (s : BitVec 256) {i : Nat} (h : i < 4) : (setC s)[i]? = some (wdV s i) := by
  match i, h with
  | 0, _ => rfl
  | 1, _ => rfl
  | 2, _ => rfl
  | 3, _ => rfl
theorem wajb (s : BitVec 256) : (setC s).length = 4 := eq_of_heq HEq.rfl
theorem wezb (s : BitVec 256) (i j : Nat) : (wd s i).getLsbD j = (decide (j < 64) && s.getLsbD (64 * i + j)) := by
  unfold wd
  rw [BitVec.getLsbD_extractLsb']
theorem wd_ext {s t : BitVec 256} (h : ∀ i, i < 4 → wd s i = wd t i) : s = t := by
  apply BitVec.eq_of_getLsbD_eq
  intro j hj
  have h1 := wezb s (j / 64) (j % 64)
  have h2 := wezb t (j / 64) (j % 64)
  rw [h (j / 64) (by omega)] at h1
  rw [h1] at h2
  have e : 64 * (j / 64) + j % 64 = j := by omega
  have e2 : decide (j % 64 < 64) = true := decide_eq_true (by omega)
  rw [e, e2, Bool.true_and, Bool.true_and] at h2
  exact h2
theorem wnv (v : BitVec 64) : BitVec.ofInt (IntKind.bits .u64) ((v.toNat : Nat) : Int) = v := by
  show BitVec.ofInt 64 _ = v
  apply BitVec.eq_of_toNat_eq
  simp
theorem and_u64 (v u : BitVec 64) : IntKind.wrap .u64 ((BitVec.ofInt (IntKind.bits .u64) ((v.toNat : Nat) : Int) &&& BitVec.ofInt (IntKind.bits .u64) ((u.toNat : Nat) : Int)).toNat : Int) = ((v &&& u).toNat : Nat) := by
  rw [wnv, wnv]
  exact wrap_u64 (by omega) (by have := (v &&& u).isLt; show ((v &&& u).toNat : Int) ≤ _; omega)
theorem shr_u64 (v : BitVec 64) {b : Int} (h1 : 0 ≤ b) (h2 : b < 64) : Int.fdiv ((v.toNat : Nat) : Int) (2 ^ (min b.toNat (IntKind.bits .u64))) = ((v >>> b.toNat).toNat : Nat) := by
  have hm : min b.toNat (IntKind.bits .u64) = b.toNat := by show min b.toNat 64 = _; omega
  rw [hm, BitVec.toNat_ushiftRight, Nat.shiftRight_eq_div_pow]
  have e2 : ((2 : Int) ^ b.toNat) = ((2 ^ b.toNat : Nat) : Int) := by rw [Int.natCast_pow]; rfl
  rw [e2, Int.fdiv_eq_ediv_of_nonneg _ (Int.natCast_nonneg _), Int.natCast_ediv]
theorem bit_one (v : BitVec 64) (n : Nat) : decide ((((v >>> n) &&& 1#64).toNat : Int) = 1) = v.getLsbD n := by
  have h : ((v >>> n) &&& 1#64).toNat = if v.getLsbD n then 1 else 0 := by
    rw [BitVec.toNat_and, BitVec.toNat_ushiftRight, show (1#64).toNat = 1 from rfl, Nat.and_one_is_mod, Nat.shiftRight_eq_div_pow, BitVec.getLsbD, Nat.testBit_eq_decide_div_mod_eq]
    by_cases hq : v.toNat / 2 ^ n % 2 = 1
    · simp [hq]
    · simp [hq]; omega
  rw [h]
  cases v.getLsbD n <;> rfl
def one (x : Nat) : BitVec 256 := 1#256 <<< x
theorem wfzb (x j : Nat) : (one x).getLsbD j = (decide (j < 256) && decide (j = x)) := by
  unfold one
  rw [BitVec.getLsbD_shiftLeft, BitVec.getLsbD_one]
  by_cases h1 : j < 256 <;> by_cases h2 : j = x <;> by_cases h3 : j < x <;> simp [h1, h2, h3] <;> omega
theorem has_bit (s : BitVec 256) (x : Nat) (hx : x < 256) : (wd s (x / 64)).getLsbD (x % 64) = s.getLsbD x := by
  rw [wezb, decide_eq_true (by omega), Bool.true_and]
  congr 1
  omega
theorem wov (s : BitVec 256) : wle [.int .u64, .int .u64, .int .u64, .int .u64] (setC s) = true := rfl
theorem eqL_setC (s t : BitVec 256) : eqL (setC s) (setC t) = decide (s = t) := by
  have h : eqL (setC s) (setC t) = true ↔ s = t := by
    constructor
    · intro h
      simp only [eqL, setC, wyu, Bool.and_eq_true, beq_iff_eq, Bool.and_true] at h
      apply wd_ext
      intro i hi
      apply BitVec.eq_of_toNat_eq
      rcases (show i = 0 ∨ i = 1 ∨ i = 2 ∨ i = 3 by omega) with rfl | rfl | rfl | rfl <;> omega
    · rintro rfl
      simp [eqL, setC, wyu]
  by_cases hq : s = t
  · rw [decide_eq_true hq]; exact h.2 hq
  · rw [decide_eq_false hq]
    cases he : eqL (setC s) (setC t) with
    | false => rfl
    | true => exact absurd (h.1 he) hq
theorem SlA.ints {P : Program} {h : List ABlk} {i : Nat} {v : Value} {vs : List Value} {elem : TypeId} {frz : Nat} {a a' : List Value} {fr : Frs} (hb : h[i]? = some (X (v :: vs) elem frz true)) (hs : tsz P elem = 1) (hr : wpb (v :: vs) = true) (t : SlA P h a a' fr) :
    SlA P h (.slice (some ⟨i, 0, none⟩) (vs.length + 1) (vs.length + 1 + 1) :: a) (FL (vs.length + 1) (v :: vs) :: a') ((i, (vs.length + 1) * 1) :: fr) := by
  have h1 := SlA.row (P := P) (h := h) (i := i) (n := vs.length) (c := vs.length + 1) hb hs (by omega) (Nat.le_refl _) (by simp) (by rw [wen (by simp)]; exact hr) t
  rw [wen (by simp)] at h1
  exact h1
theorem wgzb (a b : BitVec 256) : eqcV true [.int .u64, .int .u64, .int .u64, .int .u64] (setV a) (setV b) = val (.bool (decide (a ≠ b))) := by
  rw [setV, setV, neq_agg (wov a) (wov b), eqL_setC, decide_not]
end
end Go.Den
namespace Go.Den
noncomputable section
def RowSt (elem size : Nat) (l : List ABlk) (v : Value) (n : Nat) (cs : List Value) : Prop :=
  (v = .slice none 0 0 ∧ n = 0 ∧ cs = []) ∨ ∃ t, v = FO t n cs ∧ l[t]? = some (.tok n elem size) ∧ cs.length = n * size ∧ 0 < n
theorem RowSt.sl {elem size n : Nat} {l : List ABlk} {v : Value} {cs : List Value} (h : RowSt elem size l v n cs) : Sl 0 v (FL n cs) := by
  rcases h with ⟨rfl, rfl, rfl⟩ | ⟨t, rfl, _, _, _⟩
  · exact Sl.nilS
  · exact Sl.fo t _ cs
theorem RowSt.jk {elem size n : Nat} {l : List ABlk} {v : Value} {cs : List Value} (h : RowSt elem size l v n cs) : isJK v = false := by
  rcases h with ⟨rfl, _⟩ | ⟨t, rfl, _⟩
  · rfl
  · exact wxhb
end
end Go.Den
namespace Go.Den
noncomputable section
theorem over_all {l m : List Value} (h : m.length = l.length) : wm l 0 m = m := by
  have key : ∀ (m l : List Value) (a : List Value), m.length = l.length → wm (a ++ l) a.length m = a ++ m := by
    intro m
    induction m with
    | nil => intro l a h; have := List.eq_nil_of_length_eq_zero h.symm; subst this; rfl
    | cons v r ih =>
      intro l a h
      cases l with
      | nil => simp at h
      | cons w l =>
        simp only [List.length_cons, Nat.add_right_cancel_iff] at h
        show wm ((a ++ w :: l).set a.length v) (a.length + 1) r = _
        have e : (a ++ w :: l).set a.length v = (a ++ [v]) ++ l := by simp
        rw [e, show a.length + 1 = (a ++ [v]).length by simp, ih l (a ++ [v]) h]
        simp
  exact key m l [] h
theorem woeb {a : Value} {l m : List Value} {k : Nat} : wm (a :: l) (k + 1) m = a :: wm l k m := by
  induction m generalizing l k with
  | nil => rfl
  | cons v r ih => show wm ((a :: l).set (k + 1) v) (k + 1 + 1) r = _; rw [List.set_cons_succ, ih]; rfl
theorem woqb {a : Value} {l m : List Value} {k : Nat} : wm (a :: l) (1 + k) m = a :: wm l k m := by rw [Nat.add_comm]; exact woeb
theorem wpqb {a : Value} {l : List Value} {k n : Nat} : slotsOf (a :: l) (k + 1) n = slotsOf l k n := rfl
theorem wbjb {a : Value} {l : List Value} {k n : Nat} : slotsOf (a :: l) (1 + k) n = slotsOf l k n := by rw [Nat.add_comm]; rfl
theorem slots_0 {a : Value} {l : List Value} {n : Nat} : slotsOf (a :: l) 0 (n + 1) = a :: slotsOf l 0 n := rfl
theorem slots_00 {l : List Value} {k : Nat} : slotsOf l k 0 = [] := by simp [slotsOf]
theorem wrab {α : Type} {enc : α → List Value} {k : Nat} (hk : ∀ a, (enc a).length = k) (l : List α) : (l.flatMap enc).length = l.length * k := by
  induction l with
  | nil => simp
  | cons a l ih => rw [List.flatMap_cons, List.length_append, hk, ih, List.length_cons, Nat.add_mul]; omega
theorem wpv {α : Type} {enc : α → List Value} {k : Nat} (hk : ∀ a, (enc a).length = k) (d : α) : ∀ (l : List α) (i : Nat), i < l.length → slotsOf (l.flatMap enc) (i * k) k = enc (l.getD i d) := by
  intro l
  induction l with
  | nil => intro i h; cases h
  | cons a l ih =>
    intro i h
    cases i with
    | zero =>
      rw [List.flatMap_cons, Nat.zero_mul]
      show ((enc a ++ l.flatMap enc).drop 0).take k = enc a
      rw [List.drop_zero, List.take_append_of_le_length (by rw [hk]; exact Nat.le_refl _), List.take_of_length_le (by rw [hk]; exact Nat.le_refl _)]
    | succ i =>
      have := ih i (by simpa using h)
      rw [show (a :: l).getD (i + 1) d = l.getD i d by simp, ← this, List.flatMap_cons]
      show ((enc a ++ l.flatMap enc).drop ((i + 1) * k)).take k = _
      rw [show (i + 1) * k = (enc a).length + i * k by rw [hk, Nat.add_mul]; omega, List.drop_append, List.drop_of_length_le (by omega), List.nil_append]
      congr 2
      omega
theorem wqv {α : Type} {enc : α → List Value} (hk : ∀ a, waf (enc a) = true) (l : List α) : waf (l.flatMap enc) = true := by
  induction l with
  | nil => rfl
  | cons a l ih => rw [List.flatMap_cons, wbeb, hk, ih]; rfl
abbrev Mt := { l : List Int // l.length = 8 }
def mtC (m : Mt) : List Value := m.1.map (Value.int .i64)
def Mt.at (m : Mt) (i : Nat) : Int := m.1.getD i 0
def Mt.put (m : Mt) (i : Nat) (a : Int) : Mt := ⟨m.1.set i a, by rw [List.length_set]; exact m.2⟩
theorem wey {m : Mt} : (mtC m).length = 8 := by rw [mtC, List.length_map, m.2]
theorem whzb {m : Mt} {i : Nat} (h : i < 8) : (mtC m)[i]? = some (.int .i64 (m.at i)) := by
  rw [mtC, List.getElem?_map, Mt.at, List.getD_eq_getElem?_getD, List.getElem?_eq_getElem (by rw [m.2]; exact h)]
  rfl
theorem wizb {m : Mt} {i : Nat} {a : Int} : (mtC m).set i (.int .i64 a) = mtC (m.put i a) := by
  rw [mtC, mtC, Mt.put, List.map_set]
theorem wcjb {m : Mt} : waf (mtC m) = true := by
  rw [wfwb]
  intro v hv
  simp only [mtC, List.mem_map] at hv
  obtain ⟨x, _, rfl⟩ := hv
  rfl
theorem wjzb {m : Mt} {i : Nat} (h : i + 2 ≤ 8) : slotsOf (mtC m) i 2 = [.int .i64 (m.at i), .int .i64 (m.at (i + 1))] := by
  apply List.ext_getElem?
  intro j
  rw [slotsOf, List.getElem?_take]
  split
  · rw [List.getElem?_drop]
    rcases (show j = 0 ∨ j = 1 by omega) with rfl | rfl
    · rw [whzb (by omega)]; rfl
    · rw [whzb (by omega)]; rfl
  · match j with
    | 0 => omega
    | 1 => omega
    | j + 2 => rfl
theorem wkzb {m : Mt} : slotsOf (mtC m) 0 8 = mtC m := wen wey
theorem wqqb (l : List Int) : wdk (l.map (Value.int .i64)) = true := by
  induction l with
  | nil => rfl
  | cons a l ih => rw [List.map_cons, wco, ih]; rfl
theorem mt_flat {m : Mt} : wdk (mtC m) = true := wqqb _
theorem weg (m : Mt) : FzL (mtC m) := fzl wcjb
theorem ints_eq : ∀ (a b : List Int), a.length = b.length → (eqL (a.map (Value.int .i64)) (b.map (Value.int .i64)) = true ↔ a = b) := by
  intro a
  induction a with
  | nil => intro b h; cases b with | nil => simp [eqL] | cons x b => cases h
  | cons x a ih =>
    intro b h
    cases b with
    | nil => cases h
    | cons y b =>
      simp only [List.length_cons, Nat.add_right_cancel_iff] at h
      simp only [List.map_cons, eqL, wyu, Bool.and_eq_true, beq_iff_eq, ih b h, List.cons.injEq]
theorem wlzb : ∀ (a : List Int), wle (List.replicate a.length (AK.int .i64)) (a.map (Value.int .i64)) = true := by
  intro a
  induction a with
  | nil => rfl
  | cons x a ih => simp only [List.length_cons, List.replicate_succ, List.map_cons, wle, ih]; rfl
theorem wmzb {m : Mt} : wle [.int .i64, .int .i64, .int .i64, .int .i64, .int .i64, .int .i64, .int .i64, .int .i64] (mtC m) = true := by
  have := wlzb m.1
  rw [m.2] at this
  exact this
theorem mt_eqL {m n : Mt} : eqL (mtC m) (mtC n) = decide (m = n) := by
  have h := ints_eq m.1 n.1 (by rw [m.2, n.2])
  by_cases hq : m = n
  · rw [decide_eq_true hq]; exact h.2 (by rw [hq])
  · rw [decide_eq_false hq]
    cases he : eqL (mtC m) (mtC n) with
    | false => rfl
    | true => exact absurd (Subtype.ext (h.1 he)) hq
abbrev St := Int × Mt
def Mt.zero : Mt := ⟨[0, 0, 0, 0, 0, 0, 0, 0], rfl⟩
def St.zero : St := (0, Mt.zero)
def stC (s : St) : List Value := .int .i64 s.1 :: mtC s.2
theorem wpeb {s : St} : (stC s).length = 9 := by rw [stC, List.length_cons, wey]
theorem wdjb {s : St} : waf (stC s) = true := by rw [stC, wqr, wcjb]; rfl
theorem wms (s : St) : FzL (stC s) := fzl wdjb
theorem wnzb {s : St} : wdk (stC s) = true := by rw [stC, wco, mt_flat]; rfl
theorem st_get0 {s : St} : (stC s)[0]? = some (.int .i64 s.1) := rfl
theorem wozb {s : St} : slotsOf (stC s) 1 8 = mtC s.2 := wkzb
theorem wpzb {s : St} {k n : Nat} : slotsOf (stC s) (1 + k) n = slotsOf (mtC s.2) k n := wbjb
theorem st_set0 {s : St} {a : Int} : (stC s).set 0 (.int .i64 a) = stC (a, s.2) := rfl
theorem st_over1 {s : St} {k : Nat} {m : List Value} : wm (stC s) (1 + k) m = .int .i64 s.1 :: wm (mtC s.2) k m := woqb
theorem st_fold {a : Int} {m : Mt} : (Value.int .i64 a :: mtC m) = stC (a, m) := rfl
theorem wejb {s : St} : wle [.int .i64, .int .i64, .int .i64, .int .i64, .int .i64, .int .i64, .int .i64, .int .i64, .int .i64] (stC s) = true := by
  rw [stC]; show (true && wle _ (mtC s.2)) = true; rw [wmzb]; rfl
theorem st_eqL {s t : St} : eqL (stC s) (stC t) = decide (s = t) := by
  obtain ⟨a, m⟩ := s
  obtain ⟨b, n⟩ := t
  show ((a == b) && eqL (mtC m) (mtC n)) = _
  rw [mt_eqL]
  by_cases h1 : a = b <;> by_cases h2 : m = n <;> simp [h1, h2]
def stsC (l : List St) : List Value := l.flatMap stC
theorem wqzb {l : List St} : (stsC l).length = l.length * 9 := wrab (fun _ => wpeb) l
theorem wsab {l : List St} {i : Nat} (h : i < l.length) : slotsOf (stsC l) (i * 9) 9 = stC (l.getD i St.zero) := wpv (fun _ => wpeb) St.zero l i h
theorem sts_atom {l : List St} : waf (stsC l) = true := wqv (fun _ => wdjb) l
theorem sts_fz (l : List St) : FzL (stsC l) := fzl sts_atom
theorem wtab : stsC [] = [] := rfl
theorem wklb {l : List St} {s : St} : stsC (l ++ [s]) = stsC l ++ stC s := by rw [stsC, stsC, List.flatMap_append]; simp
theorem wqf {s : St} : stsC [s] = stC s := by rw [stsC]; simp
theorem sts_one {s : St} : stC s = stsC [s] := by rw [stsC]; simp
def mtsC (l : List Mt) : List Value := l.flatMap mtC
theorem wrzb {l : List Mt} : (mtsC l).length = l.length * 8 := wrab (fun _ => wey) l
theorem mts_slot {l : List Mt} {i : Nat} (h : i < l.length) : slotsOf (mtsC l) (i * 8) 8 = mtC (l.getD i Mt.zero) := wpv (fun _ => wey) _ l i h
theorem mts_atom {l : List Mt} : waf (mtsC l) = true := wqv (fun _ => wcjb) l
theorem wwg (l : List Mt) : FzL (mtsC l) := fzl mts_atom
theorem mts_app {l m : List Mt} : mtsC l ++ mtsC m = mtsC (l ++ m) := by rw [mtsC, mtsC, mtsC, List.flatMap_append]
theorem wuab {s : Mt} : mtC s = mtsC [s] := by rw [mtsC]; simp
theorem ints_bq : ∀ (l : List Int), beqL (l.map (Value.int .i64)) (l.map (Value.int .i64)) = true := by
  intro l
  induction l with
  | nil => rfl
  | cons a l ih => rw [List.map_cons, wzg, wrq, ih]; rfl
theorem mt_bq {m : Mt} : beqL (mtC m) (mtC m) = true := ints_bq _
theorem st_bq {s : St} : beqL (stC s) (stC s) = true := by rw [stC, wzg, wrq, mt_bq]; rfl
theorem sts_bq {l : List St} : beqL (stsC l) (stsC l) = true := woab (fun _ => st_bq) l
theorem mts_bq {l : List Mt} : beqL (mtsC l) (mtsC l) = true := woab (fun _ => mt_bq) l
theorem set_bq {s : BitVec 256} : beqL (setC s) (setC s) = true := by rw [setC, wzg, wzg, wzg, wzg, wrq, wrq, wrq, wrq, wev]; rfl
inductive Rx where
  | mk (kind min max n : Int) (set : BitVec 256) (kids : List Rx)
def Rx.kind : Rx → Int | .mk k _ _ _ _ _ => k
def Rx.mn : Rx → Int | .mk _ k _ _ _ _ => k
def Rx.mx : Rx → Int | .mk _ _ k _ _ _ => k
def Rx.n : Rx → Int | .mk _ _ _ k _ _ => k
def Rx.set : Rx → BitVec 256 | .mk _ _ _ _ s _ => s
def Rx.kids : Rx → List Rx | .mk _ _ _ _ _ l => l
def Rx.zero : Rx := .mk 0 0 0 0 0#256 []
theorem rx_kind {k a b c s l} : Rx.kind (.mk k a b c s l) = k := rfl
theorem rx_mn {k a b c s l} : Rx.mn (.mk k a b c s l) = a := rfl
theorem rx_mx {k a b c s l} : Rx.mx (.mk k a b c s l) = b := rfl
theorem rx_n {k a b c s l} : Rx.n (.mk k a b c s l) = c := rfl
theorem rx_set {k a b c s l} : Rx.set (.mk k a b c s l) = s := rfl
theorem wszb {k a b c s l} : Rx.kids (.mk k a b c s l) = l := rfl
mutual
def rxC : Rx → List Value
  | .mk k a b c s l => [.int .i64 k, .int .i64 a, .int .i64 b, .int .i64 c, wdV s 0, wdV s 1, wdV s 2, wdV s 3, FL l.length (rxsC l)]
def rxsC : List Rx → List Value
  | [] => []
  | r :: l => rxC r ++ rxsC l
end
theorem wrv {r : Rx} : rxC r = [.int .i64 r.kind, .int .i64 r.mn, .int .i64 r.mx, .int .i64 r.n, wdV r.set 0, wdV r.set 1, wdV r.set 2, wdV r.set 3, FL r.kids.length (rxsC r.kids)] := by
  cases r; rw [rxC]; rfl
theorem wzs (l : List Rx) : rxsC l = l.flatMap rxC := by
  induction l with
  | nil => rw [rxsC]; rfl
  | cons r l ih => rw [rxsC, ih, List.flatMap_cons]
theorem wllb {r : Rx} : (rxC r).length = 9 := by rw [wrv]; rfl
theorem wtzb {r : Rx} : waf (rxC r) = true := by rw [wrv]; rfl
theorem wns (r : Rx) : FzL (rxC r) := fzl wtzb
theorem rx_get0 {r : Rx} : (rxC r)[0]? = some (.int .i64 r.kind) := by rw [wrv]; rfl
theorem rx_get1 {r : Rx} : (rxC r)[1]? = some (.int .i64 r.mn) := by rw [wrv]; rfl
theorem rx_get2 {r : Rx} : (rxC r)[2]? = some (.int .i64 r.mx) := by rw [wrv]; rfl
theorem rx_get3 {r : Rx} : (rxC r)[3]? = some (.int .i64 r.n) := by rw [wrv]; rfl
theorem rx_get8 {r : Rx} : (rxC r)[8]? = some (FL r.kids.length (rxsC r.kids)) := by rw [wrv]; rfl
theorem wuzb {r : Rx} : slotsOf (rxC r) 4 4 = setC r.set := by rw [wrv]; rfl
theorem wvab {l : List Rx} : (rxsC l).length = l.length * 9 := by rw [wzs]; exact wrab (fun _ => wllb) l
theorem wuq {l : List Rx} {i : Nat} (h : i < l.length) : slotsOf (rxsC l) (i * 9) 9 = rxC (l.getD i Rx.zero) := by rw [wzs]; exact wpv (fun _ => wllb) _ l i h
theorem rxs_atom {l : List Rx} : waf (rxsC l) = true := by rw [wzs]; exact wqv (fun _ => wtzb) l
theorem rx_bq : ∀ (r : Rx), beqL (rxC r) (rxC r) = true := by
  refine Rx.rec (motive_1 := fun r => beqL (rxC r) (rxC r) = true) (motive_2 := fun l => beqL (rxsC l) (rxsC l) = true) ?_ ?_ ?_
  · intro k a b c s l ih
    rw [wrv]
    rw [wszb]
    simp only [wzg, wrq, bq_FL, ih, wev, Bool.and_self]
  · rw [rxsC]; rfl
  · intro r l h1 h2
    rw [rxsC]
    exact wzx h1 h2
theorem rxs_bq {l : List Rx} : beqL (rxsC l) (rxsC l) = true := by rw [wzs]; exact woab rx_bq l
theorem rxs_fz (l : List Rx) : FzL (rxsC l) := fzl rxs_atom
theorem set_atom {s : BitVec 256} : waf (setC s) = true := rfl
theorem wvzb (s : BitVec 256) : FzL (setC s) := fzl set_atom
theorem set_flat {s : BitVec 256} : wdk (setC s) = true := rfl
end
end Go.Den
namespace Go.Den
noncomputable section
variable {P : Program} {cfg : Cfg}
theorem wwzb {α : Type} (body : α → PUnit → Sem (ForInStep PUnit)) : ∀ (l : List α), (∀ f ∈ l, ww P (body f ⟨⟩) = some (.yield ⟨⟩)) → ww P (forIn l (⟨⟩ : PUnit) body) = some ⟨⟩ := by
  intro l
  induction l with
  | nil => intro _; rfl
  | cons a l ih =>
    intro h
    rw [List.forIn_cons, wib, h a (by simp), Option.bind_some]
    exact ih fun f hf => h f (List.mem_cons_of_mem _ hf)
theorem wqeb {b : Bool} {d m : Nat} (ih : ∀ (t : TypeId) (ks : List AK), wug P d t = some ks → ∀ (xs : List Value) (x : Value), Rep P t xs x → wle ks xs = true → ww P (Instr.checkKey b m t x) = some ⟨⟩) :
    ∀ (fs : List Field) (off : Nat) (ks : List AK), wnr (wug P d) fs off = some ks → ∀ (xs : List Value), wle ks (xs.drop off) = true → off ≤ xs.length →
    ww P (forIn fs (⟨⟩ : PUnit) fun f _ => (if f.name ≠ "_" then (do
      let a ← part f.type ⟨xs⟩ f.offset
      Instr.checkKey b m f.type a
      pure (ForInStep.yield ⟨⟩)) else pure (ForInStep.yield ⟨⟩) : Sem (ForInStep PUnit))) = some ⟨⟩ := by
  intro fs
  induction fs with
  | nil => intro off ks h xs fx _; rfl
  | cons f fs ih2 =>
    intro off ks h xs fx hx
    unfold wnr at h
    split at h
    · rename_i hf
      obtain ⟨hname, hoff⟩ := hf
      split at h
      · rename_i k1 hk1
        split at h
        · rename_i k2 hk2
          cases h
          obtain ⟨fx1, fx2⟩ := wbk fx
          have lx := wkh fx
          rw [List.length_append, List.length_drop] at lx
          obtain ⟨va, ha, ra⟩ := wxn hk1 (xs := xs) (off := off) (by omega)
          have he := ih _ _ hk1 _ _ ra fx1
          have hstep : ww P (if f.name ≠ "_" then (do
              let a ← part f.type ⟨xs⟩ f.offset
              Instr.checkKey b m f.type a
              pure (ForInStep.yield ⟨⟩)) else pure (ForInStep.yield ⟨⟩) : Sem (ForInStep PUnit)) = some (.yield ⟨⟩) := by
            rw [if_pos hname, hoff, wib, ha, Option.bind_some, wib, he, Option.bind_some]
            rfl
          rw [List.forIn_cons, wib, hstep, Option.bind_some]
          rw [List.drop_drop] at fx2
          exact ih2 (off + k1.length) k2 hk2 xs fx2 (by omega)
        · cases h
      · cases h
    · cases h
theorem check_ok {b : Bool} : ∀ (d : Nat) (t : TypeId) (ks : List AK), wug P d t = some ks → ∀ (m : Nat), d ≤ m → ∀ (xs : List Value) (x : Value), Rep P t xs x → wle ks xs = true → ww P (Instr.checkKey b m t x) = some ⟨⟩ := by
  intro d
  induction d with
  | zero => intro t ks h; cases h
  | succ d ih =>
    intro t ks h m hm xs x hx fx
    obtain ⟨m, rfl⟩ : ∃ m', m = m' + 1 := ⟨m - 1, by omega⟩
    have hcopy := h
    unfold wug at h
    split at h
    · rename_i k hu
      cases h
      obtain ⟨rfl, _⟩ := wyn hcopy hx hx hu rfl
      simp only [wle, Bool.and_true] at fx
      obtain ⟨a, rfl⟩ := fits_int fx
      show ww P ((underlying t).bind fun u => _) = _
      rw [wof t hu]
      rfl
    · rename_i hu
      cases h
      obtain ⟨rfl, _⟩ := wyn hcopy hx hx hu rfl
      simp only [wle, Bool.and_true] at fx
      obtain ⟨a, rfl⟩ := woq fx
      show ww P ((underlying t).bind fun u => _) = _
      rw [wof t hu]
      rfl
    · rename_i hu
      cases h
      obtain ⟨rfl, _⟩ := wyn hcopy hx hx hu rfl
      simp only [wle, Bool.and_true] at fx
      obtain ⟨a, rfl⟩ := fits_bool fx
      show ww P ((underlying t).bind fun u => _) = _
      rw [wof t hu]
      rfl
    · rename_i fields hu
      split at h
      · cases h
      · split at h
        · rename_i ks' hf
          split at h
          · cases h
            obtain ⟨rfl, _⟩ := wfab hx hx hu rfl
            have hl := wqeb (b := b) (m := m) (fun t ks h xs x => ih t ks h m (by omega) xs x) fields.toList 0 ks hf xs (by simpa using fx) (by omega)
            show ww P ((underlying t).bind fun u => _) = _
            rw [wof t hu]
            simp only [wib, ← Array.forIn_toList]
            first
              | exact hl
              | (rw [hl]; rfl)
          · cases h
        · cases h
    · rename_i len elem hu
      split at h
      · rename_i k1 hk1
        split at h
        · rename_i hs
          cases h
          simp only [Bool.and_eq_true] at hs
          obtain ⟨i, hi, hsz⟩ := wep hs.1
          obtain ⟨rfl, _⟩ := wfab hx hx hu rfl
          have lx := wkh fx
          rw [wpo] at lx
          show ww P ((underlying t).bind fun u => _) = _
          rw [wof t hu]
          simp only [wib, Std.Legacy.Range.forIn_eq_forIn_range', Std.Legacy.Range.size, Nat.sub_zero, Nat.add_one_sub_one, Nat.div_one]
          have hl : ww P (forIn (List.range' 0 len) (⟨⟩ : PUnit) fun j _ => (do
              let n ← sizeOf elem
              let a ← part elem ⟨xs⟩ (j * n)
              Instr.checkKey b m elem a
              pure (ForInStep.yield ⟨⟩) : Sem (ForInStep PUnit))) = some ⟨⟩ := by
            apply wwzb
            intro j hj
            rw [List.mem_range'_1] at hj
            have hb : j * k1.length + k1.length ≤ len * k1.length := by
              have : (j + 1) * k1.length ≤ len * k1.length := Nat.mul_le_mul_right _ (by omega)
              rw [Nat.succ_mul] at this
              exact this
            obtain ⟨va, ha, ra⟩ := wxn hk1 (xs := xs) (off := j * k1.length) (by omega)
            have he := ih _ _ hk1 m (by omega) _ _ ra (wav len fx j (by omega))
            rw [wib, wzu hi, Option.bind_some, hsz, wib, ha, Option.bind_some, wib, he, Option.bind_some]
            rfl
          first
            | exact hl
            | (rw [hl]; rfl)
        · cases h
      · cases h
    · cases h
def wfjb (P : Program) (t : TypeId) : Bool := match tyU P t with | some (.struct _) => true | _ => false
theorem wfs {t : TypeId} (h : wfjb P t = true) : ∃ fs, tyU P t = some (.struct fs) := by
  unfold wfjb at h
  split at h
  · exact ⟨_, by assumption⟩
  · cases h
structure KeyT (P : Program) (kt : TypeId) {α : Type} [DecidableEq α] (enc : α → List Value) : Prop where
  ht : wfjb P kt = true
  fits : ∃ K, wug P 12 kt = some K ∧ ∀ a, wle K (enc a) = true
  eq : ∀ a b, eqL (enc a) (enc b) = decide (a = b)
  flat : ∀ a, wdk (enc a) = true
section
variable {α : Type} [DecidableEq α] {enc : α → List Value} {kt : TypeId}
def mapK (enc : α → List Value) (m : List (α × Value)) : List (Value × Value) := m.map fun p => (.agg ⟨enc p.1⟩, p.2)
def wck (a : α) : List (α × Value) → Nat → Option (Nat × Value)
  | [], _ => none
  | p :: r, i => if a = p.1 then some (i, p.2) else wck a r (i + 1)
def getK (m : List (α × Value)) (a : α) : Option Value := (wck a m 0).map (·.2)
theorem asking_K (k : KeyT P kt enc) (a : α) : ∀ (m : List (α × Value)) (i : Nat), ww P (Instr.findAsking kt (.agg ⟨enc a⟩) (entriesOf (mapK enc m)) i) = some (wck a m i) := by
  obtain ⟨fs, hu⟩ := wfs k.ht
  obtain ⟨K, hK, hf⟩ := k.fits
  have rep : ∀ b : α, Rep P kt (enc b) (.agg ⟨enc b⟩) := fun b => ⟨_, hu, .inl ⟨rfl, rfl⟩⟩
  intro m
  induction m with
  | nil => intro i; rfl
  | cons p r ih =>
    intro i
    have he : ww P (Op.equal kt (.agg ⟨enc a⟩) (.agg ⟨enc p.1⟩)) = some (decide (a = p.1)) := by
      rw [← k.eq]
      exact wxkb 12 kt K hK _ (by decide) _ _ _ _ (rep a) (rep p.1) (hf a) (hf p.1)
    show ww P ((Op.equal kt (.agg ⟨enc a⟩) (.agg ⟨enc p.1⟩)).bind fun q => if q = true then Sem.pure (some (i, p.2)) else Instr.findAsking kt (.agg ⟨enc a⟩) (entriesOf (mapK enc r)) (i + 1)) = _
    rw [wlb, he, Option.bind_some]
    by_cases hq : a = p.1
    · simp only [wck, hq, decide_true, if_true]; rfl
    · simp only [wck, hq, decide_false, Bool.false_eq_true, if_false]; exact ih (i + 1)
theorem wxzb (k : KeyT P kt enc) (b : Bool) (a : α) (m : List (α × Value)) : wot P b kt (.agg ⟨enc a⟩) (mapK enc m) = some (wck a m 0) := by
  obtain ⟨fs, hu⟩ := wfs k.ht
  obtain ⟨K, hK, hf⟩ := k.fits
  unfold wot
  rw [wib, check_ok 12 kt K hK 10000 (by omega) (enc a) (.agg ⟨enc a⟩) ⟨_, hu, .inl ⟨rfl, rfl⟩⟩ (hf a), Option.bind_some]
  show ww P ((underlying kt).bind fun d => _) = _
  rw [wof kt hu]
  cases m with
  | nil => rfl
  | cons p r =>
    show ww P (Instr.findAsking kt (.agg ⟨enc a⟩) (entriesOf (mapK enc (p :: r))) 0) = _
    exact asking_K k a (p :: r) 0
theorem lookX_K (k : KeyT P kt enc) {zero : Value} {ok : Bool} {a : α} {m : List (α × Value)} : lookX P kt zero ok (.agg ⟨enc a⟩) (some (.map (mapK enc m))) = val (okV ok zero (getK m a)) := by
  show (bif flat (.agg ⟨enc a⟩) then wyq ok zero (wot P (mapK enc m).isEmpty kt (.agg ⟨enc a⟩) (mapK enc m)) else .none) = _
  rw [show flat (.agg ⟨enc a⟩) = true from k.flat a, cond_true, wxzb k]
  unfold getK
  cases wck a m 0 <;> rfl
def putK (a : α) (v : Value) : List (α × Value) → List (α × Value)
  | [] => [(a, v)]
  | p :: r => if a = p.1 then (a, v) :: r else p :: putK a v r
theorem wgjb {a : α} {v : Value} : ∀ {m : List (α × Value)} {i j : Nat}, wck a m i = some (j, v) → ∃ h : j - i < m.length, i ≤ j ∧ (m[j - i]).1 = a ∧ ∀ w, putK a w m = m.set (j - i) (a, w) := by
  intro m
  induction m with
  | nil => intro i j h; cases h
  | cons p r ih =>
    intro i j h
    simp only [wck] at h
    by_cases hq : a = p.1
    · rw [if_pos hq] at h
      cases h
      refine ⟨by simp, Nat.le_refl _, ?_, fun w => ?_⟩
      · simp [hq]
      · simp [putK, hq]
    · rw [if_neg hq] at h
      obtain ⟨h1, h2, h3, h4⟩ := ih h
      have e : j - i = (j - (i + 1)) + 1 := by omega
      refine ⟨by simp only [List.length_cons]; omega, by omega, ?_, fun w => ?_⟩
      · simp only [e, List.getElem_cons_succ]; exact h3
      · rw [e, List.set_cons_succ, ← h4 w]; simp [putK, hq]
theorem whjb {a : α} : ∀ {m : List (α × Value)} {i : Nat}, wck a m i = none → ∀ w, putK a w m = m ++ [(a, w)] := by
  intro m
  induction m with
  | nil => intro i _ w; rfl
  | cons p r ih =>
    intro i h w
    simp only [wck] at h
    by_cases hq : a = p.1
    · rw [if_pos hq] at h; cases h
    · rw [if_neg hq] at h
      simp only [putK, if_neg hq, ih h w, List.cons_append]
theorem wyzb {K : List AK} : ∀ {l : List Value}, wle K l = true → ∀ n, (l.zip l).all (fun (x, y) => Instr.sameBits n x y) = true := by
  induction K with
  | nil => intro l h n; cases l with | nil => rfl | cons v r => cases h
  | cons k K ih =>
    intro l h n
    cases l with
    | nil => rfl
    | cons v r =>
      simp only [wle, Bool.and_eq_true] at h
      simp only [List.zip_cons_cons, List.all_cons, Bool.and_eq_true]
      refine ⟨?_, ih h.2 n⟩
      cases k with
      | int j => obtain ⟨x, rfl⟩ := fits_int h.1; simp [Instr.sameBits]
      | str => obtain ⟨⟨⟨x⟩⟩, rfl⟩ := woq h.1; simp only [Instr.sameBits]; rw [ba_beq]; simp
      | bool => obtain ⟨x, rfl⟩ := fits_bool h.1; simp [Instr.sameBits]
theorem updX_K (k : KeyT P kt enc) {h : List ABlk} {r : Nat} {a : α} {x : Value} {m : List (α × Value)} (hr : r < h.length) : updX P h r kt (.agg ⟨enc a⟩) x (some (.map (mapK enc m))) = .eff undef (HP (h.set r (.map (mapK enc (putK a x m))))) := by
  show (bif flat (.agg ⟨enc a⟩) && Nat.blt r h.length then wyw (HP h) r (mapK enc m) (.agg ⟨enc a⟩) x (wot P false kt (.agg ⟨enc a⟩) (mapK enc m)) else .none) = _
  rw [show flat (.agg ⟨enc a⟩) = true from k.flat a, nblt, decide_eq_true hr, Bool.and_self, cond_true, wxzb k]
  cases hq : wck a m 0 with
  | none =>
    rw [whjb hq]
    show ARes.eff undef ((HP h).set r (.map (mapK enc m ++ [(.agg ⟨enc a⟩, x)]))) = _
    rw [wes _ _ _ hr]
    simp [mapK]
  | some q =>
    obtain ⟨j, v⟩ := q
    obtain ⟨h1, _, h3, h4⟩ := wgjb hq
    simp only [Nat.sub_zero] at h1 h3 h4
    rw [h4]
    have e1 : (mapK enc m)[j]? = some (.agg ⟨enc a⟩, (m[j]).2) := by
      rw [mapK, List.getElem?_map, List.getElem?_eq_getElem h1]
      simp only [Option.map_some, h3]
    obtain ⟨K, _, hf⟩ := k.fits
    have e2 : Instr.sameBits 10000 (.agg ⟨enc a⟩) (.agg ⟨enc a⟩) = true := by
      show ((⟨enc a⟩ : Array Value).size == (⟨enc a⟩ : Array Value).size && ((enc a).zip (enc a)).all fun (x, y) => Instr.sameBits 9999 x y) = true
      rw [wyzb (hf a)]
      simp
    show (match (mapK enc m)[j]? with | some e => (bif Instr.sameBits 10000 e.1 (.agg ⟨enc a⟩) then ARes.eff undef ((HP h).set r (.map ((mapK enc m).set j (.agg ⟨enc a⟩, x)))) else .none) | none => .none) = _
    rw [e1]
    simp only [e2, cond_true]
    rw [wes _ _ _ hr]
    simp [mapK, List.map_set]
omit [DecidableEq α] in
theorem wzzb {m : List (α × Value)} (h : (m.all fun p => wgn p.2) = true) : wnab (mapK enc m) = true := by
  unfold wnab mapK
  rw [List.all_map]
  exact h
def setK (enc : α → List Value) (l : List α) : List (Value × Value) := mapK enc (l.map fun a => (a, .bool true))
omit [DecidableEq α] in
theorem wmlb : setK enc [] = [] := rfl
omit [DecidableEq α] in
theorem wy (l : List α) : wcu (setK enc l) = [] ∧ (∀ m, renM m (setK enc l) = setK enc l) ∧ wugb (setK enc l) = [] := by
  have h : wnab (setK enc l) = true := wzzb (by rw [List.all_map]; simp [Function.comp_def, wgn])
  exact ⟨wwpb h, fun _ => wayb h, wxpb h⟩
omit [DecidableEq α] in
theorem waac (h : ∀ a, beqL (enc a) (enc a) = true) (l : List α) : beqP (setK enc l) (setK enc l) = true := by
  induction l with
  | nil => rfl
  | cons a l ih =>
    show (beqV (.agg ⟨enc a⟩) (.agg ⟨enc a⟩) && (beqV (.bool true) (.bool true) && beqP (setK enc l) (setK enc l))) = true
    rw [ih, wazb]
    show (beqL (enc a) (enc a) && true) = true
    rw [h]; rfl
theorem find_set (a : α) : ∀ (l : List α) (i : Nat), (wck a (l.map fun a => (a, .bool true)) i).map (·.2) = if a ∈ l then some (.bool true) else none := by
  intro l
  induction l with
  | nil => intro i; rfl
  | cons b l ih =>
    intro i
    simp only [List.map_cons, wck]
    by_cases hq : a = b
    · simp [hq]
    · rw [if_neg hq, ih]; simp [hq]
theorem wgd (k : KeyT P kt enc) {a : α} {l : List α} : lookX P kt (.bool false) false (.agg ⟨enc a⟩) (some (.map (setK enc l))) = val (.bool (decide (a ∈ l))) := by
  rw [setK, lookX_K k, getK, find_set]
  by_cases h : a ∈ l <;> simp [h] <;> rfl
theorem put_set {a : α} {l : List α} (h : a ∉ l) : putK a (.bool true) (l.map fun a => (a, .bool true)) = (l ++ [a]).map fun a => (a, .bool true) := by
  induction l with
  | nil => rfl
  | cons b l ih =>
    simp only [List.mem_cons, not_or] at h
    simp only [List.map_cons, putK, if_neg h.1, List.cons_append, ih h.2]
theorem wxe (k : KeyT P kt enc) {h : List ABlk} {r : Nat} {a : α} {l : List α} (hr : r < h.length) (ha : a ∉ l) : updX P h r kt (.agg ⟨enc a⟩) (.bool true) (some (.map (setK enc l))) = .eff undef (HP (h.set r (.map (setK enc (l ++ [a]))))) := by
  rw [setK, updX_K k hr, put_set ha]
  rfl
end
theorem wwab {α : Type} [DecidableEq α] {enc : α → List Value} : ABlk.map [] = .map (setK enc ([] : List α)) := rfl
end
end Go.Den
namespace Go.Den
noncomputable section
variable {P : Program}
def appN (h : List ABlk) (elem size bytes : Nat) (s : Value) (n : Nat) (new : List Value) : ARes := wnt true (HP h) elem size bytes s n new
theorem app_FL0 {h : List ABlk} {elem size bytes : Nat} {cs : List Value} : appA true (HP h) elem size bytes (.slice none 0 0) (FL 0 cs) = .eff (.slice none 0 0) (HP h) := rfl
theorem wrqb {h : List ABlk} {elem size bytes t len : Nat} {cs ds : List Value} : appA true (HP h) elem size bytes (FO t len ds) (FL 0 cs) = .eff (FO t len ds) (HP h) := rfl
def appR (h : List ABlk) (elem size bytes : Nat) (s : Value) (n : Nat) : Option ABlk → ARes
  | some (.cells b) => bif decide (n * size ≤ b.cells.length) then appN h elem size bytes s n (slotsOf b.cells 0 (n * size)) else .none
  | _ => .none
def exactX : Option ABlk → Bool
  | some (.cells b) => isNil b.lens && Nat.beq b.wver 0
  | _ => false
theorem exactX_X {cs : List Value} {t z : Nat} {pf : Bool} : exactX (some (X cs t z pf)) = true := rfl
theorem appR_X {h : List ABlk} {elem size bytes : Nat} {s : Value} {n : Nat} {cs : List Value} {t z : Nat} {pf : Bool} (hc : n * size ≤ cs.length) : appR h elem size bytes s n (some (X cs t z pf)) = appN h elem size bytes s n (slotsOf cs 0 (n * size)) := by
  show (bif decide (n * size ≤ cs.length) then _ else _) = _
  rw [decide_eq_true hc]; rfl
theorem app_row1 {h : List ABlk} (hh : h.length ≤ 1099511627774) {elem size bytes : Nat} {s : Value} {i n c : Nat} (hx : exactX h[i]? = true) :
    appA true (HP h) elem size bytes s (.slice (some ⟨i, 0, none⟩) (n + 1) c) = appR h elem size bytes s (n + 1) h[i]? := by
  unfold appA
  have h1 : lenA (.slice (some ⟨i, 0, none⟩) (n + 1) c) = some (n + 1) := rfl
  rw [h1]
  have h2 : wvi (HP h) size (n + 1) (.slice (some ⟨i, 0, none⟩) (n + 1) c) = match wrg (HP h) ⟨i, 0, none⟩ ((n + 1) * size) with
    | some b => some (slotsOf b.cells 0 ((n + 1) * size))
    | none => none := by
    show (bif Nat.ble (n + 1) (n + 1) && Nat.blt 0 (n + 1) then _ else none) = _
    rw [nble, nblt, decide_eq_true (Nat.le_refl _), decide_eq_true (Nat.succ_pos n)]
    rfl
  simp only [h2]
  unfold wrg
  rw [wth h hh]
  cases hb : h[i]? with
  | none => rw [hb] at hx; cases hx
  | some b =>
    rw [hb] at hx
    cases b with
    | cells b =>
      have hx : (isNil b.lens && Nat.beq b.wver 0) = true := hx
      simp only [Bool.and_eq_true, Nat.beq_eq] at hx
      obtain ⟨h3, h4⟩ := hx
      have h5 : b.lens = [] := by cases hl : b.lens with | nil => rfl | cons a r => rw [hl] at h3; cases h3
      have h6 : rdOk b (aver ⟨i, 0, none⟩) (0 + (n + 1) * size) = decide ((n + 1) * size ≤ b.cells.length) := by
        unfold rdOk
        have e1 : b.top = 0 := by unfold CBlk.top; rw [h5]; rfl
        have e2 : b.lenAt 0 = b.cells.length := by unfold CBlk.lenAt; rw [h5]
        rw [h4, e1]
        show (Nat.ble 0 0 && (Nat.ble 0 0 && Nat.ble (0 + (n + 1) * size) (b.lenAt 0))) = _
        rw [e2, Nat.zero_add, nble, nble]
        simp
      simp only [h6]
      by_cases hq : (n + 1) * size ≤ b.cells.length
      · simp only [decide_eq_true hq, cond_true, appR]; rfl
      · simp only [decide_eq_false hq, cond_false, appR]
    | map es => cases hx
    | tok a b c => cases hx
theorem appN_nil {h : List ABlk} (hh : h.length ≤ 1099511627774) {elem size bytes n : Nat} {new : List Value} (hn : n ≤ 16777216) (hb : bytes ≤ 1048576) (ha : waf new = true) :
    appN h elem size bytes (.slice none 0 0) n new = .eff (FO h.length n new) (HP (h ++ [.tok n elem size])) := by
  show (bif roomy n bytes then wdi true (HP h) elem size new n else .none) = _
  have h1 : roomy n bytes = true := by unfold roomy; rw [nble, nble, decide_eq_true hn, decide_eq_true hb]; rfl
  rw [h1, cond_true]
  show (bif wofb (HP h) (nfL new) then ARes.eff (FO (HP h).n n (nfL new)) ((HP h).push (.tok n elem size)) else .none) = _
  rw [wlab ha]
  have h2 : wofb (HP h) new = true := by
    unfold wofb
    rw [whn ha, wcv ha, HP_n, wgi hh]; rfl
  rw [h2, cond_true, HP_n, wik]
def appT (h : List ABlk) (elem size t len n : Nat) (cs new : List Value) : Option ABlk → ARes
  | some (.tok m el es) => bif decide (m = len ∧ el = elem ∧ es = size) then .eff (FO t (len + n) (cs ++ new)) (HP (h.set t (.tok (len + n) elem size))) else .none
  | _ => .none
theorem appT_tok {h : List ABlk} {elem size t len n : Nat} {cs new : List Value} : appT h elem size t len n cs new (some (.tok len elem size)) = .eff (FO t (len + n) (cs ++ new)) (HP (h.set t (.tok (len + n) elem size))) := by
  simp [appT]
theorem appN_FO {h : List ABlk} (hh : h.length ≤ 1099511627774) {elem size bytes t len n : Nat} {cs new : List Value} (ht : t < h.length) (hn : len + n ≤ 16777216) (hb : bytes ≤ 1048576) (hc : cs.length = len * size) (ha : waf new = true) :
    appN h elem size bytes (FO t len cs) n new = appT h elem size t len n cs new h[t]? := by
  show (bif roomy (len + n) bytes then wto (HP h) elem size t len cs (nfL new) n else .none) = _
  have h1 : roomy (len + n) bytes = true := by unfold roomy; rw [nble, nble, decide_eq_true hn, decide_eq_true hb]; rfl
  rw [h1, cond_true, wlab ha]
  unfold wto
  rw [wth h hh]
  cases hq : h[t]? with
  | none => rfl
  | some b =>
    cases b with
    | cells b => rfl
    | map es => rfl
    | tok m el es =>
      show (bif wkt m el es elem size t len cs new then _ else _) = (bif decide (m = len ∧ el = elem ∧ es = size) then _ else _)
      have h2 : wkt m el es elem size t len cs new = decide (m = len ∧ el = elem ∧ es = size) := by
        unfold wkt
        rw [whn ha, wcv ha, hc, Nat.beq_refl, wgi (by omega), nbeq, nbeq, nbeq]
        by_cases q1 : m = len <;> by_cases q2 : el = elem <;> by_cases q3 : es = size <;> simp [q1, q2, q3]
      rw [h2, wes _ _ _ ht]
      by_cases q : m = len ∧ el = elem ∧ es = size
      · obtain ⟨rfl, rfl, rfl⟩ := q; rfl
      · rw [decide_eq_false q]; rfl
def pfX : Option ABlk → Bool
  | some (.cells b) => isNil b.lens && (Nat.beq b.wver 0 && b.pf)
  | _ => false
theorem pfX_X {cs : List Value} {t z : Nat} : pfX (some (X cs t z true)) = true := rfl
theorem wbac {h : List ABlk} (hh : h.length ≤ 1099511627774) {i n c : Nat} {sl : List Value → Option (List Value × Frs)} (hx : pfX h[i]? = true) :
    wce P (HP h) sl (.slice (some ⟨i, 0, none⟩) (n + 1) (c + 1)) = rowS P i (n + 1) c h[i]? := by
  show wwm P (HP h) sl ⟨i, 0, none⟩ (n + 1) (c + 1) = _
  unfold wwm
  rw [wth h hh]
  cases hb : h[i]? with
  | none => rw [hb] at hx; cases hx
  | some b =>
    rw [hb] at hx
    cases b with
    | map es => cases hx
    | tok a b c => cases hx
    | cells b =>
      have hx : (isNil b.lens && (Nat.beq b.wver 0 && b.pf)) = true := hx
      simp only [Bool.and_eq_true, Nat.beq_eq] at hx
      obtain ⟨h3, h4, h7⟩ := hx
      have h5 : b.lens = [] := by cases hl : b.lens with | nil => rfl | cons a r => rw [hl] at h3; cases h3
      have e0 : wsf P b = tsz P b.elem := by unfold wsf; rw [h5]; rfl
      have hi : wzb i = true := wgi (by have := wbv hb; omega)
      have h6 : rdOk b (aver ⟨i, 0, none⟩) (0 + (n + 1) * tsz P b.elem) = Nat.ble ((n + 1) * tsz P b.elem) b.cells.length := by
        unfold rdOk
        have e1 : b.top = 0 := by unfold CBlk.top; rw [h5]; rfl
        have e2 : b.lenAt 0 = b.cells.length := by unfold CBlk.lenAt; rw [h5]
        rw [h4, e1]
        show (Nat.ble 0 0 && (Nat.ble 0 0 && Nat.ble (0 + (n + 1) * tsz P b.elem) (b.lenAt 0))) = _
        rw [e2, Nat.zero_add, nble 0 0]
        simp
      simp only [e0, h6, h7, cond_true]
      show (bif (Nat.ble (n + 1) c && Nat.blt 0 (tsz P b.elem)) && Nat.ble ((n + 1) * tsz P b.elem) b.cells.length then _ else none) = (bif Nat.ble (n + 1) c && (isNil b.lens && (b.pf && (Nat.blt 0 (tsz P b.elem) && Nat.ble ((n + 1) * tsz P b.elem) b.cells.length))) then _ else none)
      rw [h3, h7, Bool.and_assoc, Bool.true_and, Bool.true_and]
      cases (Nat.ble (n + 1) c && (Nat.blt 0 (tsz P b.elem) && Nat.ble ((n + 1) * tsz P b.elem) b.cells.length)) with
      | false => rfl
      | true =>
        simp only [cond_true, hi, Bool.and_true, Nat.zero_add]
end
end Go.Den
namespace Go.Den
set_option linter.defProp false
theorem ai {a b : Prop} (h : a) (k : b) : a ∧ b := ⟨h, k⟩
def zA := (ai @Bool.and_eq_true (ai @and_true @true_and))
def zH := (ai (ai (ai @decide_eq_true_eq @decide_eq_false_iff_not) (ai @Bool.not_true @Bool.not_false)) (ai (ai @Bool.not_eq_true @Bool.not_eq_false) (ai @Classical.not_not @ne_eq.{1})))
def zT := (ai (ai (ai (ai (ai @over_all @woeb) (ai @wpqb (ai @slots_0 @slots_00))) (ai (ai @wey (ai @whzb @wizb)) (ai @wjzb (ai @weg @wpeb)))) (ai (ai (ai @wms @st_get0) (ai @wpzb (ai @wozb @st_set0))) (ai (ai @st_over1 (ai @wqzb @wsab)) (ai @wtab (ai @wqf @wrzb))))) (ai (ai (ai (ai @mts_slot @wllb) (ai @wns (ai @rx_get0 @rx_get1))) (ai (ai @rx_get2 (ai @rx_get3 @rx_get8)) (ai @wuzb (ai @wvab @wuq)))) (ai (ai (ai @rxs_fz @wvzb) (ai @set_flat (ai @rx_kind @rx_mn))) (ai (ai @rx_mx (ai @rx_n @rx_set)) (ai @wszb (ai @sts_bq @rxs_bq))))))
def zD := (ai (ai (ai (ai @wey (ai @wpeb @wqzb)) (ai @wrzb (ai @wllb @wvab))) (ai (ai @wajb (ai @weg @wms)) (ai @sts_fz (ai @wwg @wns)))) (ai (ai (ai @rxs_fz (ai @wvzb @wmzb)) (ai @wejb (ai @wov @mt_bq))) (ai (ai @st_bq (ai @sts_bq @mts_bq)) (ai @set_bq (ai @rx_bq @rxs_bq)))))
def zS := (ai (ai (ai (ai (ai (ai (ai (ai @weob (ai @wcub @wfob)) (ai (ai @wdub @weub) (ai @wrhb @wiob))) (ai (ai (ai @wjob @wshb) (ai @wthb @seqK_ret)) (ai (ai @whub @wgab) (ai @wkob @wuhb)))) (ai (ai (ai @opsR_nil (ai @opsR_ins @wiub)) (ai (ai @wlob @wjub) (ai @opsR_un @opsR_eqb))) (ai (ai (ai @wkub @wlub) (ai @wmub @opsR_ssl)) (ai (ai @wnub @opsR_slS) (ai @woub @wpub))))) (ai (ai (ai (ai @opsR_b2s (ai @wqub @wrub)) (ai (ai @opsI_val @wsub) (ai @opsI_new @opsI_eff))) (ai (ai (ai @wtub @evl_tmp) (ai @wuub @evls_nil)) (ai (ai @wvub @SE_put) (ai @wqhb @int2_add)))) (ai (ai (ai (ai @int2_sub @int2_quo) (ai @int2_rem @int2_eql)) (ai (ai @int2_neq @int2_lss) (ai @int2_leq @int2_gtr))) (ai (ai (ai @int2_geq @int2_and) (ai @int2_or @shift_shl)) (ai (ai @shift_shr @conv_int) (ai @un_not @un_neg)))))) (ai (ai (ai (ai (ai @eqb_eq (ai @eqb_ne @slen_str)) (ai (ai @isJK_int @wwub) (ai @wvhb @isJK_agg))) (ai (ai (ai @isJK_ptr @wmob) (ai @wwhb @wxhb)) (ai (ai @wxub @wyub) (ai @wnob @wrdb)))) (ai (ai (ai @wyhb (ai @cells_func @wzub)) (ai (ai @wzhb @wsdb) (ai @wkw @whab))) (ai (ai (ai @waib @wwx) (ai @woob @wpob)) (ai (ai @wbib @wiab) (ai @wavb @wcib))))) (ai (ai (ai (ai @load1_HP (ai @load1X_X @loadN_HP)) (ai (ai @loadNX_X @store_HP) (ai @storeX_X @exact_X))) (ai (ai (ai @wqk @cond_true.{1}) (ai @cond_false.{1} @nble)) (ai (ai @nblt @nbeq) (ai @decide_eq_true_eq @wrap_i64)))) (ai (ai (ai (ai @wrap_u8 @Int.tdiv_eq_ediv_of_nonneg) (ai @Int.tmod_eq_emod_of_nonneg @List.nil_append.{0})) (ai (ai @List.cons_append.{0} @List.append_assoc.{0}) (ai @List.length_cons.{0} @List.length_nil.{0}))) (ai (ai (ai @List.getElem?_cons_zero.{0} @List.getElem?_cons_succ.{0}) (ai @List.set_cons_zero.{0} @List.set_cons_succ.{0})) (ai (ai @Nat.zero_add @Nat.add_zero) (ai @Bool.true_and @Bool.and_true))))))) (ai (ai (ai (ai (ai (ai @Bool.and_self (ai @Bool.not_false @Bool.not_true)) (ai (ai @Int.toNat_natCast @HP_n) (ai @List.drop_zero.{0} @List.drop_succ_cons.{0}))) (ai (ai (ai @List.take_zero.{0} @List.take_succ_cons.{0}) (ai @Nat.add_eq @Nat.mul_eq)) (ai (ai @Nat.mul_one @wfub) (ai @wgub @wqob)))) (ai (ai (ai @arr_size (ai @wen @resR_nil)) (ai (ai @wbvb @wcvb) (ai @resA_tmp @wrob))) (ai (ai (ai @wsob @resV_val) (ai @wdvb @wevb)) (ai (ai @wfvb @len_FL) (ai @len_FO @wgvb))))) (ai (ai (ai (ai @whvb (ai @wivb @wgob)) (ai (ai @opsD_ins @wrvb) (ai @wsvb @opsD_un))) (ai (ai (ai @wtvb @wuvb) (ai @wvvb @opsD_ssl)) (ai (ai @wwvb @opsD_slS) (ai @opsD_eqc @opsD_nil)))) (ai (ai (ai (ai @wxvb @wxob) (ai @wyvb @wzvb)) (ai (ai @wyob @wmvb) (ai @wwdb @wkab))) (ai (ai (ai @opsR_eqc @opsR_mm) (ai @List.map_cons.{0, 0} @List.map_nil.{0, 0})) (ai (ai @List.length_append.{0} @fld1_agg) (ai @wjvb @wvdb)))))) (ai (ai (ai (ai (ai @wuob (ai @wlvb @wvob)) (ai (ai @wnvb @Bool.decide_eq_true) (ai @Bool.decide_eq_false @if_true.{1}))) (ai (ai (ai @if_false.{1} @str2_neq) (ai @str2_add @sidx_str)) (ai (ai @ssl_both @ssl_lo) (ai @Option.map_some.{0, 0} @Option.map_none.{0, 0})))) (ai (ai (ai (ai @eq_self.{1} @decide_true) (ai @decide_false @wapb)) (ai (ai @opsD_eqb @opsD_mm) (ai @wbpb @wawb))) (ai (ai (ai @wbwb @opsD_b2s) (ai @look_HP @okd_true)) (ai (ai @wcwb @upd_HP) (ai @wydb @okV_some))))) (ai (ai (ai (ai @okV_none (ai @welb @wxx)) (ai (ai @gselV_tt @gselV_tf) (ai @gselV_ft @gselV_ff))) (ai (ai (ai @List.all_cons.{0} @List.all_nil.{0}) (ai @whob @wtdb)) (ai (ai @wewb @wqr) (ai @atom_int @wgwb)))) (ai (ai (ai (ai @wdib @atom_FL) (ai @atom_FP @whwb)) (ai (ai @wiwb @wjwb) (ai @wfpb @weib))) (ai (ai (ai @wgpb @wkwb) (ai @seal_int @wlwb)) (ai (ai @wfib @wceb) (ai @seal_FL @seal_FO)))))))) (ai (ai (ai (ai (ai (ai (ai @seal_FP (ai @wmwb @seal_noS)) (ai (ai @seal_ptr @seal_map) (ai @wnwb @wowb))) (ai (ai (ai @seal_agg @whpb) (ai @wpwb @wqwb)) (ai (ai @wrwb @wswb) (ai @EJ_n @EJ_g)))) (ai (ai (ai @SE_n (ai @SE_g @E0_n)) (ai (ai @E0_g @zipR_nil) (ai @wvwb @envL_SE))) (ai (ai (ai @lvOk_nil @wwwb) (ai @evs_nil @evs_cons)) (ai (ai @normA_X @cloL_nil) (ai @wxwb @memN_nil))))) (ai (ai (ai (ai @wzwb (ai @wjpb @wcxb)) (ai (ai @wkpb @pins_nil) (ai @wdxb @hasL_nil))) (ai (ai (ai @wexb @wfxb) (ai @wlpb @wmpb)) (ai (ai @wiib @wgxb) (ai @whxb @wnpb)))) (ai (ai (ai (ai @wixb @renBX_X) (ai @wjxb @wkxb)) (ai (ai @exactB_X @wopb) (ai @wppb @refsB_X))) (ai (ai (ai @wlxb @wmxb) (ai @nm1_at @wqpb)) (ai (ai @upto_0 @upto_1) (ai @upto_2 @upto_3)))))) (ai (ai (ai (ai (ai @upto_4 (ai @upto_5 @upto_6)) (ai (ai @wnxb @wrpb) (ai @refs_ptr @wsxb))) (ai (ai (ai @refs_row @wtxb) (ai @refs_map @refs_FO)) (ai (ai @refs_agg @wtpb) (ai @wuxb @wvxb)))) (ai (ai (ai @wupb (ai @wwxb @wvpb)) (ai (ai @ren_ptr @wxxb) (ai @ren_nilS @ren_row))) (ai (ai (ai @ren_row0 @ren_map) (ai @ren_FO @ren_agg)) (ai (ai @wyxb @ren_func) (ai @renM_nil @wzxb))))) (ai (ai (ai (ai @wbyb (ai @wypb @wzpb)) (ai (ai @wlib @wmib) (ai @wnib @wdyb))) (ai (ai (ai @waqb @retR_end) (ai @weyb @wfyb)) (ai (ai @wbqb @valK_raw) (ai @wgyb @one_1)))) (ai (ai (ai (ai @one_0 @one_2) (ai @whyb @raise_HP)) (ai (ai @AH0_HP @wiyb) (ai @wcqb @frzSet_X))) (ai (ai (ai @woib @wpib) (ai @wrib @wuib)) (ai (ai @wvib @wwib) (ai @opsK_did @wczb))))))) (ai (ai (ai (ai (ai (ai @wnqb (ai @wzib @bk_at)) (ai (ai @getN_0 @getN_s) (ai @fzn1_agg @fzn1_int))) (ai (ai (ai @wmyb @wsib) (ai @wheb @fzn1_FL)) (ai (ai @fzn1_FP @wnyb) (ai @woyb @weqb)))) (ai (ai (ai @frzV_agg (ai @frzV_int @wpyb)) (ai (ai @wtib @wieb) (ai @frzV_FL @frzV_FP))) (ai (ai (ai @wqyb @wryb) (ai @fl_int @fl_bool)) (ai (ai @wxyb @whqb) (ai @fl_FL @fl_FO))))) (ai (ai (ai (ai @fl_ptr (ai @fl_map @fl_agg)) (ai (ai @fl_tuple @wyyb) (ai @wco @wiqb))) (ai (ai (ai @wzyb @gd_skip) (ai @gd_skip' @gd_do)) (ai (ai @gd_do' @wuyb) (ai @wfqb @wjeb)))) (ai (ai (ai (ai @wgqb @wvyb) (ai @wxib @Option.isSome_some.{0})) (ai (ai @Bool.or_false @Bool.false_or) (ai @Bool.or_true @Bool.true_or))) (ai (ai (ai @Bool.and_false @Bool.false_and) (ai @List.append_nil.{0} @wkvb)) (ai (ai @wtob @lkE_nil) (ai @lkE_cons @look_E0)))))) (ai (ai (ai (ai (ai @look_EJ (ai @lkB_true @wtwb)) (ai (ai @lkH_true @app_FL0) (ai @wrqb @app_row1))) (ai (ai (ai @appR_X @exactX_X) (ai @appN_nil @appN_FO)) (ai (ai @appT_tok @wbac) (ai @pfX_X @rowS_X)))) (ai (ai (ai (ai @wwyb @isJK_map) (ai @nilc_ptr @nilc_FP)) (ai (ai @wjqb @mm_min2) (ai @mm_max2 @bq_X))) (ai (ai (ai @bq_map @bq_tok) (ai @wev @wzg)) (ai (ai @bqP_nil @bqP_cons) (ai @wrq @wazb))))) (ai (ai (ai (ai @bq_str (ai @bq_ptr @bq_nilP)) (ai (ai @bq_nilS @wbzb) (ai @bq_FL @bq_FO))) (ai (ai (ai @chg_same @refs_int) (ai @ren_int @woxb)) (ai (ai @ren_bool @wjib) (ai @wspb @weeb)))) (ai (ai (ai (ai @wkib @refs_FL) (ai @ren_FL @refs_FP)) (ai (ai @ren_FP @wpxb) (ai @ren_nilP @wqxb))) (ai (ai (ai @ren_nilF @wrxb) (ai @ren_nilI @wywb)) (ai (ai @wipb @ne_eq.{1}) (ai @not_false_eq_true @not_true_eq_false)))))))))
theorem z1 : type_of% @wdzb := @wdzb
theorem z2 : type_of% @wjlb := @wjlb
theorem z3 : type_of% @gd_ok := @gd_ok
theorem z4 : type_of% @gdD_ok := @gdD_ok
theorem z5 : type_of% @wby := @wby
theorem z6 : type_of% @AccLe.chg := @AccLe.chg
theorem z7 : type_of% @AccLe.same := @AccLe.same
end Go.Den
namespace Go.Proofs.Ytgpabbbibmnnlaa
open Go.Den
noncomputable section
theorem mixed : Try.prog.follows .mixedOrders = true := by kernel_rfl
def rawC (f : FuncId) : Bool × Bool := bif Nat.beq f 122 then (true, true) else (false, false)
def ownC (f : FuncId) : Bool := !([63, 64, 79, 89] : List Nat).any fun k => Nat.beq k f
def cfgC0 : Cfg := { raw := fun _ => (false, false), own := ownC, live := fun _ _ => none, glob := fun _ => none, know := wvkb }
theorem wcac : ∀ c, wihb (den Try.prog cfgC0 100 (.call 122 [.slice none 0 c]) AH0) = true := fun c => by kernel_rfl
theorem clone_no : wihb (den Try.prog cfgC0 100 (.call 122 [.slice (some ⟨0, 0, none⟩) 0 0]) AH0) = true := by kernel_rfl
def knowC : FuncId → Option (List Value → Option Value) := whdb [122] wvkb
theorem wat : wtg Try.prog (fun _ => none) knowC :=
  wqtb (fun f hf => by
      rw [List.mem_singleton] at hf
      subst hf
      exact known_no (cfg := cfgC0) wxu mixed wcac clone_no) wxu
def cfgC : Cfg := { raw := rawC, own := ownC, live := fun _ _ => none, glob := fun _ => none, know := knowC }
theorem wreb : wbab (den Try.prog cfgC 3000 (.call 34 []) AH0) = true := by kernel_rfl
theorem wtw : wbi Try.prog (fun _ => none) 34 [] (.bool true) := wxnb (cfg := cfgC) wat mixed wreb
end
end Go.Proofs.Ytgpabbbibmnnlaa
namespace Go.Den
noncomputable section
abbrev setX (S : BitVec 256) : Rx := .mk 1 0 0 0 S []
abbrev repX (mn mx : Int) (S : BitVec 256) : Rx := .mk 4 mn mx 0 0#256 [setX S]
abbrev wijb (l : List Rx) : Rx := .mk 2 0 0 0 0#256 l
abbrev wdac : Rx := .mk 7 0 0 0 0#256 []
abbrev wsqb : Rx := .mk 8 0 0 0 0#256 []
abbrev AB : BitVec 256 := one 97 ||| one 98
def wni : Rx := wijb [wdac, repX 0 (-1) AB]
def wlh : Rx := wijb [repX 0 (-1) AB, wsqb]
def wzi : Rx := wijb [wdac, repX 0 (-1) AB, wsqb]
def prV (r : Rx) : Value := .tuple ⟨[.agg ⟨rxC r⟩, .int .i64 0, .int .i64 0]⟩
end
end Go.Den
namespace Go.Proofs.Ytgpabbbibmnnlaa
open Go.Den
noncomputable section
theorem wjjb : wbi Try.prog (fun _ => none) 35 [str [94, 91, 97, 98, 93, 42], .bool false] (prV wni) := wdn (cfg := cfgC) (n := 3000) wat mixed (by kernel_rfl) (by kernel_rfl) (by kernel_rfl)
theorem wkjb : wbi Try.prog (fun _ => none) 35 [str [91, 97, 98, 93, 42, 36], .bool false] (prV wlh) := wdn (cfg := cfgC) (n := 3000) wat mixed (by kernel_rfl) (by kernel_rfl) (by kernel_rfl)
theorem wljb : wbi Try.prog (fun _ => none) 35 [str [94, 91, 97, 98, 93, 42, 36], .bool false] (prV wzi) := wdn (cfg := cfgC) (n := 3000) wat mixed (by kernel_rfl) (by kernel_rfl) (by kernel_rfl)
end
end Go.Proofs.Ytgpabbbibmnnlaa
namespace Go.Proofs.Ytgpabbbibmnnlaa
open Go.Den
noncomputable section
end
end Go.Proofs.Ytgpabbbibmnnlaa
namespace Go.Proofs.Ytgpabbbibmnnlaa
open Go.Den
noncomputable section
def live6 (i : Nat) : Option (List Tmp × List Tmp × Nat) := bif Nat.beq i 8 then some ([3, 4, 7, 10, 13, 14], [3, 4, 7, 10, 13, 14], 999999) else bif Nat.beq i 10 then some ([3, 4, 7, 10, 13, 14], [3, 4, 7, 10, 13, 14], 999999) else none
def live26 (i : Nat) : Option (List Tmp × List Tmp × Nat) := bif Nat.beq i 3 then some ([0, 1, 5, 6], [5], 999999) else none
def live27 (i : Nat) : Option (List Tmp × List Tmp × Nat) := bif Nat.beq i 4 then some ([1, 3, 6, 8], [6, 7], 999999) else bif Nat.beq i 8 then some ([1, 3, 6, 8, 9, 10, 43, 44, 45], [1, 3, 6, 8, 9, 10], 999999) else none
def live30 (i : Nat) : Option (List Tmp × List Tmp × Nat) := bif Nat.beq i 4 then some ([1, 2, 5, 6, 7], [4, 5], 999999) else none
def live38 (i : Nat) : Option (List Tmp × List Tmp × Nat) := bif Nat.beq i 3 then some ([0, 1, 3], [0, 1], 999999) else none
def live74 (i : Nat) : Option (List Tmp × List Tmp × Nat) := bif Nat.beq i 3 then some ([3, 7, 8, 9], [3], 999999) else none
def live75 (i : Nat) : Option (List Tmp × List Tmp × Nat) := bif Nat.beq i 18 then some ([4, 5, 8, 80, 81, 82], [8], 999999) else bif Nat.beq i 27 then some ([3, 5, 11, 108, 109, 110], [11], 999999) else bif Nat.beq i 34 then some ([3, 7, 128, 129, 130], [7], 999999) else none
def live96 (i : Nat) : Option (List Tmp × List Tmp × Nat) := bif Nat.beq i 4 then some ([3, 17, 18, 19], [4], 999999) else none
def live97 (i : Nat) : Option (List Tmp × List Tmp × Nat) := bif Nat.beq i 12 then some ([0, 2, 77, 78, 79], [6], 999999) else none
def live103 (i : Nat) : Option (List Tmp × List Tmp × Nat) := bif Nat.beq i 1 then some ([0, 6, 7, 8], [], 999999) else none
def live104 (i : Nat) : Option (List Tmp × List Tmp × Nat) := bif Nat.beq i 3 then some ([3, 4, 7, 11, 12, 13], [7], 999999) else none
def live105 (i : Nat) : Option (List Tmp × List Tmp × Nat) := bif Nat.beq i 5 then some ([0, 1, 5, 52, 53, 54], [0, 1, 5], 999999) else none
def live172 (i : Nat) : Option (List Tmp × List Tmp × Nat) := bif Nat.beq i 2 then some ([0, 1, 7, 8], [4], 999999) else none
def live173 (i : Nat) : Option (List Tmp × List Tmp × Nat) := bif Nat.beq i 2 then some ([0, 1, 7, 8], [4], 999999) else none
def liveT (f i : Nat) : Option (List Tmp × List Tmp × Nat) := bif Nat.blt f 96 then (bif Nat.blt f 30 then (bif Nat.blt f 26 then (bif Nat.beq f 6 then live6 i else none) else (bif Nat.blt f 27 then (bif Nat.beq f 26 then live26 i else none) else (bif Nat.beq f 27 then live27 i else none))) else (bif Nat.blt f 74 then (bif Nat.blt f 38 then (bif Nat.beq f 30 then live30 i else none) else (bif Nat.beq f 38 then live38 i else none)) else (bif Nat.blt f 75 then (bif Nat.beq f 74 then live74 i else none) else (bif Nat.beq f 75 then live75 i else none)))) else (bif Nat.blt f 104 then (bif Nat.blt f 97 then (bif Nat.beq f 96 then live96 i else none) else (bif Nat.blt f 103 then (bif Nat.beq f 97 then live97 i else none) else (bif Nat.beq f 103 then live103 i else none))) else (bif Nat.blt f 172 then (bif Nat.blt f 105 then (bif Nat.beq f 104 then live104 i else none) else (bif Nat.beq f 105 then live105 i else none)) else (bif Nat.blt f 173 then (bif Nat.beq f 172 then live172 i else none) else (bif Nat.beq f 173 then live173 i else none))))
def tabK : List (FuncId × List Value × Value) := [(34, [], .bool true), (35, [str [94, 91, 97, 98, 93, 42], .bool false], .tuple ⟨[.agg ⟨rxC wni⟩, .int .i64 0, .int .i64 0]⟩), (35, [str [91, 97, 98, 93, 42, 36], .bool false], .tuple ⟨[.agg ⟨rxC wlh⟩, .int .i64 0, .int .i64 0]⟩), (35, [str [94, 91, 97, 98, 93, 42, 36], .bool false], .tuple ⟨[.agg ⟨rxC wzi⟩, .int .i64 0, .int .i64 0]⟩)]
def cfg : Cfg := { raw := fun f => (false, Nat.beq f 95), own := fun f => true, live := liveT, glob := fun _ => none, know := wjhb tabK wvkb }
theorem hc : PlainA cfg := ⟨fun _ => rfl⟩
theorem weh : wtg Try.prog cfg.glob cfg.know := wvnb (fun e he => by
  simp only [tabK, List.mem_cons, List.not_mem_nil, or_false] at he
  rcases he with rfl | rfl | rfl | rfl
  · exact wtw
  · exact wjjb
  · exact wkjb
  · exact wljb) wxu
theorem weac {rec : Rec} {f : FuncId} {args : List Value} {H : AH} : callS Try.prog cfg rec f args H = whu rec f H (wxf Try.prog H 20 args) (cfg.know f) := rfl
def G0 : (Nat → Option (List Value)) × Bool := (fun _ => none, true)
theorem g0_K : G0.2 = true := rfl
theorem g_K {f : FuncId} : (cfg.glob, cfg.own f) = G0 := rfl
theorem kn_K : cfg.know 15 = none ∧ cfg.know 26 = none ∧ cfg.know 27 = none ∧ cfg.know 30 = none ∧ cfg.know 33 = none ∧ cfg.know 36 = none ∧ cfg.know 38 = none ∧ cfg.know 52 = none ∧ cfg.know 69 = none ∧ cfg.know 74 = none ∧ cfg.know 75 = none ∧ cfg.know 96 = none ∧ cfg.know 97 = none ∧ cfg.know 101 = none ∧ cfg.know 102 = none ∧ cfg.know 103 = none ∧ cfg.know 104 = none ∧ cfg.know 105 = none ∧ cfg.know 114 = none ∧ cfg.know 115 = none ∧ cfg.know 125 = none ∧ cfg.know 144 = none ∧ cfg.know 145 = none ∧ cfg.know 163 = none ∧ cfg.know 165 = none ∧ cfg.know 172 = none ∧ cfg.know 173 = none := ⟨rfl, rfl, rfl, rfl, rfl, rfl, rfl, rfl, rfl, rfl, rfl, rfl, rfl, rfl, rfl, rfl, rfl, rfl, rfl, rfl, rfl, rfl, rfl, rfl, rfl, rfl, rfl⟩
theorem kw_K : (∀ (rec : Rec) (H : AH) (fr : Frs), whu rec 34 H (some ([], fr)) (cfg.know 34) = .did (.bool true) none true (raise H fr) (wgk fr)) ∧ (∀ (rec : Rec) (H : AH) (fr : Frs), whu rec 35 H (some ([str [94, 91, 97, 98, 93, 42], .bool false], fr)) (cfg.know 35) = .did (.tuple ⟨[.agg ⟨rxC wni⟩, .int .i64 0, .int .i64 0]⟩) none true (raise H fr) (wgk fr)) ∧ (∀ (rec : Rec) (H : AH) (fr : Frs), whu rec 35 H (some ([str [91, 97, 98, 93, 42, 36], .bool false], fr)) (cfg.know 35) = .did (.tuple ⟨[.agg ⟨rxC wlh⟩, .int .i64 0, .int .i64 0]⟩) none true (raise H fr) (wgk fr)) ∧ (∀ (rec : Rec) (H : AH) (fr : Frs), whu rec 35 H (some ([str [94, 91, 97, 98, 93, 42, 36], .bool false], fr)) (cfg.know 35) = .did (.tuple ⟨[.agg ⟨rxC wzi⟩, .int .i64 0, .int .i64 0]⟩) none true (raise H fr) (wgk fr)) := ⟨fun _ _ _ => by kernel_rfl, fun _ _ _ => by kernel_rfl, fun _ _ _ => by kernel_rfl, fun _ _ _ => by kernel_rfl⟩
theorem tsz_K : tsz Try.prog 3 = 1 ∧ tsz Try.prog 5 = 1 ∧ tsz Try.prog 53 = 8 ∧ tsz Try.prog 87 = 9 := ⟨by kernel_rfl, by kernel_rfl, by kernel_rfl, by kernel_rfl⟩
theorem raw_K : (cfg.raw 6).2 = false ∧ (cfg.raw 15).2 = false ∧ (cfg.raw 26).2 = false ∧ (cfg.raw 27).2 = false ∧ (cfg.raw 30).2 = false ∧ (cfg.raw 33).2 = false ∧ (cfg.raw 36).2 = false ∧ (cfg.raw 38).2 = false ∧ (cfg.raw 52).2 = false ∧ (cfg.raw 69).2 = false ∧ (cfg.raw 74).2 = false ∧ (cfg.raw 75).2 = false ∧ (cfg.raw 96).2 = false ∧ (cfg.raw 97).2 = false ∧ (cfg.raw 101).2 = false ∧ (cfg.raw 102).2 = false ∧ (cfg.raw 103).2 = false ∧ (cfg.raw 104).2 = false ∧ (cfg.raw 105).2 = false ∧ (cfg.raw 114).2 = false ∧ (cfg.raw 115).2 = false ∧ (cfg.raw 125).2 = false ∧ (cfg.raw 144).2 = false ∧ (cfg.raw 145).2 = false ∧ (cfg.raw 163).2 = false ∧ (cfg.raw 164).2 = false ∧ (cfg.raw 165).2 = false ∧ (cfg.raw 172).2 = false ∧ (cfg.raw 173).2 = false := ⟨rfl, rfl, rfl, rfl, rfl, rfl, rfl, rfl, rfl, rfl, rfl, rfl, rfl, rfl, rfl, rfl, rfl, rfl, rfl, rfl, rfl, rfl, rfl, rfl, rfl, rfl, rfl, rfl, rfl⟩
theorem kK : type_of% @raw_K ∧ (type_of% @weac ∧ type_of% @g_K) ∧ (type_of% @g0_K ∧ type_of% @tsz_K) ∧ (type_of% @kn_K ∧ type_of% @kw_K) := ⟨@raw_K, ⟨@weac, @g_K⟩, ⟨@g0_K, @tsz_K⟩, ⟨@kn_K, @kw_K⟩⟩
theorem wlc : cfg.live 6 (wsc (wxb 0)) = some ([3, 4, 7, 10, 13, 14], [3, 4, 7, 10, 13, 14], 999999) := by kernel_rfl
theorem wmc : cfg.live 6 (wsc (wxb 1)) = some ([3, 4, 7, 10, 13, 14], [3, 4, 7, 10, 13, 14], 999999) := by kernel_rfl
theorem wlf : cfg.live 26 (wsc (wjg 0)) = some ([0, 1, 5, 6], [5], 999999) := by kernel_rfl
theorem whd : cfg.live 27 (wsc (wme 0)) = some ([1, 3, 6, 8], [6, 7], 999999) := by kernel_rfl
theorem whe : cfg.live 27 (wsc (wme 1)) = some ([1, 3, 6, 8, 9, 10, 43, 44, 45], [1, 3, 6, 8, 9, 10], 999999) := by kernel_rfl
theorem wnb : cfg.live 30 (wsc (woj 0)) = some ([1, 2, 5, 6, 7], [4, 5], 999999) := by kernel_rfl
theorem wul : cfg.live 38 (wsc (wpl 0)) = some ([0, 1, 3], [0, 1], 999999) := by kernel_rfl
theorem wvl : cfg.live 74 (wsc (wrl 0)) = some ([3, 7, 8, 9], [3], 999999) := by kernel_rfl
theorem wtd : cfg.live 75 (wsc (wtb 0)) = some ([4, 5, 8, 80, 81, 82], [8], 999999) := by kernel_rfl
theorem wjd : cfg.live 75 (wsc (wtb 1)) = some ([3, 5, 11, 108, 109, 110], [11], 999999) := by kernel_rfl
theorem wud : cfg.live 75 (wsc (wtb 2)) = some ([3, 7, 128, 129, 130], [7], 999999) := by kernel_rfl
theorem wrb : cfg.live 97 (wsc (wig 0)) = some ([0, 2, 77, 78, 79], [6], 999999) := by kernel_rfl
theorem wnc : cfg.live 103 (wsc (wwe 0)) = some ([0, 6, 7, 8], [], 999999) := by kernel_rfl
theorem wkd : cfg.live 104 (wsc (wpf 0)) = some ([3, 4, 7, 11, 12, 13], [7], 999999) := by kernel_rfl
theorem wz : cfg.live 105 (wsc (wsd 0)) = some ([0, 1, 5, 52, 53, 54], [0, 1, 5], 999999) := by kernel_rfl
theorem wsb : cfg.live 172 (wsc (wqc 0)) = some ([0, 1, 7, 8], [4], 999999) := by kernel_rfl
theorem woc : cfg.live 173 (wsc (wxd 0)) = some ([0, 1, 7, 8], [4], 999999) := by kernel_rfl
end
end Go.Proofs.Ytgpabbbibmnnlaa
namespace Go.Proofs.Ytgpabbbibmnnlaa
set_option linter.unusedVariables false
set_option linter.unusedSimpArgs false
open Go.Den
noncomputable section
def wwl (n lo hi : Int) : Int := if n.tmod (hi - lo + 1) < 0 then lo + (n.tmod (hi - lo + 1) + hi - lo + 1) else lo + n.tmod (hi - lo + 1)
theorem wfac (n lo hi : Int) (h1 : -1000000 ≤ lo) (h2 : lo ≤ hi) (h3 : hi ≤ 1000000) : lim Try.prog cfg (.call 15 [.int .i64 n, .int .i64 lo, .int .i64 hi]) (HP []) = some (.val (.int .i64 (wwl n lo hi)), HP []) := by
  refine wec hc wim (Nat.le_of_ble_eq_true rfl) (Nat.le_of_ble_eq_true rfl) ?_
  unfold wnj wwl
  have hb : -(hi - lo + 1) < n.tmod (hi - lo + 1) ∧ n.tmod (hi - lo + 1) < hi - lo + 1 := by
    have := Int.emod_nonneg n (show hi - lo + 1 ≠ 0 by omega)
    have h5 := Int.emod_lt_of_pos n (show 0 < hi - lo + 1 by omega)
    rw [Int.tmod_eq_emod]
    split <;> omega
  (repeat' (first | (simp -implicitDefEqProofs (maxSteps := 2000000) (disch := first | with_reducible assumption | omega | (simp only [zS, zA, seval] <;> omega) | fail) only [zS, argl, insA, Go.Den.wm, wo, wu, looks, wcb, wbb, idOf, riA, seval, Go.Den.wh, kK, *]) | (with_reducible (first | apply z1 | apply z2 | apply z3 | apply z4) <;> intro hq <;> (try simp only [zH] at hq) <;> (try (exfalso; omega)))))
def wef : Mt := ⟨[-1, -1, -1, -1, -1, -1, -1, -1], rfl⟩
theorem wseb (m : Mt) (i j : Nat) (a : Int) : (m.put i a).at j = if i = j ∧ j < 8 then a else m.at j := by
  rw [Mt.at, Mt.at, Mt.put, List.getD_eq_getElem?_getD, List.getD_eq_getElem?_getD, List.getElem?_set, m.2]
  by_cases h1 : i = j
  · subst h1
    by_cases h2 : i < 8
    · simp [h2]
    · have h3 := m.2
      simp [h2]
      rw [List.getElem?_eq_none (by omega)]
      rfl
  · simp [h1]
theorem wgac (z : List Value) : ∀ (k i : Nat) (m : Mt), i + k = 4 → (∀ j, j < 2 * i → m.at j = -1) →
    lim Try.prog cfg (.loop 38 0 (wpl 0) (SE (EJ 11 G0) [(3, .int .i64 i), (1, .pointer (some ⟨1, 0, none⟩)), (0, .pointer (some ⟨0, 0, none⟩))])) (HP [X z 53 0 true, X (mtC m) 53 0 true]) = some (.code (.exit 0) (SE (EJ 11 G0) [(1, .pointer (some ⟨1, 0, none⟩)), (0, .pointer (some ⟨0, 0, none⟩))]), HP [X z 53 0 true, X (mtC wef) 53 0 true]) := by
  intro k
  induction k with
  | zero =>
    intro i m hi hm
    have : m = wef := by
      apply Subtype.ext
      apply List.ext_getElem (by rw [m.2]; rfl)
      intro j h1 h2
      have h3 := hm j (by rw [m.2] at h1; omega)
      rw [Mt.at, List.getD_eq_getElem?_getD, List.getElem?_eq_getElem h1] at h3
      have h4 : wef.1[j] = -1 := by
        have : ∀ x ∈ wef.1, x = -1 := by decide
        exact this _ (List.getElem_mem h2)
      rw [h4]
      exact h3
    subst this
    refine wab wzl ?_
    unfold wql
    (repeat' (first | (simp -implicitDefEqProofs (maxSteps := 2000000) (disch := first | with_reducible assumption | omega | (simp only [zS, zA, seval, zD] <;> omega) | fail) only [zS, argl, insA, Go.Den.wm, wo, wu, looks, wcb, wbb, idOf, riA, seval, Go.Den.wh, kK, wul, *, zT]) | (with_reducible (first | apply z1 | apply z2 | apply z3 | apply z4) <;> intro hq <;> (try simp only [zH] at hq) <;> (try (exfalso; omega)))))
  | succ k ih =>
    intro i m hi hm
    refine wab wzl ?_
    unfold wql
    (repeat' (first | (simp -implicitDefEqProofs (maxSteps := 2000000) (disch := first | with_reducible assumption | omega | (simp only [zS, zA, seval, zD] <;> omega) | fail) only [zS, argl, insA, Go.Den.wm, wo, wu, looks, wcb, wbb, idOf, riA, seval, Go.Den.wh, kK, wul, *, zT]) | (with_reducible (first | apply z1 | apply z2 | apply z3 | apply z4) <;> intro hq <;> (try simp only [zH] at hq) <;> (try (exfalso; omega)))))
    refine ih (i + 1) _ (by omega) fun j hj => ?_
    rw [wseb, wseb]
    split
    · rfl
    · split
      · rfl
      · exact hm j (by omega)
theorem whac : lim Try.prog cfg (.call 38 []) (HP []) = some (.val (.agg ⟨mtC wef⟩), HP []) := by
  refine wec hc wlw (Nat.le_of_ble_eq_true rfl) (Nat.le_of_ble_eq_true rfl) ?_
  unfold wfv
  have h := wgac (mtC Mt.zero) 4 0 Mt.zero rfl (fun j hj => by omega)
  rw [show ((0 : Nat) : Int) = 0 from rfl, show mtC Mt.zero = [.int .i64 0, .int .i64 0, .int .i64 0, .int .i64 0, .int .i64 0, .int .i64 0, .int .i64 0, .int .i64 0] from rfl] at h
  (repeat' (first | (simp -implicitDefEqProofs (maxSteps := 2000000) (disch := first | with_reducible assumption | omega | (simp only [zS, zA, seval, zD] <;> omega) | fail) only [zS, argl, insA, Go.Den.wm, wo, wu, looks, wcb, wbb, idOf, riA, seval, Go.Den.wh, kK, wul, h, *, zT]) | (with_reducible (first | apply z1 | apply z2 | apply z3 | apply z4) <;> intro hq <;> (try simp only [zH] at hq) <;> (try (exfalso; omega)))))
theorem ev_Has (s : BitVec 256) (x : Nat) (hx : x < 256) : lim Try.prog cfg (.call 52 [.agg ⟨setC s⟩, .int .u8 x]) (HP []) = some (.val (.bool (s.getLsbD x)), HP []) := by
  refine wec hc wrw (Nat.le_of_ble_eq_true rfl) (Nat.le_of_ble_eq_true rfl) ?_
  unfold wlv
  have h1 : BitVec.ofInt (IntKind.bits .u64) 1 = BitVec.ofInt (IntKind.bits .u64) (((1#64).toNat : Nat) : Int) := rfl
  (repeat' (first | (simp -implicitDefEqProofs (maxSteps := 2000000) (disch := first | with_reducible assumption | omega | (simp only [zS, zA, seval, zD] <;> omega) | fail) only [zS, argl, insA, Go.Den.wm, wo, wu, looks, wcb, wbb, idOf, riA, seval, Go.Den.wh, kK, setC_get, shr_u64, h1, and_u64, bit_one, *, zT]) | (with_reducible (first | apply z1 | apply z2 | apply z3 | apply z4) <;> intro hq <;> (try simp only [zH] at hq) <;> (try (exfalso; omega)))))
  have e1 : ((x : Int) / 64).toNat = x / 64 := by omega
  have e2 : ((x : Int) % 64).toNat = x % 64 := by omega
  rw [e1, e2, has_bit s x hx]
end
end Go.Proofs.Ytgpabbbibmnnlaa
namespace Go.Den
noncomputable section
variable {P : Program}
end
end Go.Den
namespace Go.Den
noncomputable section
end
end Go.Den
namespace Go.Den
noncomputable section
variable {P : Program}
end
end Go.Den
namespace Go.Proofs.Ytgpabbbibmnnlaa
set_option linter.unusedVariables false
set_option linter.unusedSimpArgs false
open Go.Den
noncomputable section
end
end Go.Proofs.Ytgpabbbibmnnlaa
namespace Go.Den
noncomputable section
def addF : List St → List St → List St
  | l, [] => l
  | l, x :: xs => addF (if x ∈ l then l else l ++ [x]) xs
theorem addF_nil {l : List St} : addF l [] = l := rfl
theorem wtk {l xs : List St} {x : St} : addF l (x :: xs) = addF (if x ∈ l then l else l ++ [x]) xs := rfl
theorem wxab {y : St} : ∀ (xs l : List St), y ∈ addF l xs ↔ y ∈ l ∨ y ∈ xs := by
  intro xs
  induction xs with
  | nil => intro l; simp [addF]
  | cons x xs ih =>
    intro l
    rw [wtk, ih]
    by_cases h : x ∈ l
    · rw [if_pos h]
      constructor
      · rintro (h1 | h1)
        · exact .inl h1
        · exact .inr (List.mem_cons_of_mem _ h1)
      · rintro (h1 | h1)
        · exact .inl h1
        · rcases List.mem_cons.1 h1 with rfl | h1
          · exact .inl h
          · exact .inr h1
    · rw [if_neg h]
      simp only [List.mem_append, List.mem_cons, List.not_mem_nil, or_false]
      constructor
      · rintro ((h1 | h1) | h1)
        · exact .inl h1
        · exact .inr (.inl h1)
        · exact .inr (.inr h1)
      · rintro (h1 | h1 | h1)
        · exact .inl (.inl h1)
        · exact .inl (.inr h1)
        · exact .inr h1
theorem wtqb : ∀ (xs l : List St), l.Nodup → (addF l xs).Nodup := by
  intro xs
  induction xs with
  | nil => intro l h; exact h
  | cons x xs ih =>
    intro l h
    rw [wtk]
    by_cases hx : x ∈ l
    · rw [if_pos hx]; exact ih l h
    · rw [if_neg hx]
      refine ih _ ?_
      rw [List.nodup_append]
      refine ⟨h, by simp, ?_⟩
      intro a ha b hb
      rw [List.mem_singleton] at hb
      subst hb
      intro hab
      subst hab
      exact hx ha
theorem wnlb : ∀ (xs l : List St), l.length ≤ (addF l xs).length := by
  intro xs
  induction xs with
  | nil => intro l; exact Nat.le_refl _
  | cons x xs ih =>
    intro l
    rw [wtk]
    refine Nat.le_trans ?_ (ih _)
    split
    · exact Nat.le_refl _
    · simp
theorem wfh {l xs : List St} (h : l ≠ [] ∨ xs ≠ []) : addF l xs ≠ [] := by
  intro he
  rcases h with h | h
  · obtain ⟨a, ha⟩ := List.exists_mem_of_ne_nil l h
    have := (wxab xs l).2 (.inl ha)
    rw [he] at this; cases this
  · obtain ⟨a, ha⟩ := List.exists_mem_of_ne_nil xs h
    have := (wxab xs l).2 (.inr ha)
    rw [he] at this; cases this
def keyF (mn mx n : Int) (x : St) : Int × St := (if mx < 0 then min n mn else n, x)
def onF (w : St → List St) (mn mx : Int) : Nat → Int → St → List (Int × St) × List St → List (Int × St) × List St
  | 0, _, _, a => a
  | k + 1, n, x, a =>
    if keyF mn mx n x ∈ a.1 then a
    else
      let b := if mx < 0 ∨ n < mx then (w x).foldl (fun b y => if y.1 ≠ x.1 ∨ n < mn then onF w mn mx k (n + 1) y b else b) (a.1 ++ [keyF mn mx n x], a.2) else (a.1 ++ [keyF mn mx n x], a.2)
      if n ≥ mn then (b.1, addF b.2 [x]) else b
def wuqb (s : List UInt8) (n : Int) (x : St) : List St :=
  if x.2.at (n.toNat * 2) < 0 then []
  else if x.2.at (n.toNat * 2 + 1) - x.2.at (n.toNat * 2) > s.length - x.1 then []
  else if (s.take (x.2.at (n.toNat * 2 + 1)).toNat).drop (x.2.at (n.toNat * 2)).toNat ≠ (s.take (x.1 + (x.2.at (n.toNat * 2 + 1) - x.2.at (n.toNat * 2))).toNat).drop x.1.toNat then []
  else [(x.1 + (x.2.at (n.toNat * 2 + 1) - x.2.at (n.toNat * 2)), x.2)]
def wuw (w : St → List St) (l : List St) : List St := l.foldl (fun out y => addF out (w y)) []
def groupW (n : Int) (x : St) (l : List St) : List St := l.foldl (fun out y => addF out [(y.1, (y.2.put (n.toNat * 2) x.1).put (n.toNat * 2 + 1) y.1)]) []
mutual
def wbf (s : List UInt8) (bol : Bool) : Rx → St → List St
  | .mk k mn mx n set kids, x =>
    if k = 1 then (if x.1 < s.length ∧ set.getLsbD (s.getD x.1.toNat 0).toNat = true then [(x.1 + 1, x.2)] else [])
    else if k = 7 then (if x.1 = 0 ∧ bol = true then [x] else [])
    else if k = 8 then (if x.1 = s.length then [x] else [])
    else if k = 6 then wuqb s n x
    else if k = 5 then groupW n x (kidF s bol kids x)
    else if k = 3 then altF s bol kids x []
    else if k = 2 then catF s bol kids [x]
    else if k = 4 then (onF (fun y => kidF s bol kids y) mn mx 100 0 x ([], [])).2
    else []
def kidF (s : List UInt8) (bol : Bool) : List Rx → St → List St
  | [], _ => []
  | r :: _, x => wbf s bol r x
def altF (s : List UInt8) (bol : Bool) : List Rx → St → List St → List St
  | [], _, out => out
  | r :: rs, x, out => altF s bol rs x (addF out (wbf s bol r x))
def catF (s : List UInt8) (bol : Bool) : List Rx → List St → List St
  | [], l => l
  | r :: rs, l => catF s bol rs (wuw (fun y => wbf s bol r y) l)
end
mutual
def okR : Rx → Bool
  | .mk k mn mx n _ kids =>
    (if k = 5 then decide (kids ≠ []) && (decide (1 ≤ n) && decide (n ≤ 3)) else if k = 4 then decide (kids ≠ []) && (decide (0 ≤ mn) && (decide (mn ≤ 20) && (decide (-1 ≤ mx) && decide (mx ≤ 20)))) else if k = 6 then decide (1 ≤ n) && decide (n ≤ 3) else true) && okRs kids
def okRs : List Rx → Bool
  | [] => true
  | r :: rs => okR r && okRs rs
end
def wiac (len : Nat) (a b : Int) : Prop := (a = -1 ∧ b = -1) ∨ (0 ≤ a ∧ a ≤ b ∧ b ≤ len)
structure GdS (len : Nat) (x : St) : Prop where
  lo : 0 ≤ x.1
  hi : x.1 ≤ len
  m0 : x.2.at 0 = -1
  m1 : x.2.at 1 = -1
  sp : ∀ g : Nat, 1 ≤ g → g ≤ 3 → wiac len (x.2.at (g * 2)) (x.2.at (g * 2 + 1))
theorem Mt.at_put (m : Mt) (i j : Nat) (a : Int) : (m.put i a).at j = if i = j ∧ j < 8 then a else m.at j := by
  rw [Mt.at, Mt.at, Mt.put, List.getD_eq_getElem?_getD, List.getD_eq_getElem?_getD, List.getElem?_set, m.2]
  by_cases h1 : i = j
  · subst h1
    by_cases h2 : i < 8
    · simp [h2]
    · have h3 := m.2
      simp [h2]
      rw [List.getElem?_eq_none (by omega)]
      rfl
  · simp [h1]
theorem GdS.move {len : Nat} {x : St} (h : GdS len x) {a : Int} (h1 : 0 ≤ a) (h2 : a ≤ len) : GdS len (a, x.2) := ⟨h1, h2, h.m0, h.m1, h.sp⟩
theorem GdS.group {len : Nat} {x y : St} (hx : GdS len x) (hy : GdS len y) (hxy : x.1 ≤ y.1) {n : Int} (n1 : 1 ≤ n) (n3 : n ≤ 3) : GdS len (y.1, (y.2.put (n.toNat * 2) x.1).put (n.toNat * 2 + 1) y.1) := by
  refine ⟨hy.lo, hy.hi, ?_, ?_, fun g g1 g3 => ?_⟩
  · show Mt.at _ 0 = -1
    rw [Mt.at_put, if_neg (by omega), Mt.at_put, if_neg (by omega)]; exact hy.m0
  · show Mt.at _ 1 = -1
    rw [Mt.at_put, if_neg (by omega), Mt.at_put, if_neg (by omega)]; exact hy.m1
  · show wiac len (Mt.at _ (g * 2)) (Mt.at _ (g * 2 + 1))
    rw [Mt.at_put, Mt.at_put, Mt.at_put, Mt.at_put]
    by_cases h : n.toNat = g
    · rw [if_neg (by omega), if_pos (by omega), if_pos (by omega)]
      exact .inr ⟨hx.lo, hxy, hy.hi⟩
    · rw [if_neg (by omega), if_neg (by omega), if_neg (by omega), if_neg (by omega)]
      exact hy.sp g g1 g3
structure RwS (len : Nat) (at0 : Int) (l : List St) : Prop where
  nd : l.Nodup
  good : ∀ y ∈ l, GdS len y ∧ at0 ≤ y.1
theorem RwS.nil {len : Nat} {a : Int} : RwS len a [] := ⟨List.nodup_nil, fun y h => (by cases h)⟩
theorem RwS.one {len : Nat} {a : Int} {x : St} (h : GdS len x) (ha : a ≤ x.1) : RwS len a [x] := ⟨by simp, fun y hy => by rw [List.mem_singleton] at hy; subst hy; exact ⟨h, ha⟩⟩
theorem RwS.add {len : Nat} {a : Int} {l xs : List St} (h : RwS len a l) (hx : ∀ y ∈ xs, GdS len y ∧ a ≤ y.1) : RwS len a (addF l xs) :=
  ⟨wtqb _ _ h.nd, fun y hy => by rcases (wxab _ _).1 hy with h1 | h1; exact h.good y h1; exact hx y h1⟩
theorem RwS.fold {len : Nat} {a : Int} {α : Type} (f : α → List St) : ∀ (l : List α), (∀ z ∈ l, ∀ y ∈ f z, GdS len y ∧ a ≤ y.1) → ∀ out, RwS len a out → RwS len a (l.foldl (fun out z => addF out (f z)) out) := by
  intro l
  induction l with
  | nil => intro _ out h; exact h
  | cons z l ih =>
    intro hf out h
    exact ih (fun z' hz' => hf z' (List.mem_cons_of_mem _ hz')) _ (h.add (hf z (List.mem_cons_self ..)))
theorem wteb {len : Nat} {a0 : Int} {w : St → List St} {mn mx : Int} (hw : ∀ x, GdS len x → a0 ≤ x.1 → RwS len x.1 (w x)) : ∀ (k : Nat) (n : Int) (x : St) (a : List (Int × St) × List St), GdS len x → a0 ≤ x.1 → RwS len a0 a.2 → RwS len a0 (onF w mn mx k n x a).2 := by
  intro k
  induction k with
  | zero => intro n x a _ _ h; exact h
  | succ k ih =>
    intro n x a hx hxa h
    have hf : ∀ (l : List St), (∀ y ∈ l, GdS len y ∧ x.1 ≤ y.1) → ∀ b : List (Int × St) × List St, RwS len a0 b.2 → RwS len a0 (l.foldl (fun b y => if y.1 ≠ x.1 ∨ n < mn then onF w mn mx k (n + 1) y b else b) b).2 := by
      intro l
      induction l with
      | nil => intro _ b hb; exact hb
      | cons y l ih2 =>
        intro hl b hb
        have hy := hl y (List.mem_cons_self ..)
        refine ih2 (fun z hz => hl z (List.mem_cons_of_mem _ hz)) _ ?_
        show RwS len a0 (if y.1 ≠ x.1 ∨ n < mn then onF w mn mx k (n + 1) y b else b).2
        split
        · exact ih _ _ _ hy.1 (by omega) hb
        · exact hb
    unfold onF
    split
    · exact h
    · simp only
      have hb : RwS len a0 (if mx < 0 ∨ n < mx then (w x).foldl (fun b y => if y.1 ≠ x.1 ∨ n < mn then onF w mn mx k (n + 1) y b else b) (a.1 ++ [keyF mn mx n x], a.2) else (a.1 ++ [keyF mn mx n x], a.2)).2 := by
        split
        · exact hf (w x) (hw x hx hxa).good _ h
        · exact h
      split
      · exact hb.add (fun y hy => by rw [List.mem_singleton] at hy; subst hy; exact ⟨hx, hxa⟩)
      · exact hb
theorem back_row {len : Nat} {s : List UInt8} (hs : s.length = len) {n : Int} (n1 : 1 ≤ n) (n3 : n ≤ 3) {x : St} (hx : GdS len x) : RwS len x.1 (wuqb s n x) := by
  unfold wuqb
  split
  · exact .nil
  rename_i h0
  split
  · exact .nil
  rename_i h1
  split
  · exact .nil
  have h := hx.sp n.toNat (by omega) (by omega)
  have hlo := hx.lo
  have hhi := hx.hi
  rcases h with h | h
  · omega
  · exact .one (hx.move (by omega) (by omega)) (by show x.1 ≤ x.1 + _; omega)
theorem wbt {len : Nat} {s : List UInt8} (hs : s.length = len) {bol : Bool} : ∀ (r : Rx), okR r = true → ∀ x, GdS len x → RwS len x.1 (wbf s bol r x) := by
  refine Rx.rec (motive_1 := fun r => okR r = true → ∀ x, GdS len x → RwS len x.1 (wbf s bol r x))
    (motive_2 := fun kids => okRs kids = true → (∀ r ∈ kids, ∀ x, GdS len x → RwS len x.1 (wbf s bol r x))) ?_ ?_ ?_
  · intro k mn mx n set kids ih hok x hx
    rw [okR, Bool.and_eq_true] at hok
    have hk := ih hok.2
    have kid : kids ≠ [] → ∀ y, GdS len y → RwS len y.1 (kidF s bol kids y) := by
      intro hne y hy
      cases kids with
      | nil => exact absurd rfl hne
      | cons r rs => rw [kidF]; exact hk r (List.mem_cons_self ..) y hy
    rw [wbf]
    have hlo := hx.lo
    split
    · split
      · rename_i h; exact .one (hx.move (by omega) (by omega)) (by show x.1 ≤ x.1 + 1; omega)
      · exact .nil
    split
    · split
      · exact .one hx (Int.le_refl _)
      · exact .nil
    split
    · split
      · exact .one hx (Int.le_refl _)
      · exact .nil
    split
    · rename_i h6
      have h := hok.1
      rw [if_neg (by omega), if_neg (by omega), if_pos h6] at h
      simp only [Bool.and_eq_true, decide_eq_true_eq] at h
      exact back_row hs h.1 h.2 hx
    split
    · rename_i h5
      have h := hok.1
      rw [if_pos h5] at h
      simp only [Bool.and_eq_true, decide_eq_true_eq] at h
      refine RwS.fold (fun y : St => [(y.1, (y.2.put (n.toNat * 2) x.1).put (n.toNat * 2 + 1) y.1)]) _ (fun z hz y hy => ?_) _ .nil
      rw [List.mem_singleton] at hy
      subst hy
      have hz := (kid h.1 x hx).good z hz
      exact ⟨hx.group hz.1 hz.2 h.2.1 h.2.2, hz.2⟩
    split
    · have alt : ∀ (l : List Rx), (∀ r ∈ l, ∀ x, GdS len x → RwS len x.1 (wbf s bol r x)) → ∀ out, RwS len x.1 out → RwS len x.1 (altF s bol l x out) := by
        intro l
        induction l with
        | nil => intro _ out h; rw [altF]; exact h
        | cons r l ih =>
          intro hl out h
          rw [altF]
          exact ih (fun r hr => hl r (List.mem_cons_of_mem _ hr)) _ (h.add (hl r (List.mem_cons_self ..) x hx).good)
      exact alt kids hk [] .nil
    split
    · have cat : ∀ (l : List Rx), (∀ r ∈ l, ∀ x, GdS len x → RwS len x.1 (wbf s bol r x)) → ∀ out, RwS len x.1 out → RwS len x.1 (catF s bol l out) := by
        intro l
        induction l with
        | nil => intro _ out h; rw [catF]; exact h
        | cons r l ih =>
          intro hl out h
          rw [catF]
          refine ih (fun r hr => hl r (List.mem_cons_of_mem _ hr)) _ ?_
          refine RwS.fold (fun y => wbf s bol r y) _ (fun z hz y hy => ?_) _ .nil
          have h1 := h.good z hz
          have h2 := (hl r (List.mem_cons_self ..) z h1.1).good y hy
          exact ⟨h2.1, by omega⟩
      exact cat kids hk [x] (.one hx (Int.le_refl _))
    split
    · rename_i h4
      have h := hok.1
      rw [if_neg (by omega), if_pos h4] at h
      simp only [Bool.and_eq_true, decide_eq_true_eq] at h
      exact wteb (a0 := x.1) (fun y hy _ => kid h.1 y hy) 100 0 x _ hx (Int.le_refl _) .nil
    · exact .nil
  · intro _ r hr; cases hr
  · intro r rs ih1 ih2 hok
    rw [okRs, Bool.and_eq_true] at hok
    intro r' hr'
    rcases List.mem_cons.1 hr' with rfl | h
    · exact ih1 hok.1
    · exact ih2 hok.2 r' h
theorem nodup_le {α : Type} [DecidableEq α] : ∀ (l L : List α), l.Nodup → (∀ x ∈ l, x ∈ L) → l.length ≤ L.length := by
  intro l
  induction l with
  | nil => intro L _ _; exact Nat.zero_le _
  | cons a l ih =>
    intro L hn hs
    rw [List.nodup_cons] at hn
    have ha := hs a (List.mem_cons_self ..)
    have h1 := ih (L.erase a) hn.2 (fun x hx => by
      refine (List.mem_erase_of_ne ?_).2 (hs x (List.mem_cons_of_mem _ hx))
      intro h
      subst h
      exact hn.1 hx)
    rw [List.length_erase_of_mem ha] at h1
    have := List.length_pos_of_mem ha
    rw [List.length_cons]
    omega
theorem wyab {α β : Type} {f : α → List β} {k : Nat} (h : ∀ a, (f a).length = k) (l : List α) : (l.flatMap f).length = l.length * k := by
  induction l with
  | nil => simp
  | cons a l ih => rw [List.flatMap_cons, List.length_append, h, ih, List.length_cons, Nat.add_mul]; omega
def wwh (len : Nat) : List (Int × Int) := (-1, -1) :: (List.range (len + 1)).flatMap fun (a : Nat) => (List.range (len + 1 - a)).map fun (d : Nat) => ((a : Int), ((a + d : Nat) : Int))
def allSt (len : Nat) : List St := (List.range (len + 1)).flatMap fun (a : Nat) => (wwh len).flatMap fun p => (wwh len).flatMap fun q => (wwh len).map fun r => ((a : Int), ⟨[-1, -1, p.1, p.2, q.1, q.2, r.1, r.2], rfl⟩)
theorem wsv {len : Nat} {a b : Int} (h : wiac len a b) : (a, b) ∈ wwh len := by
  unfold wwh
  rcases h with ⟨rfl, rfl⟩ | ⟨h1, h2, h3⟩
  · exact List.mem_cons_self ..
  · refine List.mem_cons_of_mem _ (List.mem_flatMap.2 ⟨a.toNat, List.mem_range.2 (by omega), List.mem_map.2 ⟨(b - a).toNat, List.mem_range.2 (by omega), ?_⟩⟩)
    rw [Prod.mk.injEq]
    exact ⟨by omega, by omega⟩
theorem all_mem {len : Nat} {x : St} (h : GdS len x) : x ∈ allSt len := by
  obtain ⟨a, ⟨l, hl⟩⟩ := x
  match l, hl with
  | [c0, c1, c2, c3, c4, c5, c6, c7], hl =>
    obtain ⟨h1, h2, h3, h4, h5⟩ := h
    have e0 : c0 = -1 := h3
    have e1 : c1 = -1 := h4
    subst e0 e1
    have s1 := wsv (h5 1 (by omega) (by omega))
    have s2 := wsv (h5 2 (by omega) (by omega))
    have s3 := wsv (h5 3 (by omega) (by omega))
    have h1 : 0 ≤ a := h1
    have h2 : a ≤ len := h2
    refine List.mem_flatMap.2 ⟨a.toNat, List.mem_range.2 (by omega), List.mem_flatMap.2 ⟨_, s1, List.mem_flatMap.2 ⟨_, s2, List.mem_map.2 ⟨_, s3, ?_⟩⟩⟩⟩
    rw [Prod.mk.injEq]
    exact ⟨by omega, rfl⟩
theorem wjac : ∀ len : Nat, len ≤ 12 → (wwh len).length ≤ 92 := by
  intro len h
  match len, h with
  | 0, _ => decide
  | 1, _ => decide
  | 2, _ => decide
  | 3, _ => decide
  | 4, _ => decide
  | 5, _ => decide
  | 6, _ => decide
  | 7, _ => decide
  | 8, _ => decide
  | 9, _ => decide
  | 10, _ => decide
  | 11, _ => decide
  | 12, _ => decide
theorem row_len {len : Nat} {a : Int} {l : List St} (h : RwS len a l) (hl : len ≤ 12) : l.length ≤ 11000000 := by
  have h1 := nodup_le l (allSt len) h.nd (fun x hx => all_mem (h.good x hx).1)
  have h2 : (allSt len).length = (len + 1) * ((wwh len).length * ((wwh len).length * (wwh len).length)) := by
    unfold allSt
    rw [wyab (k := (wwh len).length * ((wwh len).length * (wwh len).length)), List.length_range]
    intro a
    rw [wyab (k := (wwh len).length * (wwh len).length)]
    intro p
    rw [wyab (k := (wwh len).length)]
    intro q
    rw [List.length_map]
  have h3 := wjac len hl
  have h4 : (len + 1) * ((wwh len).length * ((wwh len).length * (wwh len).length)) ≤ 13 * (92 * (92 * 92)) :=
    Nat.mul_le_mul (by omega) (Nat.mul_le_mul h3 (Nat.mul_le_mul h3 h3))
  omega
end
end Go.Den
namespace Go.Proofs.Ytgpabbbibmnnlaa
set_option linter.unusedVariables false
set_option linter.unusedSimpArgs false
open Go.Den
noncomputable section
theorem wvw : KeyT Try.prog 87 stC :=
  ⟨by kernel_rfl, ⟨[.int .i64, .int .i64, .int .i64, .int .i64, .int .i64, .int .i64, .int .i64, .int .i64, .int .i64], by kernel_rfl, fun _ => wejb⟩, fun _ _ => st_eqL, fun _ => wnzb⟩
theorem wfb (l : List St) : beqP (setK stC l) (setK stC l) = true := waac (fun _ => st_bq) l
theorem woi : lim Try.prog cfg (.call 102 []) (HP []) = some (.val (.pointer (some ⟨0, 0, none⟩)), HP [X [.slice none 0 0, .map (some 1)] 178 0 false, .map []]) := by
  refine wec hc wls (Nat.le_of_ble_eq_true rfl) (Nat.le_of_ble_eq_true rfl) ?_
  unfold wtq
  (repeat' (first | (simp -implicitDefEqProofs (maxSteps := 2000000) (disch := first | with_reducible assumption | omega | (simp only [zS, zA, seval, zD] <;> omega) | fail) only [zS, argl, insA, Go.Den.wm, wo, wu, looks, wcb, wbb, idOf, riA, seval, Go.Den.wh, kK, *, zT]) | (with_reducible (first | apply z1 | apply z2 | apply z3 | apply z4) <;> intro hq <;> (try simp only [zH] at hq) <;> (try (exfalso; omega)))))
abbrev rowB (l : List St) : List ABlk := [X [FO 2 l.length (stsC l), .map (some 1)] 178 0 false, .map (setK stC l), .tok l.length 87 9]
abbrev rowC (l : List St) : List ABlk := [X [FO 1 l.length (stsC l), .map (some 2)] 178 0 false, .tok l.length 87 9, .map (setK stC l)]
abbrev rowN : List ABlk := [X [.slice none 0 0, .map (some 1)] 178 0 false, .map []]
theorem wfg (xs : List St) {i : Nat} (h : i < xs.length) : xs.drop i = xs.getD i St.zero :: xs.drop (i + 1) := by
  rw [List.drop_eq_getElem_cons h, List.getD_eq_getElem?_getD, List.getElem?_eq_getElem h]; rfl
theorem wkac (xs : List St) (hx : xs.length ≤ 16000000) : ∀ (k i : Nat) (l : List St), i + k = xs.length → l ≠ [] → (addF l (xs.drop i)).length ≤ 16000000 →
    lim Try.prog cfg (.loop 103 3 (wwe 0) (SE (EJ 35 G0) [(8, .int .i64 i), (7, .int .i64 xs.length), (6, FL xs.length (stsC xs)), (0, .pointer (some ⟨0, 0, none⟩))])) (HP (rowC l)) = some (.code (.exit 0) (SE (EJ 35 G0) []), HP (rowC (addF l (xs.drop i)))) := by
  intro k
  induction k with
  | zero =>
    intro i l hi hl hn
    rw [List.drop_of_length_le (by omega)]
    refine wab wod ?_
    unfold wvd
    (repeat' (first | (simp -implicitDefEqProofs (maxSteps := 2000000) (disch := first | with_reducible assumption | omega | (simp only [zS, zA, seval, wy, zD] <;> omega) | fail) only [zS, argl, insA, Go.Den.wm, wo, wu, looks, wcb, wbb, idOf, riA, seval, Go.Den.wh, kK, wnc, wy, *, zT]) | (with_reducible (first | apply z1 | apply z2 | apply z3 | apply z4) <;> intro hq <;> (try simp only [zH] at hq) <;> (try (exfalso; omega))) | (with_reducible apply z5; (case hl => (repeat (first | exact .nil | with_reducible apply z6 | with_reducible apply z7))); (case h => kernel_rfl))))
    all_goals rfl
  | succ k ih =>
    intro i l hi hl hn
    rw [wfg xs (by omega), addF] at hn ⊢
    refine wab wod ?_
    unfold wvd
    have hn2 := Nat.le_trans (wnlb _ _) hn
    by_cases hm : xs.getD i St.zero ∈ l
    · rw [if_pos hm] at hn hn2 ⊢
      (repeat' (first | (simp -implicitDefEqProofs (maxSteps := 2000000) (disch := first | with_reducible assumption | omega | (simp only [zS, zA, seval, wy, zD] <;> omega) | fail) only [zS, argl, insA, Go.Den.wm, wo, wu, looks, wcb, wbb, idOf, riA, seval, Go.Den.wh, kK, wnc, wy, wgd wvw, wxe wvw, *, zT]) | (with_reducible (first | apply z1 | apply z2 | apply z3 | apply z4) <;> intro hq <;> (try simp only [zH] at hq) <;> (try (exfalso; omega))) | (with_reducible apply z5; (case hl => (repeat (first | exact .nil | with_reducible apply z6 | with_reducible apply z7))); (case h => kernel_rfl))))
      exact ih (i + 1) l (by omega) hl hn
    · rw [if_neg hm] at hn hn2 ⊢
      have hn3 : l.length + 1 ≤ 16000000 := by rw [List.length_append] at hn2; exact hn2
      (repeat' (first | (simp -implicitDefEqProofs (maxSteps := 2000000) (disch := first | with_reducible assumption | omega | (simp only [zS, zA, seval, wy, zD] <;> omega) | fail) only [zS, argl, insA, Go.Den.wm, wo, wu, looks, wcb, wbb, idOf, riA, seval, Go.Den.wh, kK, wnc, wy, wgd wvw, wxe wvw, *, zT]) | (with_reducible (first | apply z1 | apply z2 | apply z3 | apply z4) <;> intro hq <;> (try simp only [zH] at hq) <;> (try (exfalso; omega))) | (with_reducible apply z5; (case hl => (repeat (first | exact .nil | with_reducible apply z6 | with_reducible apply z7))); (case h => kernel_rfl))))
      have h := ih (i + 1) (l ++ [xs.getD i St.zero]) (by omega) (by simp) hn
      unfold rowC at h
      rw [show (l ++ [xs.getD i St.zero]).length = l.length + 1 by simp, wklb] at h
      exact h
theorem wlac (xs : List St) (hx : xs.length ≤ 16000000) : ∀ (k i : Nat) (l : List St), i + k = xs.length → l ≠ [] → (addF l (xs.drop i)).length ≤ 16000000 →
    lim Try.prog cfg (.loop 103 2 (wwe 0) (SE (EJ 35 G0) [(8, .int .i64 i), (7, .int .i64 xs.length), (6, FL xs.length (stsC xs)), (0, .pointer (some ⟨0, 0, none⟩))])) (HP (rowB l)) = some (.code (.exit 0) (SE (EJ 35 G0) []), HP (rowB (addF l (xs.drop i)))) := by
  intro k
  induction k with
  | zero =>
    intro i l hi hl hn
    rw [List.drop_of_length_le (by omega)]
    refine wab wod ?_
    unfold wvd
    (repeat' (first | (simp -implicitDefEqProofs (maxSteps := 2000000) (disch := first | with_reducible assumption | omega | (simp only [zS, zA, seval, wy, zD] <;> omega) | fail) only [zS, argl, insA, Go.Den.wm, wo, wu, looks, wcb, wbb, idOf, riA, seval, Go.Den.wh, kK, wnc, wy, *, zT]) | (with_reducible (first | apply z1 | apply z2 | apply z3 | apply z4) <;> intro hq <;> (try simp only [zH] at hq) <;> (try (exfalso; omega))) | (with_reducible apply z5; (case hl => (repeat (first | exact .nil | with_reducible apply z6 | with_reducible apply z7))); (case h => kernel_rfl))))
    all_goals rfl
  | succ k ih =>
    intro i l hi hl hn
    rw [wfg xs (by omega), addF] at hn ⊢
    refine wab wod ?_
    unfold wvd
    have hn2 := Nat.le_trans (wnlb _ _) hn
    by_cases hm : xs.getD i St.zero ∈ l
    · rw [if_pos hm] at hn hn2 ⊢
      (repeat' (first | (simp -implicitDefEqProofs (maxSteps := 2000000) (disch := first | with_reducible assumption | omega | (simp only [zS, zA, seval, wy, zD] <;> omega) | fail) only [zS, argl, insA, Go.Den.wm, wo, wu, looks, wcb, wbb, idOf, riA, seval, Go.Den.wh, kK, wnc, wy, wgd wvw, wxe wvw, *, zT]) | (with_reducible (first | apply z1 | apply z2 | apply z3 | apply z4) <;> intro hq <;> (try simp only [zH] at hq) <;> (try (exfalso; omega))) | (with_reducible apply z5; (case hl => (repeat (first | exact .nil | with_reducible apply z6 | with_reducible apply z7))); (case h => kernel_rfl))))
      exact ih (i + 1) l (by omega) hl hn
    · rw [if_neg hm] at hn hn2 ⊢
      have hn3 : l.length + 1 ≤ 16000000 := by rw [List.length_append] at hn2; exact hn2
      (repeat' (first | (simp -implicitDefEqProofs (maxSteps := 2000000) (disch := first | with_reducible assumption | omega | (simp only [zS, zA, seval, wy, zD] <;> omega) | fail) only [zS, argl, insA, Go.Den.wm, wo, wu, looks, wcb, wbb, idOf, riA, seval, Go.Den.wh, kK, wnc, wy, wgd wvw, wxe wvw, *, zT]) | (with_reducible (first | apply z1 | apply z2 | apply z3 | apply z4) <;> intro hq <;> (try simp only [zH] at hq) <;> (try (exfalso; omega))) | (with_reducible apply z5; (case hl => (repeat (first | exact .nil | with_reducible apply z6 | with_reducible apply z7))); (case h => kernel_rfl))))
      have h := ih (i + 1) (l ++ [xs.getD i St.zero]) (by omega) (by simp) hn
      unfold rowB at h
      rw [show (l ++ [xs.getD i St.zero]).length = l.length + 1 by simp, wklb] at h
      exact h
theorem wmac (xs : List St) (hx : xs.length ≤ 16000000) (h0 : xs ≠ []) (hn : (addF [] xs).length ≤ 16000000) :
    lim Try.prog cfg (.loop 103 2 (wwe 0) (SE (EJ 35 G0) [(8, .int .i64 0), (7, .int .i64 xs.length), (6, FL xs.length (stsC xs)), (0, .pointer (some ⟨0, 0, none⟩))])) (HP rowN) = some (.code (.exit 0) (SE (EJ 35 G0) []), HP (rowB (addF [] xs))) := by
  have hl : 0 < xs.length := List.length_pos_iff.2 h0
  have e : addF [] xs = addF [xs.getD 0 St.zero] (xs.drop 1) := by
    have h1 := wfg xs hl
    rw [List.drop_zero] at h1
    conv => lhs; rw [h1]
    rw [wtk, if_neg (by simp)]
    rfl
  rw [e] at hn ⊢
  refine wab wod ?_
  unfold wvd
  have hg := wsab (l := xs) (i := 0) hl
  rw [Nat.zero_mul] at hg
  have hm : xs.getD 0 St.zero ∉ ([] : List St) := by simp
  (repeat' (first | (simp -implicitDefEqProofs (maxSteps := 2000000) (disch := first | with_reducible assumption | omega | (simp only [zS, zA, seval, wy, zD] <;> omega) | fail) only [zS, argl, insA, Go.Den.wm, wo, wu, looks, wcb, wbb, idOf, riA, seval, Go.Den.wh, kK, wnc, wy, wwab (enc := stC), wgd wvw, wxe wvw, *, zT]) | (with_reducible (first | apply z1 | apply z2 | apply z3 | apply z4) <;> intro hq <;> (try simp only [zH] at hq) <;> (try (exfalso; omega))) | (with_reducible apply z5; (case hl => (repeat (first | exact .nil | with_reducible apply z6 | with_reducible apply z7))); (case h => kernel_rfl))))
  have h := wlac xs hx (xs.length - 1) 1 [xs.getD 0 St.zero] (by omega) (by simp) hn
  unfold rowB at h
  rw [show [xs.getD 0 St.zero].length = 1 from rfl, ← sts_one] at h
  exact h
theorem wdo (l xs : List St) (hl : l ≠ []) (hx : xs.length ≤ 16000000) (hn : (addF l xs).length ≤ 16000000) : lim Try.prog cfg (.call 103 [.pointer (some ⟨0, 0, none⟩), FL xs.length (stsC xs)]) (HP (rowC l)) = some (.val (.tuple ⟨[]⟩), HP (rowC (addF l xs))) := by
  refine wec hc wci (Nat.le_of_ble_eq_true rfl) (Nat.le_of_ble_eq_true rfl) ?_
  unfold whi
  have h := wkac xs hx xs.length 0 l (by omega) hl hn
  rw [List.drop_zero, show ((0 : Nat) : Int) = 0 from rfl] at h
  (repeat' (first | (simp -implicitDefEqProofs (maxSteps := 2000000) (disch := first | with_reducible assumption | omega | (simp only [zS, zA, seval, wy, zD] <;> omega) | fail) only [zS, argl, insA, Go.Den.wm, wo, wu, looks, wcb, wbb, idOf, riA, seval, Go.Den.wh, kK, wnc, wy, *, zT]) | (with_reducible (first | apply z1 | apply z2 | apply z3 | apply z4) <;> intro hq <;> (try simp only [zH] at hq) <;> (try (exfalso; omega)))))
theorem wvq (xs : List St) (h0 : xs ≠ []) (hx : xs.length ≤ 16000000) (hn : (addF [] xs).length ≤ 16000000) : lim Try.prog cfg (.call 103 [.pointer (some ⟨0, 0, none⟩), FL xs.length (stsC xs)]) (HP rowN) = some (.val (.tuple ⟨[]⟩), HP (rowB (addF [] xs))) := by
  refine wec hc wci (Nat.le_of_ble_eq_true rfl) (Nat.le_of_ble_eq_true rfl) ?_
  unfold whi
  have h := wmac xs hx h0 hn
  (repeat' (first | (simp -implicitDefEqProofs (maxSteps := 2000000) (disch := first | with_reducible assumption | omega | (simp only [zS, zA, seval, wy, zD] <;> omega) | fail) only [zS, argl, insA, Go.Den.wm, wo, wu, looks, wcb, wbb, idOf, riA, seval, Go.Den.wh, kK, wnc, wy, *, zT]) | (with_reducible (first | apply z1 | apply z2 | apply z3 | apply z4) <;> intro hq <;> (try simp only [zH] at hq) <;> (try (exfalso; omega)))))
theorem wolb : lim Try.prog cfg (.call 103 [.pointer (some ⟨0, 0, none⟩), FL 0 []]) (HP rowN) = some (.val (.tuple ⟨[]⟩), HP rowN) := by
  refine wec hc wci (Nat.le_of_ble_eq_true rfl) (Nat.le_of_ble_eq_true rfl) ?_
  unfold whi
  have h : lim Try.prog cfg (.loop 103 2 (wwe 0) (SE (EJ 35 G0) [(8, .int .i64 0), (7, .int .i64 0), (6, FL 0 []), (0, .pointer (some ⟨0, 0, none⟩))])) (HP rowN) = some (.code (.exit 0) (SE (EJ 35 G0) []), HP rowN) := by
    refine wab wod ?_
    unfold wvd
    (repeat' (first | (simp -implicitDefEqProofs (maxSteps := 2000000) (disch := first | with_reducible assumption | omega | (simp only [zS, zA, seval, zD] <;> omega) | fail) only [zS, argl, insA, Go.Den.wm, wo, wu, looks, wcb, wbb, idOf, riA, seval, Go.Den.wh, kK, wnc, *, zT]) | (with_reducible (first | apply z1 | apply z2 | apply z3 | apply z4) <;> intro hq <;> (try simp only [zH] at hq) <;> (try (exfalso; omega))) | (with_reducible apply z5; (case hl => (repeat (first | exact .nil | with_reducible apply z6 | with_reducible apply z7))); (case h => kernel_rfl))))
  (repeat' (first | (simp -implicitDefEqProofs (maxSteps := 2000000) (disch := first | with_reducible assumption | omega | (simp only [zS, zA, seval, zD] <;> omega) | fail) only [zS, argl, insA, Go.Den.wm, wo, wu, looks, wcb, wbb, idOf, riA, seval, Go.Den.wh, kK, wnc, Int.natCast_zero, *, zT]) | (with_reducible (first | apply z1 | apply z2 | apply z3 | apply z4) <;> intro hq <;> (try simp only [zH] at hq) <;> (try (exfalso; omega))) | (with_reducible apply z5; (case hl => (repeat (first | exact .nil | with_reducible apply z6 | with_reducible apply z7))); (case h => kernel_rfl))))
end
end Go.Proofs.Ytgpabbbibmnnlaa
namespace Go.Proofs.Ytgpabbbibmnnlaa
set_option linter.unusedVariables false
set_option linter.unusedSimpArgs false
open Go.Den
noncomputable section
theorem ev_back (s : List UInt8) (hs : s.length ≤ 1000) (bol : Bool) (n : Int) (n1 : 1 ≤ n) (n3 : n ≤ 3) (x : St) (hx : GdS s.length x) :
    lim Try.prog cfg (.call 101 [.agg ⟨[str s, .bool bol]⟩, .int .i64 n, .agg ⟨stC x⟩]) (HP []) = some (.val (FL (wuqb s n x).length (stsC (wuqb s n x))), HP []) := by
  refine wec hc wgp (Nat.le_of_ble_eq_true rfl) (Nat.le_of_ble_eq_true rfl) ?_
  unfold wbm
  have h := hx.sp n.toNat (by omega) (by omega)
  have hlo := hx.lo
  have hhi := hx.hi
  unfold wuqb
  obtain ⟨f, hf⟩ : ∃ f, x.2.at (n.toNat * 2) = f := ⟨_, rfl⟩
  obtain ⟨t, ht⟩ : ∃ t, x.2.at (n.toNat * 2 + 1) = t := ⟨_, rfl⟩
  rw [hf, ht] at h ⊢
  rcases h with ⟨rfl, rfl⟩ | ⟨h1, h2, h3⟩
  · (repeat' (first | (simp -implicitDefEqProofs (maxSteps := 2000000) (disch := first | with_reducible assumption | omega | (simp only [zS, zA, seval, zD] <;> omega) | fail) only [zS, argl, insA, Go.Den.wm, wo, wu, looks, wcb, wbb, idOf, riA, seval, Go.Den.wh, kK, *, zT]) | (with_reducible (first | apply z1 | apply z2 | apply z3 | apply z4) <;> intro hq <;> (try simp only [zH] at hq) <;> (try (exfalso; omega))) | (with_reducible apply z5; (case hl => (repeat (first | exact .nil | with_reducible apply z6 | with_reducible apply z7))); (case h => kernel_rfl))))
  · have h0 : ¬ f < 0 := by omega
    (repeat' (first | (simp -implicitDefEqProofs (maxSteps := 2000000) (disch := first | with_reducible assumption | omega | (simp only [zS, zA, seval, zD] <;> omega) | fail) only [zS, argl, insA, Go.Den.wm, wo, wu, looks, wcb, wbb, idOf, riA, seval, Go.Den.wh, kK, *, zT]) | (with_reducible (first | apply z1 | apply z2 | apply z3 | apply z4) <;> intro hq <;> (try simp only [zH] at hq) <;> (try (exfalso; omega))) | (with_reducible apply z5; (case hl => (repeat (first | exact .nil | with_reducible apply z6 | with_reducible apply z7))); (case h => kernel_rfl))))
    all_goals simp_all [wqf, wtab]
def wwq (w : St → List St) (l : List St) (out : List St) : List St := l.foldl (fun out y => addF out (w y)) out
theorem wrr (w : St → List St) (y : St) (l out : List St) : wwq w (y :: l) out = wwq w l (addF out (w y)) := rfl
abbrev frC (s : List UInt8) (bol : Bool) (r : Rx) (l : List St) : List ABlk := [X [str s, .bool bol] 138 0 true, X (rxC r) 47 0 true, X [FO 3 l.length (stsC l), .map (some 4)] 178 0 false, .tok l.length 87 9, .map (setK stC l)]
abbrev frN (s : List UInt8) (bol : Bool) (r : Rx) : List ABlk := [X [str s, .bool bol] 138 0 true, X (rxC r) 47 0 true, X [.slice none 0 0, .map (some 3)] 178 0 false, .map []]
theorem wplb (w : St → List St) : ∀ (l out : List St), out ≠ [] → wwq w l out ≠ [] := by
  intro l
  induction l with
  | nil => intro out h; exact h
  | cons y l ih => intro out h; exact ih _ (wfh (.inl h))
def rowO (l : List St) : List ABlk := if l = [] then rowN else rowC l
theorem wvqb (s : List UInt8) (hs : s.length ≤ 12) (bol : Bool) (r : Rx) (w : St → List St) (a : Int) (l : List St) (hll : l.length ≤ 16000000) (hl : ∀ y ∈ l, GdS s.length y ∧ a ≤ y.1) (hw : ∀ y, GdS s.length y → RwS s.length y.1 (w y) ∧ lim Try.prog cfg (.call 75 [.agg ⟨[str s, .bool bol]⟩, .agg ⟨rxC r⟩, .agg ⟨stC y⟩]) (HP []) = some (.val (FL (w y).length (stsC (w y))), HP [])) :
    ∀ (k i : Nat) (out : List St), i + k = l.length → out ≠ [] → RwS s.length a out →
    lim Try.prog cfg (.loop 104 0 (wpf 0) (SE (EJ 28 G0) [(13, .int .i64 i), (12, .int .i64 l.length), (11, FL l.length (stsC l)), (7, .pointer (some ⟨2, 0, none⟩)), (4, .pointer (some ⟨1, 0, none⟩)), (3, .pointer (some ⟨0, 0, none⟩))])) (HP (frC s bol r out)) = some (.code (.exit 0) (SE (EJ 28 G0) [(7, .pointer (some ⟨0, 0, none⟩))]), HP (rowC (wwq w (l.drop i) out))) := by
  intro k
  induction k with
  | zero =>
    intro i out hi ho hr
    rw [List.drop_of_length_le (by omega)]
    refine wab wse ?_
    unfold wre
    (repeat' (first | (simp -implicitDefEqProofs (maxSteps := 2000000) (disch := first | with_reducible assumption | omega | (simp only [zS, zA, seval, wy, zD] <;> omega) | fail) only [zS, argl, insA, Go.Den.wm, wo, wu, looks, wcb, wbb, idOf, riA, seval, Go.Den.wh, kK, wkd, wy, *, zT]) | (with_reducible (first | apply z1 | apply z2 | apply z3 | apply z4) <;> intro hq <;> (try simp only [zH] at hq) <;> (try (exfalso; omega)))))
    all_goals rfl
  | succ k ih =>
    intro i out hi ho hr
    rw [wfg l (by omega), wrr]
    have hy := hl (l.getD i St.zero) (by rw [List.getD_eq_getElem?_getD, List.getElem?_eq_getElem (by omega)]; exact List.getElem_mem _)
    have ⟨h1, h2⟩ := hw _ hy.1
    have h3 : RwS s.length a (addF out (w (l.getD i St.zero))) := hr.add (fun z hz => ⟨(h1.good z hz).1, by have := (h1.good z hz).2; omega⟩)
    have h4 := row_len h1 hs
    have h5 := row_len h3 hs
    have h6 := wdo out (w (l.getD i St.zero)) ho (by omega) (by omega)
    refine wab wse ?_
    unfold wre
    (repeat' (first | (simp -implicitDefEqProofs (maxSteps := 2000000) (disch := first | with_reducible assumption | omega | (simp only [zS, zA, seval, wy, zD] <;> omega) | fail) only [zS, argl, insA, Go.Den.wm, wo, wu, looks, wcb, wbb, idOf, riA, seval, Go.Den.wh, kK, wkd, wy, wfb, *, zT]) | (with_reducible (first | apply z1 | apply z2 | apply z3 | apply z4) <;> intro hq <;> (try simp only [zH] at hq) <;> (try (exfalso; omega)))))
    exact ih (i + 1) _ (by omega) (wfh (.inl ho)) h3
theorem wwqb (s : List UInt8) (hs : s.length ≤ 12) (bol : Bool) (r : Rx) (w : St → List St) (a : Int) (l : List St) (hll : l.length ≤ 16000000) (hl : ∀ y ∈ l, GdS s.length y ∧ a ≤ y.1) (hw : ∀ y, GdS s.length y → RwS s.length y.1 (w y) ∧ lim Try.prog cfg (.call 75 [.agg ⟨[str s, .bool bol]⟩, .agg ⟨rxC r⟩, .agg ⟨stC y⟩]) (HP []) = some (.val (FL (w y).length (stsC (w y))), HP [])) :
    ∀ (k i : Nat), i + k = l.length →
    lim Try.prog cfg (.loop 104 0 (wpf 0) (SE (EJ 28 G0) [(13, .int .i64 i), (12, .int .i64 l.length), (11, FL l.length (stsC l)), (7, .pointer (some ⟨2, 0, none⟩)), (4, .pointer (some ⟨1, 0, none⟩)), (3, .pointer (some ⟨0, 0, none⟩))])) (HP (frN s bol r)) = some (.code (.exit 0) (SE (EJ 28 G0) [(7, .pointer (some ⟨0, 0, none⟩))]), HP (rowO (wwq w (l.drop i) []))) := by
  intro k
  induction k with
  | zero =>
    intro i hi
    rw [List.drop_of_length_le (by omega)]
    refine wab wse ?_
    unfold wre
    (repeat' (first | (simp -implicitDefEqProofs (maxSteps := 2000000) (disch := first | with_reducible assumption | omega | (simp only [zS, zA, seval, wy, zD] <;> omega) | fail) only [zS, argl, insA, Go.Den.wm, wo, wu, looks, wcb, wbb, idOf, riA, seval, Go.Den.wh, kK, wkd, wy, *, zT]) | (with_reducible (first | apply z1 | apply z2 | apply z3 | apply z4) <;> intro hq <;> (try simp only [zH] at hq) <;> (try (exfalso; omega)))))
    all_goals rfl
  | succ k ih =>
    intro i hi
    have hd := wfg l (show i < l.length by omega)
    rw [hd, wrr]
    have hy := hl (l.getD i St.zero) (by rw [List.getD_eq_getElem?_getD, List.getElem?_eq_getElem (by omega)]; exact List.getElem_mem _)
    have ⟨h1, h2⟩ := hw _ hy.1
    have h3 : RwS s.length a (addF [] (w (l.getD i St.zero))) := RwS.nil.add (fun z hz => ⟨(h1.good z hz).1, by have := (h1.good z hz).2; omega⟩)
    have h4 := row_len h1 hs
    have h5 := row_len h3 hs
    have h7 := ih (i + 1) (by omega)
    refine wab wse ?_
    unfold wre
    by_cases hz : w (l.getD i St.zero) = []
    · rw [hz] at h2 ⊢
      clear h1 h3 h4 h5
      rw [List.length_nil, wtab] at h2
      (repeat' (first | (simp -implicitDefEqProofs (maxSteps := 2000000) (disch := first | with_reducible assumption | omega | (simp only [zS, zA, seval, wy, zD] <;> omega) | fail) only [zS, argl, insA, Go.Den.wm, wo, wu, looks, wcb, wbb, idOf, riA, seval, Go.Den.wh, kK, wkd, wy, wfb, wolb, *, zT]) | (with_reducible (first | apply z1 | apply z2 | apply z3 | apply z4) <;> intro hq <;> (try simp only [zH] at hq) <;> (try (exfalso; omega)))))
      exact h7
    · have h6 := wvq (w (l.getD i St.zero)) hz (by omega) (by omega)
      have h8 := wvqb s hs bol r w a l hll hl hw k (i + 1) (addF [] (w (l.getD i St.zero))) (by omega) (wfh (.inr hz)) h3
      rw [rowO, if_neg (wplb w _ _ (wfh (.inr hz)))]
      clear h7
      (repeat' (first | (simp -implicitDefEqProofs (maxSteps := 2000000) (disch := first | with_reducible assumption | omega | (simp only [zS, zA, seval, wy, zD] <;> omega) | fail) only [zS, argl, insA, Go.Den.wm, wo, wu, looks, wcb, wbb, idOf, riA, seval, Go.Den.wh, kK, wkd, wy, wfb, *, zT]) | (with_reducible (first | apply z1 | apply z2 | apply z3 | apply z4) <;> intro hq <;> (try simp only [zH] at hq) <;> (try (exfalso; omega)))))
      exact h8
theorem wnac (s : List UInt8) (hs : s.length ≤ 12) (bol : Bool) (r : Rx) (w : St → List St) (a : Int) (l : List St) (hll : l.length ≤ 16000000) (hl : ∀ y ∈ l, GdS s.length y ∧ a ≤ y.1) (hw : ∀ y, GdS s.length y → RwS s.length y.1 (w y) ∧ lim Try.prog cfg (.call 75 [.agg ⟨[str s, .bool bol]⟩, .agg ⟨rxC r⟩, .agg ⟨stC y⟩]) (HP []) = some (.val (FL (w y).length (stsC (w y))), HP [])) :
    lim Try.prog cfg (.call 104 [.agg ⟨[str s, .bool bol]⟩, .agg ⟨rxC r⟩, FL l.length (stsC l)]) (HP []) = some (.val (FL (wuw w l).length (stsC (wuw w l))), HP []) := by
  refine wec hc whp (Nat.le_of_ble_eq_true rfl) (Nat.le_of_ble_eq_true rfl) ?_
  unfold wcm
  have h := wwqb s hs bol r w a l hll hl hw l.length 0 (by omega)
  rw [List.drop_zero, show ((0 : Nat) : Int) = 0 from rfl] at h
  show _ = some (Out.val (FL (wwq w l []).length (stsC (wwq w l []))), HP [])
  clear hw
  by_cases hz : wwq w l [] = []
  · rw [rowO, if_pos hz] at h
    rw [hz]
    (repeat' (first | (simp -implicitDefEqProofs (maxSteps := 2000000) (disch := first | with_reducible assumption | omega | (simp only [zS, zA, seval, wy, zD] <;> omega) | fail) only [zS, argl, insA, Go.Den.wm, wo, wu, looks, wcb, wbb, idOf, riA, seval, Go.Den.wh, kK, wkd, wy, woi, *, zT]) | (with_reducible (first | apply z1 | apply z2 | apply z3 | apply z4) <;> intro hq <;> (try simp only [zH] at hq) <;> (try (exfalso; omega)))))
  · rw [rowO, if_neg hz] at h
    (repeat' (first | (simp -implicitDefEqProofs (maxSteps := 2000000) (disch := first | with_reducible assumption | omega | (simp only [zS, zA, seval, wy, zD] <;> omega) | fail) only [zS, argl, insA, Go.Den.wm, wo, wu, looks, wcb, wbb, idOf, riA, seval, Go.Den.wh, kK, wkd, wy, woi, *, zT]) | (with_reducible (first | apply z1 | apply z2 | apply z3 | apply z4) <;> intro hq <;> (try simp only [zH] at hq) <;> (try (exfalso; omega)))))
end
end Go.Proofs.Ytgpabbbibmnnlaa
namespace Go.Proofs.Ytgpabbbibmnnlaa
set_option linter.unusedVariables false
set_option linter.unusedSimpArgs false
open Go.Den
noncomputable section
abbrev Turn := Int × St
def trC (p : Turn) : List Value := .int .i64 p.1 :: stC p.2
theorem wueb {p : Turn} : (trC p).length = 10 := by rw [trC, List.length_cons, wpeb]
theorem tr_atom {p : Turn} : waf (trC p) = true := by rw [trC, wqr, wdjb]; rfl
theorem wcf (p : Turn) : FzL (trC p) := fzl tr_atom
theorem wmf {p : Turn} : wdk (trC p) = true := by rw [trC, wco, wnzb]; rfl
theorem tr_bq {p : Turn} : beqL (trC p) (trC p) = true := by rw [trC, wzg, wrq, st_bq]; rfl
theorem tr_fits {p : Turn} : wle [.int .i64, .int .i64, .int .i64, .int .i64, .int .i64, .int .i64, .int .i64, .int .i64, .int .i64, .int .i64] (trC p) = true := by
  rw [trC]; show (true && wle _ (stC p.2)) = true; rw [wejb]; rfl
theorem tr_eqL {p q : Turn} : eqL (trC p) (trC q) = decide (p = q) := by
  obtain ⟨a, m⟩ := p
  obtain ⟨b, n⟩ := q
  show ((a == b) && eqL (stC m) (stC n)) = _
  rw [st_eqL]
  by_cases h1 : a = b <;> by_cases h2 : m = n <;> simp [h1, h2]
theorem woac {n : Int} {x : St} : (Value.int .i64 n :: stC x) = trC (n, x) := rfl
theorem wqlb {p : Turn} : slotsOf (trC p) 0 10 = trC p := wen wueb
theorem wkg : KeyT Try.prog 202 trC :=
  ⟨by kernel_rfl, ⟨[.int .i64, .int .i64, .int .i64, .int .i64, .int .i64, .int .i64, .int .i64, .int .i64, .int .i64, .int .i64], by kernel_rfl, fun _ => tr_fits⟩, fun _ _ => tr_eqL, fun _ => wmf⟩
theorem wmb (l : List Turn) : beqP (setK trC l) (setK trC l) = true := waac (fun _ => tr_bq) l
section
variable (s : List UInt8) (bol : Bool) (mn mx nn : Int) (set : BitVec 256) (kids : List Rx)
abbrev repB : ABlk := X [str s, .bool bol, .int .i64 4, .int .i64 mn, .int .i64 mx, .int .i64 nn, wdV set 0, wdV set 1, wdV set 2, wdV set 3, FL kids.length (rxsC kids), .pointer (some ⟨1, 0, none⟩), .map (some 2)] 183 0 false
abbrev reN (met : List Turn) : List ABlk := [repB s bol mn mx nn set kids, X [.slice none 0 0, .map (some 3)] 178 0 false, .map (setK trC met), .map []]
abbrev reC (met : List Turn) (out : List St) : List ABlk := [repB s bol mn mx nn set kids, X [FO 3 out.length (stsC out), .map (some 4)] 178 0 false, .map (setK trC met), .tok out.length 87 9, .map (setK stC out)]
abbrev reE (met : List Turn) (out : List St) : List ABlk := [repB s bol mn mx nn set kids, X [FO 4 out.length (stsC out), .map (some 3)] 178 0 false, .map (setK trC met), .map (setK stC out), .tok out.length 87 9]
theorem ev_key_N (met : List Turn) (n : Int) (x : St) : lim Try.prog cfg (.call 125 [.pointer (some ⟨0, 0, none⟩), .int .i64 n, .agg ⟨stC x⟩]) (HP (reN s bol mn mx nn set kids met)) = some (.val (.agg ⟨trC (keyF mn mx n x)⟩), HP (reN s bol mn mx nn set kids met)) := by
  refine wec hc wuh (Nat.le_of_ble_eq_true rfl) (Nat.le_of_ble_eq_true rfl) ?_
  unfold wch keyF
  (repeat' (first | (simp -implicitDefEqProofs (maxSteps := 2000000) (disch := first | with_reducible assumption | omega | (simp only [zS, zA, seval, wy, wueb, wcf, zD] <;> omega) | fail) only [zS, argl, insA, Go.Den.wm, wo, wu, looks, wcb, wbb, idOf, riA, seval, Go.Den.wh, kK, wy, woac, wqlb, wueb, wcf, *, zT]) | (with_reducible (first | apply z1 | apply z2 | apply z3 | apply z4) <;> intro hq <;> (try simp only [zH] at hq) <;> (try (exfalso; omega)))))
theorem ev_key_C (met : List Turn) (out : List St) (n : Int) (x : St) : lim Try.prog cfg (.call 125 [.pointer (some ⟨0, 0, none⟩), .int .i64 n, .agg ⟨stC x⟩]) (HP (reC s bol mn mx nn set kids met out)) = some (.val (.agg ⟨trC (keyF mn mx n x)⟩), HP (reC s bol mn mx nn set kids met out)) := by
  refine wec hc wuh (Nat.le_of_ble_eq_true rfl) (Nat.le_of_ble_eq_true rfl) ?_
  unfold wch keyF
  (repeat' (first | (simp -implicitDefEqProofs (maxSteps := 2000000) (disch := first | with_reducible assumption | omega | (simp only [zS, zA, seval, wy, wueb, wcf, zD] <;> omega) | fail) only [zS, argl, insA, Go.Den.wm, wo, wu, looks, wcb, wbb, idOf, riA, seval, Go.Den.wh, kK, wy, woac, wqlb, wueb, wcf, *, zT]) | (with_reducible (first | apply z1 | apply z2 | apply z3 | apply z4) <;> intro hq <;> (try simp only [zH] at hq) <;> (try (exfalso; omega)))))
def muF (mn mx : Int) (len : Nat) (n : Int) (x : St) : Nat := if mx < 0 then (mn - n).toNat + ((len : Int) - x.1).toNat else (mx - n).toNat
def KidOk (s : List UInt8) (bol : Bool) (kids : List Rx) (w : St → List St) : Prop :=
  ∃ kid, slotsOf (rxsC kids) 0 9 = rxC kid ∧ 0 < kids.length ∧ ∀ y, GdS s.length y → RwS s.length y.1 (w y) ∧ lim Try.prog cfg (.call 75 [.agg ⟨[str s, .bool bol]⟩, .agg ⟨rxC kid⟩, .agg ⟨stC y⟩]) (HP []) = some (.val (FL (w y).length (stsC (w y))), HP [])
def OnC (w : St → List St) (a : Int) (k : Nat) : Prop := ∀ (n : Int) (x : St) (met : List Turn) (out : List St), 0 ≤ n → n + k ≤ 1000 → GdS s.length x → a ≤ x.1 → muF mn mx s.length n x < k → out ≠ [] → RwS s.length a out →
  lim Try.prog cfg (.call 105 [.pointer (some ⟨0, 0, none⟩), .int .i64 n, .agg ⟨stC x⟩]) (HP (reC s bol mn mx nn set kids met out)) = some (.val (.tuple ⟨[]⟩), HP (reC s bol mn mx nn set kids (onF w mn mx k n x (met, out)).1 (onF w mn mx k n x (met, out)).2))
theorem on_ne {w : St → List St} {mn mx : Int} : ∀ (k : Nat) (n : Int) (x : St) (a : List Turn × List St), a.2 ≠ [] → (onF w mn mx k n x a).2 ≠ [] := by
  intro k
  induction k with
  | zero => intro n x a h; exact h
  | succ k ih =>
    intro n x a h
    have hf : ∀ (l : List St) (b : List Turn × List St), b.2 ≠ [] → (l.foldl (fun b y => if y.1 ≠ x.1 ∨ n < mn then onF w mn mx k (n + 1) y b else b) b).2 ≠ [] := by
      intro l
      induction l with
      | nil => intro b hb; exact hb
      | cons y l ih2 =>
        intro b hb
        refine ih2 _ ?_
        show (if y.1 ≠ x.1 ∨ n < mn then onF w mn mx k (n + 1) y b else b).2 ≠ []
        split
        · exact ih _ _ _ hb
        · exact hb
    unfold onF
    split
    · exact h
    · simp only
      have hb : (if mx < 0 ∨ n < mx then (w x).foldl (fun b y => if y.1 ≠ x.1 ∨ n < mn then onF w mn mx k (n + 1) y b else b) (a.1 ++ [keyF mn mx n x], a.2) else (a.1 ++ [keyF mn mx n x], a.2)).2 ≠ [] := by
        split
        · exact hf _ _ h
        · exact h
      split
      · exact wfh (.inl hb)
      · exact hb
def wos (w : St → List St) (mn mx : Int) (k : Nat) (n : Int) (x : St) (l : List St) (b : List Turn × List St) : List Turn × List St := l.foldl (fun b y => if y.1 ≠ x.1 ∨ n < mn then onF w mn mx k (n + 1) y b else b) b
theorem wuk {w : St → List St} {mn mx : Int} {k : Nat} {n : Int} {x y : St} {l : List St} {b : List Turn × List St} : wos w mn mx k n x (y :: l) b = wos w mn mx k n x l (if y.1 ≠ x.1 ∨ n < mn then onF w mn mx k (n + 1) y b else b) := rfl
set_option maxHeartbeats 4000000 in
theorem on_loopC (hs : s.length ≤ 12) (hmn : 0 ≤ mn ∧ mn ≤ 20) (hmx : mx ≤ 20) (w : St → List St) (a : Int) (hk : ∀ y, GdS s.length y → RwS s.length y.1 (w y)) (k : Nat) (IH : OnC s bol mn mx nn set kids w a k) (n : Int) (hn : 0 ≤ n ∧ n + k < 1000) (hnm : mx < 0 ∨ n < mx) (x : St) (hx : GdS s.length x) (hxa : a ≤ x.1) (hmu : muF mn mx s.length n x < k + 1) (l : List St) (hll : l.length ≤ 16000000) (hl : ∀ y ∈ l, GdS s.length y ∧ x.1 ≤ y.1) :
    ∀ (j i : Nat) (met : List Turn) (out : List St), i + j = l.length → out ≠ [] → RwS s.length a out →
    lim Try.prog cfg (.loop 105 5 (wsd 0) (SE (EJ 92 G0) [(54, .int .i64 i), (53, .int .i64 l.length), (52, FL l.length (stsC l)), (5, .pointer (some ⟨5, 0, none⟩)), (1, .int .i64 n), (0, .pointer (some ⟨0, 0, none⟩))])) (HP (reC s bol mn mx nn set kids met out ++ [X (stC x) 87 0 true])) = some (.code (.exit 0) (SE (EJ 92 G0) [(5, .pointer (some ⟨5, 0, none⟩)), (1, .int .i64 n), (0, .pointer (some ⟨0, 0, none⟩))]), HP (reC s bol mn mx nn set kids (wos w mn mx k n x (l.drop i) (met, out)).1 (wos w mn mx k n x (l.drop i) (met, out)).2 ++ [X (stC x) 87 0 true])) := by
  intro j
  induction j with
  | zero =>
    intro i met out hi ho hr
    rw [List.drop_of_length_le (by omega)]
    refine wab wuc ?_
    unfold wzc
    clear IH hk hl
    (repeat' (first | (simp -implicitDefEqProofs (maxSteps := 2000000) (disch := first | with_reducible assumption | omega | (simp only [zS, zA, seval, wy, zD] <;> omega) | fail) only [zS, argl, insA, Go.Den.wm, wo, wu, looks, wcb, wbb, idOf, riA, seval, Go.Den.wh, kK, wz, wy, *, zT]) | (with_reducible (first | apply z1 | apply z2 | apply z3 | apply z4) <;> intro hq <;> (try simp only [zH] at hq) <;> (try (exfalso; omega)))))
    all_goals rfl
  | succ j ih =>
    intro i met out hi ho hr
    rw [wfg l (by omega), wuk]
    have hy := hl (l.getD i St.zero) (by rw [List.getD_eq_getElem?_getD, List.getElem?_eq_getElem (by omega)]; exact List.getElem_mem _)
    refine wab wuc ?_
    unfold wzc
    by_cases hc : (l.getD i St.zero).1 ≠ x.1 ∨ n < mn
    · have hmu2 : muF mn mx s.length (n + 1) (l.getD i St.zero) < k := by
        have h1 := hy.1.hi
        have h2 := hx.hi
        unfold muF at hmu ⊢
        split at hmu
        · rw [if_pos (by omega)]; omega
        · rw [if_neg (by omega)]; omega
      have h1 := IH (n + 1) (l.getD i St.zero) met out (by omega) (by omega) hy.1 (by omega) hmu2 ho hr
      have h2 := ih (i + 1) (onF w mn mx k (n + 1) (l.getD i St.zero) (met, out)).1 (onF w mn mx k (n + 1) (l.getD i St.zero) (met, out)).2 (by omega) (on_ne _ _ _ _ ho) (wteb (fun y hy _ => hk y hy) _ _ _ _ hy.1 (by omega) hr)
      rw [if_pos hc]
      clear IH ih hk
      by_cases hc1 : (l.getD i St.zero).1 = x.1
      · have hc2 : n < mn := by omega
        (repeat' (first | (simp -implicitDefEqProofs (maxSteps := 2000000) (disch := first | with_reducible assumption | omega | (simp only [zS, zA, seval, wy, zD] <;> omega) | fail) only [zS, argl, insA, Go.Den.wm, wo, wu, looks, wcb, wbb, idOf, riA, seval, Go.Den.wh, kK, wz, wy, wfb, wmb, *, zT]) | (with_reducible (first | apply z1 | apply z2 | apply z3 | apply z4) <;> intro hq <;> (try simp only [zH] at hq) <;> (try (exfalso; omega)))))
        exact h2
      · (repeat' (first | (simp -implicitDefEqProofs (maxSteps := 2000000) (disch := first | with_reducible assumption | omega | (simp only [zS, zA, seval, wy, zD] <;> omega) | fail) only [zS, argl, insA, Go.Den.wm, wo, wu, looks, wcb, wbb, idOf, riA, seval, Go.Den.wh, kK, wz, wy, wfb, wmb, *, zT]) | (with_reducible (first | apply z1 | apply z2 | apply z3 | apply z4) <;> intro hq <;> (try simp only [zH] at hq) <;> (try (exfalso; omega)))))
        exact h2
    · have h2 := ih (i + 1) met out (by omega) ho hr
      rw [if_neg hc]
      have hc1 : (l.getD i St.zero).1 = x.1 := by omega
      have hc2 : ¬ n < mn := by omega
      clear IH ih hk
      (repeat' (first | (simp -implicitDefEqProofs (maxSteps := 2000000) (disch := first | with_reducible assumption | omega | (simp only [zS, zA, seval, wy, zD] <;> omega) | fail) only [zS, argl, insA, Go.Den.wm, wo, wu, looks, wcb, wbb, idOf, riA, seval, Go.Den.wh, kK, wz, wy, wfb, wmb, *, zT]) | (with_reducible (first | apply z1 | apply z2 | apply z3 | apply z4) <;> intro hq <;> (try simp only [zH] at hq) <;> (try (exfalso; omega)))))
      exact h2
end
end
end Go.Proofs.Ytgpabbbibmnnlaa
namespace Go.Proofs.Ytgpabbbibmnnlaa
set_option linter.unusedVariables false
set_option linter.unusedSimpArgs false
open Go.Den
noncomputable section
theorem wrlb {w : St → List St} {mn mx : Int} {k : Nat} {n : Int} {x : St} : ∀ (l : List St) (b : List Turn × List St), b.2 ≠ [] → (wos w mn mx k n x l b).2 ≠ [] := by
  intro l
  induction l with
  | nil => intro b hb; exact hb
  | cons y l ih =>
    intro b hb
    rw [wuk]
    refine ih _ ?_
    split
    · exact on_ne _ _ _ _ hb
    · exact hb
theorem wveb {len : Nat} {a : Int} {w : St → List St} {mn mx : Int} (hw : ∀ x, GdS len x → RwS len x.1 (w x)) {k : Nat} {n : Int} {x : St} : ∀ (l : List St) (b : List Turn × List St), (∀ y ∈ l, GdS len y ∧ a ≤ y.1) → RwS len a b.2 → RwS len a (wos w mn mx k n x l b).2 := by
  intro l
  induction l with
  | nil => intro b _ hb; exact hb
  | cons y l ih =>
    intro b hl hb
    rw [wuk]
    have hy := hl y (List.mem_cons_self ..)
    refine ih _ (fun z hz => hl z (List.mem_cons_of_mem _ hz)) ?_
    split
    · exact wteb (fun y hy _ => hw y hy) _ _ _ _ hy.1 hy.2 hb
    · exact hb
section
variable (s : List UInt8) (bol : Bool) (mn mx nn : Int) (set : BitVec 256) (kids : List Rx)
abbrev feN (met : List Turn) (x : St) : List ABlk := [repB s bol mn mx nn set kids, X [.slice none 0 0, .map (some 3)] 178 0 false, .map (setK trC met), .map [], X (stC x) 87 0 true]
abbrev feE (met : List Turn) (out : List St) (x : St) : List ABlk := [repB s bol mn mx nn set kids, X [FO 5 out.length (stsC out), .map (some 3)] 178 0 false, .map (setK trC met), .map (setK stC out), X (stC x) 87 0 true, .tok out.length 87 9]
def reO (p : List Turn × List St) : List ABlk := if p.2 = [] then reN s bol mn mx nn set kids p.1 else reE s bol mn mx nn set kids p.1 p.2
def feO (p : List Turn × List St) (x : St) : List ABlk := if p.2 = [] then feN s bol mn mx nn set kids p.1 x else feE s bol mn mx nn set kids p.1 p.2 x
def OnN (w : St → List St) (a : Int) (k : Nat) : Prop := ∀ (n : Int) (x : St) (met : List Turn), 0 ≤ n → n + k ≤ 1000 → GdS s.length x → a ≤ x.1 → muF mn mx s.length n x < k →
  lim Try.prog cfg (.call 105 [.pointer (some ⟨0, 0, none⟩), .int .i64 n, .agg ⟨stC x⟩]) (HP (reN s bol mn mx nn set kids met)) = some (.val (.tuple ⟨[]⟩), HP (reO s bol mn mx nn set kids (onF w mn mx k n x (met, []))))
theorem wpac {mn mx : Int} {len : Nat} {n : Int} {x y : St} {k : Nat} (hx : GdS len x) (hy : GdS len y) (hxy : x.1 ≤ y.1) (hnm : mx < 0 ∨ n < mx) (hc : y.1 ≠ x.1 ∨ n < mn) (hmu : muF mn mx len n x < k + 1) : muF mn mx len (n + 1) y < k := by
  have h1 := hy.hi
  have h2 := hx.hi
  unfold muF at hmu ⊢
  split at hmu
  · rw [if_pos (by omega)]; omega
  · rw [if_neg (by omega)]; omega
set_option maxHeartbeats 4000000 in
theorem on_loopE (hs : s.length ≤ 12) (hmn : 0 ≤ mn ∧ mn ≤ 20) (hmx : mx ≤ 20) (w : St → List St) (a : Int) (hk : ∀ y, GdS s.length y → RwS s.length y.1 (w y)) (k : Nat) (IH : OnC s bol mn mx nn set kids w a k) (n : Int) (hn : 0 ≤ n ∧ n + k < 1000) (hnm : mx < 0 ∨ n < mx) (x : St) (hx : GdS s.length x) (hxa : a ≤ x.1) (hmu : muF mn mx s.length n x < k + 1) (l : List St) (hll : l.length ≤ 16000000) (hl : ∀ y ∈ l, GdS s.length y ∧ x.1 ≤ y.1) :
    ∀ (j i : Nat) (met : List Turn) (out : List St), i + j = l.length → out ≠ [] → RwS s.length a out →
    lim Try.prog cfg (.loop 105 4 (wsd 0) (SE (EJ 92 G0) [(54, .int .i64 i), (53, .int .i64 l.length), (52, FL l.length (stsC l)), (5, .pointer (some ⟨4, 0, none⟩)), (1, .int .i64 n), (0, .pointer (some ⟨0, 0, none⟩))])) (HP (feE s bol mn mx nn set kids met out x)) = some (.code (.exit 0) (SE (EJ 92 G0) [(5, .pointer (some ⟨4, 0, none⟩)), (1, .int .i64 n), (0, .pointer (some ⟨0, 0, none⟩))]), HP (feE s bol mn mx nn set kids (wos w mn mx k n x (l.drop i) (met, out)).1 (wos w mn mx k n x (l.drop i) (met, out)).2 x)) := by
  intro j
  induction j with
  | zero =>
    intro i met out hi ho hr
    rw [List.drop_of_length_le (by omega)]
    refine wab wuc ?_
    unfold wzc
    clear IH hk hl
    (repeat' (first | (simp -implicitDefEqProofs (maxSteps := 2000000) (disch := first | with_reducible assumption | omega | (simp only [zS, zA, seval, wy, zD] <;> omega) | fail) only [zS, argl, insA, Go.Den.wm, wo, wu, looks, wcb, wbb, idOf, riA, seval, Go.Den.wh, kK, wz, wy, *, zT]) | (with_reducible (first | apply z1 | apply z2 | apply z3 | apply z4) <;> intro hq <;> (try simp only [zH] at hq) <;> (try (exfalso; omega)))))
    all_goals rfl
  | succ j ih =>
    intro i met out hi ho hr
    rw [wfg l (by omega), wuk]
    have hy := hl (l.getD i St.zero) (by rw [List.getD_eq_getElem?_getD, List.getElem?_eq_getElem (by omega)]; exact List.getElem_mem _)
    refine wab wuc ?_
    unfold wzc
    by_cases hc : (l.getD i St.zero).1 ≠ x.1 ∨ n < mn
    · have h1 := IH (n + 1) (l.getD i St.zero) met out (by omega) (by omega) hy.1 (by omega) (wpac hx hy.1 hy.2 hnm hc hmu) ho hr
      have h2 := ih (i + 1) (onF w mn mx k (n + 1) (l.getD i St.zero) (met, out)).1 (onF w mn mx k (n + 1) (l.getD i St.zero) (met, out)).2 (by omega) (on_ne _ _ _ _ ho) (wteb (fun y hy _ => hk y hy) _ _ _ _ hy.1 (by omega) hr)
      rw [if_pos hc]
      clear IH ih hk
      by_cases hc1 : (l.getD i St.zero).1 = x.1
      · have hc2 : n < mn := by omega
        (repeat' (first | (simp -implicitDefEqProofs (maxSteps := 2000000) (disch := first | with_reducible assumption | omega | (simp only [zS, zA, seval, wy, zD] <;> omega) | fail) only [zS, argl, insA, Go.Den.wm, wo, wu, looks, wcb, wbb, idOf, riA, seval, Go.Den.wh, kK, wz, wy, wfb, wmb, *, zT]) | (with_reducible (first | apply z1 | apply z2 | apply z3 | apply z4) <;> intro hq <;> (try simp only [zH] at hq) <;> (try (exfalso; omega)))))
        exact h2
      · (repeat' (first | (simp -implicitDefEqProofs (maxSteps := 2000000) (disch := first | with_reducible assumption | omega | (simp only [zS, zA, seval, wy, zD] <;> omega) | fail) only [zS, argl, insA, Go.Den.wm, wo, wu, looks, wcb, wbb, idOf, riA, seval, Go.Den.wh, kK, wz, wy, wfb, wmb, *, zT]) | (with_reducible (first | apply z1 | apply z2 | apply z3 | apply z4) <;> intro hq <;> (try simp only [zH] at hq) <;> (try (exfalso; omega)))))
        exact h2
    · have h2 := ih (i + 1) met out (by omega) ho hr
      rw [if_neg hc]
      have hc1 : (l.getD i St.zero).1 = x.1 := by omega
      have hc2 : ¬ n < mn := by omega
      clear IH ih hk
      (repeat' (first | (simp -implicitDefEqProofs (maxSteps := 2000000) (disch := first | with_reducible assumption | omega | (simp only [zS, zA, seval, wy, zD] <;> omega) | fail) only [zS, argl, insA, Go.Den.wm, wo, wu, looks, wcb, wbb, idOf, riA, seval, Go.Den.wh, kK, wz, wy, wfb, wmb, *, zT]) | (with_reducible (first | apply z1 | apply z2 | apply z3 | apply z4) <;> intro hq <;> (try simp only [zH] at hq) <;> (try (exfalso; omega)))))
      exact h2
set_option maxHeartbeats 4000000 in
theorem on_loopN (hs : s.length ≤ 12) (hmn : 0 ≤ mn ∧ mn ≤ 20) (hmx : mx ≤ 20) (w : St → List St) (a : Int) (hk : ∀ y, GdS s.length y → RwS s.length y.1 (w y)) (k : Nat) (IHC : OnC s bol mn mx nn set kids w a k) (IH : OnN s bol mn mx nn set kids w a k) (n : Int) (hn : 0 ≤ n ∧ n + k < 1000) (hnm : mx < 0 ∨ n < mx) (x : St) (hx : GdS s.length x) (hxa : a ≤ x.1) (hmu : muF mn mx s.length n x < k + 1) (l : List St) (hll : l.length ≤ 16000000) (hl : ∀ y ∈ l, GdS s.length y ∧ x.1 ≤ y.1) :
    ∀ (j i : Nat) (met : List Turn), i + j = l.length →
    lim Try.prog cfg (.loop 105 4 (wsd 0) (SE (EJ 92 G0) [(54, .int .i64 i), (53, .int .i64 l.length), (52, FL l.length (stsC l)), (5, .pointer (some ⟨4, 0, none⟩)), (1, .int .i64 n), (0, .pointer (some ⟨0, 0, none⟩))])) (HP (feN s bol mn mx nn set kids met x)) = some (.code (.exit 0) (SE (EJ 92 G0) [(5, .pointer (some ⟨4, 0, none⟩)), (1, .int .i64 n), (0, .pointer (some ⟨0, 0, none⟩))]), HP (feO s bol mn mx nn set kids (wos w mn mx k n x (l.drop i) (met, [])) x)) := by
  intro j
  induction j with
  | zero =>
    intro i met hi
    rw [List.drop_of_length_le (by omega)]
    refine wab wuc ?_
    unfold wzc
    clear IH IHC hk hl
    (repeat' (first | (simp -implicitDefEqProofs (maxSteps := 2000000) (disch := first | with_reducible assumption | omega | (simp only [zS, zA, seval, wy, zD] <;> omega) | fail) only [zS, argl, insA, Go.Den.wm, wo, wu, looks, wcb, wbb, idOf, riA, seval, Go.Den.wh, kK, wz, wy, *, zT]) | (with_reducible (first | apply z1 | apply z2 | apply z3 | apply z4) <;> intro hq <;> (try simp only [zH] at hq) <;> (try (exfalso; omega)))))
    all_goals rfl
  | succ j ih =>
    intro i met hi
    rw [wfg l (by omega), wuk]
    have hy := hl (l.getD i St.zero) (by rw [List.getD_eq_getElem?_getD, List.getElem?_eq_getElem (by omega)]; exact List.getElem_mem _)
    refine wab wuc ?_
    unfold wzc
    by_cases hc : (l.getD i St.zero).1 ≠ x.1 ∨ n < mn
    · have h1 := IH (n + 1) (l.getD i St.zero) met (by omega) (by omega) hy.1 (by omega) (wpac hx hy.1 hy.2 hnm hc hmu)
      rw [if_pos hc]
      have hr := wteb (a0 := a) (mn := mn) (mx := mx) (fun y hy _ => hk y hy) k (n + 1) (l.getD i St.zero) (met, []) hy.1 (by omega) .nil
      rcases hq : onF w mn mx k (n + 1) (l.getD i St.zero) (met, []) with ⟨met2, out2⟩
      rw [hq] at h1 hr
      unfold reO at h1
      by_cases ho : out2 = []
      · subst ho
        rw [if_pos rfl] at h1
        have h2 := ih (i + 1) met2 (by omega)
        clear IH IHC ih hk
        by_cases hc1 : (l.getD i St.zero).1 = x.1
        · have hc2 : n < mn := by omega
          (repeat' (first | (simp -implicitDefEqProofs (maxSteps := 2000000) (disch := first | with_reducible assumption | omega | (simp only [zS, zA, seval, wy, zD] <;> omega) | fail) only [zS, argl, insA, Go.Den.wm, wo, wu, looks, wcb, wbb, idOf, riA, seval, Go.Den.wh, kK, wz, wy, wfb, wmb, *, zT]) | (with_reducible (first | apply z1 | apply z2 | apply z3 | apply z4) <;> intro hq <;> (try simp only [zH] at hq) <;> (try (exfalso; omega)))))
          exact h2
        · (repeat' (first | (simp -implicitDefEqProofs (maxSteps := 2000000) (disch := first | with_reducible assumption | omega | (simp only [zS, zA, seval, wy, zD] <;> omega) | fail) only [zS, argl, insA, Go.Den.wm, wo, wu, looks, wcb, wbb, idOf, riA, seval, Go.Den.wh, kK, wz, wy, wfb, wmb, *, zT]) | (with_reducible (first | apply z1 | apply z2 | apply z3 | apply z4) <;> intro hq <;> (try simp only [zH] at hq) <;> (try (exfalso; omega)))))
          exact h2
      · rw [if_neg ho] at h1
        have h2 := on_loopE s bol mn mx nn set kids hs hmn hmx w a hk k IHC n hn hnm x hx hxa hmu l hll hl j (i + 1) met2 out2 (by omega) ho hr
        rw [feO, if_neg (wrlb _ _ ho)]
        clear IH IHC ih hk
        by_cases hc1 : (l.getD i St.zero).1 = x.1
        · have hc2 : n < mn := by omega
          (repeat' (first | (simp -implicitDefEqProofs (maxSteps := 2000000) (disch := first | with_reducible assumption | omega | (simp only [zS, zA, seval, wy, zD] <;> omega) | fail) only [zS, argl, insA, Go.Den.wm, wo, wu, looks, wcb, wbb, idOf, riA, seval, Go.Den.wh, kK, wz, wy, wfb, wmb, *, zT]) | (with_reducible (first | apply z1 | apply z2 | apply z3 | apply z4) <;> intro hq <;> (try simp only [zH] at hq) <;> (try (exfalso; omega)))))
          exact h2
        · (repeat' (first | (simp -implicitDefEqProofs (maxSteps := 2000000) (disch := first | with_reducible assumption | omega | (simp only [zS, zA, seval, wy, zD] <;> omega) | fail) only [zS, argl, insA, Go.Den.wm, wo, wu, looks, wcb, wbb, idOf, riA, seval, Go.Den.wh, kK, wz, wy, wfb, wmb, *, zT]) | (with_reducible (first | apply z1 | apply z2 | apply z3 | apply z4) <;> intro hq <;> (try simp only [zH] at hq) <;> (try (exfalso; omega)))))
          exact h2
    · have h2 := ih (i + 1) met (by omega)
      rw [if_neg hc]
      have hc1 : (l.getD i St.zero).1 = x.1 := by omega
      have hc2 : ¬ n < mn := by omega
      clear IH IHC ih hk
      (repeat' (first | (simp -implicitDefEqProofs (maxSteps := 2000000) (disch := first | with_reducible assumption | omega | (simp only [zS, zA, seval, wy, zD] <;> omega) | fail) only [zS, argl, insA, Go.Den.wm, wo, wu, looks, wcb, wbb, idOf, riA, seval, Go.Den.wh, kK, wz, wy, wfb, wmb, *, zT]) | (with_reducible (first | apply z1 | apply z2 | apply z3 | apply z4) <;> intro hq <;> (try simp only [zH] at hq) <;> (try (exfalso; omega)))))
      exact h2
end
end
end Go.Proofs.Ytgpabbbibmnnlaa
namespace Go.Proofs.Ytgpabbbibmnnlaa
set_option linter.unusedVariables false
set_option linter.unusedSimpArgs false
open Go.Den
noncomputable section
section
variable (s : List UInt8) (bol : Bool) (mn mx nn : Int) (set : BitVec 256) (kids : List Rx)
theorem wqac {w : St → List St} {mn mx : Int} {k : Nat} {n : Int} {x : St} {a : List Turn × List St} (h : keyF mn mx n x ∈ a.1) : onF w mn mx (k + 1) n x a = a := by
  rw [onF, if_pos h]
theorem wzab {w : St → List St} {mn mx : Int} {k : Nat} {n : Int} {x : St} {met : List Turn} {out : List St} (h : keyF mn mx n x ∉ met) (b : List Turn × List St) (hb : b = if mx < 0 ∨ n < mx then wos w mn mx k n x (w x) (met ++ [keyF mn mx n x], out) else (met ++ [keyF mn mx n x], out)) :
    onF w mn mx (k + 1) n x (met, out) = if n ≥ mn then (b.1, addF b.2 [x]) else b := by
  rw [onF, if_neg h, hb]
  rfl
set_option maxHeartbeats 4000000 in
theorem ev_on_C (hs : s.length ≤ 12) (hmn : 0 ≤ mn ∧ mn ≤ 20) (hmx : mx ≤ 20) (w : St → List St) (a : Int) (hk : KidOk s bol kids w) (k : Nat) (IH : OnC s bol mn mx nn set kids w a k) : OnC s bol mn mx nn set kids w a (k + 1) := by
  intro n x met out hn hn2 hx hxa hmu ho hr
  obtain ⟨kid, k1, k2, k3⟩ := hk
  have hw := fun y hy => (k3 y hy).1
  have ⟨r1, r2⟩ := k3 x hx
  have r3 := row_len r1 hs
  have key := ev_key_C s bol mn mx nn set kids
  refine wec hc wmi (Nat.le_of_ble_eq_true rfl) (Nat.le_of_ble_eq_true rfl) ?_
  unfold wqh
  by_cases hm : keyF mn mx n x ∈ met
  · rw [wqac hm]
    clear IH k3 hw r1 r2
    (repeat' (first | (simp -implicitDefEqProofs (maxSteps := 2000000) (disch := first | with_reducible assumption | omega | (simp only [zS, zA, seval, wy, wcf, wfb, wmb, zD] <;> omega) | fail) only [zS, argl, insA, Go.Den.wm, wo, wu, looks, wcb, wbb, idOf, riA, seval, Go.Den.wh, kK, wy, wfb, wmb, wgd wkg, wmf, wcf, *, zT]) | (with_reducible (first | apply z1 | apply z2 | apply z3 | apply z4) <;> intro hq <;> (try simp only [zH] at hq) <;> (try (exfalso; omega))) | (with_reducible apply z5; (case hl => (repeat (first | exact .nil | with_reducible apply z6 | with_reducible apply z7))); (case h => kernel_rfl))))
  · by_cases hnm : mx < 0 ∨ n < mx
    · have hb := wzab (w := w) (k := k) (out := out) hm _ rfl
      rw [if_pos hnm] at hb
      have hl := on_loopC s bol mn mx nn set kids hs hmn hmx w a hw k IH n ⟨hn, by omega⟩ hnm x hx hxa hmu (w x) (by omega) r1.good (w x).length 0 (met ++ [keyF mn mx n x]) out (by omega) ho hr
      rw [List.drop_zero, show ((0 : Nat) : Int) = 0 from rfl] at hl
      simp only [List.cons_append, List.nil_append] at hl
      have hbr := wveb (a := a) (mn := mn) (mx := mx) hw (k := k) (n := n) (x := x) (w x) (met ++ [keyF mn mx n x], out) (fun y hy => ⟨(r1.good y hy).1, by have := (r1.good y hy).2; omega⟩) hr
      have hbn := wrlb (w := w) (mn := mn) (mx := mx) (k := k) (n := n) (x := x) (w x) (met ++ [keyF mn mx n x], out) ho
      generalize wos w mn mx k n x (w x) (met ++ [keyF mn mx n x], out) = b at hb hl hbr hbn
      obtain ⟨bm, bo⟩ := b
      simp only at hb hl hbr hbn
      rw [hb]
      have hadd := wdo bo [x] hbn (by simp) (by have := row_len (hbr.add (xs := [x]) (fun y hy => by rw [List.mem_singleton] at hy; subst hy; exact ⟨hx, hxa⟩)) hs; omega)
      rw [wqf, show [x].length = 1 from rfl] at hadd
      clear IH k3 hw r1 hb hbr
      by_cases hge : n ≥ mn
      · rw [if_pos hge]
        by_cases hmx0 : mx < 0
        · (repeat' (first | (simp -implicitDefEqProofs (maxSteps := 2000000) (disch := first | with_reducible assumption | omega | (simp only [zS, zA, seval, wy, wcf, wfb, wmb, zD] <;> omega) | fail) only [zS, argl, insA, Go.Den.wm, wo, wu, looks, wcb, wbb, idOf, riA, seval, Go.Den.wh, kK, wz, wy, wfb, wmb, wgd wkg, wxe wkg, wmf, wcf, *, zT]) | (with_reducible (first | apply z1 | apply z2 | apply z3 | apply z4) <;> intro hq <;> (try simp only [zH] at hq) <;> (try (exfalso; omega))) | (with_reducible apply z5; (case hl => (repeat (first | exact .nil | with_reducible apply z6 | with_reducible apply z7))); (case h => kernel_rfl))))
        · have hnm2 : n < mx := by omega
          (repeat' (first | (simp -implicitDefEqProofs (maxSteps := 2000000) (disch := first | with_reducible assumption | omega | (simp only [zS, zA, seval, wy, wcf, wfb, wmb, zD] <;> omega) | fail) only [zS, argl, insA, Go.Den.wm, wo, wu, looks, wcb, wbb, idOf, riA, seval, Go.Den.wh, kK, wz, wy, wfb, wmb, wgd wkg, wxe wkg, wmf, wcf, *, zT]) | (with_reducible (first | apply z1 | apply z2 | apply z3 | apply z4) <;> intro hq <;> (try simp only [zH] at hq) <;> (try (exfalso; omega))) | (with_reducible apply z5; (case hl => (repeat (first | exact .nil | with_reducible apply z6 | with_reducible apply z7))); (case h => kernel_rfl))))
      · rw [if_neg hge]
        by_cases hmx0 : mx < 0
        · (repeat' (first | (simp -implicitDefEqProofs (maxSteps := 2000000) (disch := first | with_reducible assumption | omega | (simp only [zS, zA, seval, wy, wcf, wfb, wmb, zD] <;> omega) | fail) only [zS, argl, insA, Go.Den.wm, wo, wu, looks, wcb, wbb, idOf, riA, seval, Go.Den.wh, kK, wz, wy, wfb, wmb, wgd wkg, wxe wkg, wmf, wcf, *, zT]) | (with_reducible (first | apply z1 | apply z2 | apply z3 | apply z4) <;> intro hq <;> (try simp only [zH] at hq) <;> (try (exfalso; omega))) | (with_reducible apply z5; (case hl => (repeat (first | exact .nil | with_reducible apply z6 | with_reducible apply z7))); (case h => kernel_rfl))))
        · have hnm2 : n < mx := by omega
          (repeat' (first | (simp -implicitDefEqProofs (maxSteps := 2000000) (disch := first | with_reducible assumption | omega | (simp only [zS, zA, seval, wy, wcf, wfb, wmb, zD] <;> omega) | fail) only [zS, argl, insA, Go.Den.wm, wo, wu, looks, wcb, wbb, idOf, riA, seval, Go.Den.wh, kK, wz, wy, wfb, wmb, wgd wkg, wxe wkg, wmf, wcf, *, zT]) | (with_reducible (first | apply z1 | apply z2 | apply z3 | apply z4) <;> intro hq <;> (try simp only [zH] at hq) <;> (try (exfalso; omega))) | (with_reducible apply z5; (case hl => (repeat (first | exact .nil | with_reducible apply z6 | with_reducible apply z7))); (case h => kernel_rfl))))
    · have hb := wzab (w := w) (k := k) (out := out) hm _ rfl
      rw [if_neg hnm] at hb
      simp only at hb
      rw [hb]
      have hmx0 : ¬ mx < 0 := fun h => hnm (.inl h)
      have hnm2 : ¬ n < mx := fun h => hnm (.inr h)
      have hadd := wdo out [x] ho (by simp) (by have := row_len (hr.add (xs := [x]) (fun y hy => by rw [List.mem_singleton] at hy; subst hy; exact ⟨hx, hxa⟩)) hs; omega)
      rw [wqf, show [x].length = 1 from rfl] at hadd
      clear IH k3 hw r1 r2 hb hnm
      by_cases hge : n ≥ mn
      · rw [if_pos hge]
        (repeat' (first | (simp -implicitDefEqProofs (maxSteps := 2000000) (disch := first | with_reducible assumption | omega | (simp only [zS, zA, seval, wy, wcf, wfb, wmb, zD] <;> omega) | fail) only [zS, argl, insA, Go.Den.wm, wo, wu, looks, wcb, wbb, idOf, riA, seval, Go.Den.wh, kK, wz, wy, wfb, wmb, wgd wkg, wxe wkg, wmf, wcf, *, zT]) | (with_reducible (first | apply z1 | apply z2 | apply z3 | apply z4) <;> intro hq <;> (try simp only [zH] at hq) <;> (try (exfalso; omega))) | (with_reducible apply z5; (case hl => (repeat (first | exact .nil | with_reducible apply z6 | with_reducible apply z7))); (case h => kernel_rfl))))
      · rw [if_neg hge]
        (repeat' (first | (simp -implicitDefEqProofs (maxSteps := 2000000) (disch := first | with_reducible assumption | omega | (simp only [zS, zA, seval, wy, wcf, wfb, wmb, zD] <;> omega) | fail) only [zS, argl, insA, Go.Den.wm, wo, wu, looks, wcb, wbb, idOf, riA, seval, Go.Den.wh, kK, wz, wy, wfb, wmb, wgd wkg, wxe wkg, wmf, wcf, *, zT]) | (with_reducible (first | apply z1 | apply z2 | apply z3 | apply z4) <;> intro hq <;> (try simp only [zH] at hq) <;> (try (exfalso; omega))) | (with_reducible apply z5; (case hl => (repeat (first | exact .nil | with_reducible apply z6 | with_reducible apply z7))); (case h => kernel_rfl))))
end
end
end Go.Proofs.Ytgpabbbibmnnlaa
