/-
The compact codes of the program's functions, part 1: printed by codes.py.
-/
import Derived.Test.YtneoeegpceompaaN
import Derived.KernelRfl
set_option linter.unusedVariables false
set_option linter.unusedSimpArgs false
namespace Go.Proofs.Ytneoeegpceompaa.AM
open Go Go.Proofs
open Go.Proofs.Ytneoeegpceompaa.AM.K

def l_law36_AccountsBegin_0 : CC :=
   .seq ( .seq ( .region (o 33 (.mov (t 9)) :: o 34 (.bin .lss (t 33) (i 4)) :: []) [] []) ( .cond (t 34) ( .skip) ( .exit 0))) ( .seq ( .block 1 ( .seq ( .region (o 38 (.mov (t 6)) :: o 39 (.mov (t 7)) ::
  o 40 (.call (.func 15) [(t 38), (t 39)]) :: o 37 (.mov (t 40)) :: o 41 (.ext (t 37) 0) :: o 42 (.ext (t 37) 1) :: o 10 (.alloc 34 [(.int .i64 0), (.int .i64 0), (.int .i64 0)]) :: s (.store 3 (t 10) (t 41)) ::
  o 11 (.mov (t 42)) :: []) [] []) ( .seq ( .region (o 44 (.mov (t 6)) :: o 45 (.mov (t 7)) :: o 46 (.faddr 2 (t 10)) :: o 47 (.load false 1 (t 46)) :: o 48 (.bin .add (t 47) (i 2)) :: o 49 (.mov (t 8)) ::
  o 50 (.call (.func 16) [(t 44), (t 45), (t 48), (t 49)]) :: o 43 (.mov (t 50)) :: o 51 (.ext (t 43) 0) :: o 52 (.ext (t 43) 1) :: o 12 (.mov (t 51)) :: o 13 (.mov (t 52)) :: []) [] []) ( .seq ( .region (o 54 (.mov (t 6)) ::
  o 55 (.mov (t 7)) :: o 56 (.faddr 2 (t 10)) :: o 57 (.load false 1 (t 56)) :: o 58 (.mov (t 8)) :: o 59 (.call (.func 16) [(t 54), (t 55), (t 57), (t 58)]) :: o 53 (.mov (t 59)) :: o 60 (.ext (t 53) 0) ::
  o 61 (.ext (t 53) 1) :: o 14 (.mov (t 60)) :: o 15 (.mov (t 61)) :: []) [] []) ( .seq ( .region (o 63 (.mov (t 6)) :: o 64 (.mov (t 7)) :: o 65 (.faddr 2 (t 10)) :: o 66 (.load false 1 (t 65)) ::
  o 67 (.bin .add (t 66) (i 1)) :: o 68 (.mov (t 8)) :: o 69 (.call (.func 16) [(t 63), (t 64), (t 67), (t 68)]) :: o 62 (.mov (t 69)) :: o 70 (.ext (t 62) 0) :: o 71 (.ext (t 62) 1) :: o 16 (.mov (t 70)) ::
  o 17 (.mov (t 71)) :: []) [] []) ( .seq ( .seq ( .region (o 72 (.mov (t 11)) :: o 73 (.un .not (t 72)) :: o 74 (.mov (t 73)) :: g 75 (.mov (t 13)) 74 false :: g 76 (.bin .neq (t 75) (i 68)) 74 false ::
  o 77 (.pick (t 74) (b true) (t 76)) :: o 78 (.mov (t 77)) :: g 79 (.mov (t 15)) 78 false :: g 80 (.bin .neq (t 79) (i 68)) 78 false :: o 81 (.pick (t 78) (b true) (t 80)) :: []) [] []) ( .cond (t 81) ( .seq ( .region
  (o 4 (.mov (b false)) :: []) [] []) ( .ret)) ( .skip))) ( .seq ( .seq ( .region (o 82 (.mov (t 17)) :: o 83 (.bin .neq (t 82) (i 0)) :: []) [] []) ( .cond (t 83) ( .seq ( .region (o 84 (.mov (t 17)) ::
  o 85 (.bin .eql (t 84) (i 66)) :: o 86 (.mov (t 85)) :: g 87 (.faddr 1 (t 10)) 86 true :: g 88 (.load false 1 (t 87)) 86 true :: g 89 (.mov (t 8)) 86 true :: g 90 (.bin .lss (t 88) (t 89)) 86 true ::
  o 91 (.pick (t 86) (t 90) (b false)) :: o 92 (.mov (t 91)) :: g 93 (.call (.func 17) []) 92 true :: o 94 (.pick (t 92) (t 93) (b false)) :: o 4 (.mov (t 94)) :: []) [] []) ( .ret)) ( .skip))) ( .seq ( .region
  (o 96 (.mov (t 16)) :: o 97 (.mov (t 7)) :: o 98 (.call (.func 15) [(t 96), (t 97)]) :: o 95 (.mov (t 98)) :: o 99 (.ext (t 95) 0) :: o 100 (.ext (t 95) 1) :: o 18 (.alloc 34 [(.int .i64 0), (.int .i64 0), (.int .i64 0)]) ::
  s (.store 3 (t 18) (t 99)) :: o 19 (.mov (t 100)) :: []) [] []) ( .seq ( .seq ( .region (o 101 (.mov (t 19)) :: o 102 (.un .not (t 101)) :: o 103 (.mov (t 102)) :: g 104 (.faddr 1 (t 18)) 103 false ::
  g 105 (.load false 1 (t 104)) 103 false :: g 106 (.faddr 1 (t 10)) 103 false :: g 107 (.load false 1 (t 106)) 103 false :: g 108 (.mov (t 8)) 103 false :: g 109 (.bin .sub (t 107) (t 108)) 103 false ::
  g 110 (.bin .neq (t 105) (t 109)) 103 false :: o 111 (.pick (t 103) (b true) (t 110)) :: o 112 (.mov (t 111)) :: g 113 (.faddr 2 (t 18)) 112 false :: g 114 (.load false 1 (t 113)) 112 false ::
  g 115 (.faddr 2 (t 10)) 112 false :: g 116 (.load false 1 (t 115)) 112 false :: g 117 (.bin .add (t 116) (i 1)) 112 false :: g 118 (.bin .neq (t 114) (t 117)) 112 false :: o 119 (.pick (t 112) (b true) (t 118)) ::
  o 120 (.mov (t 119)) :: g 121 (.mov (t 16)) 120 false :: g 122 (.call (.func 18) [(t 121)]) 120 false :: g 123 (.mov (t 6)) 120 false :: g 124 (.call (.func 18) [(t 123)]) 120 false :: g 125 (.mov (t 8)) 120 false ::
  g 126 (.bin .sub (t 124) (t 125)) 120 false :: g 127 (.bin .neq (t 122) (t 126)) 120 false :: o 128 (.pick (t 120) (b true) (t 127)) :: []) [] []) ( .cond (t 128) ( .seq ( .region (o 4 (.mov (b false)) :: []) [] []) ( .ret)) (
  .skip))) ( .region (o 129 (.mov (t 16)) :: o 6 (.mov (t 129)) :: []) [] [])))))))))) ( .region (o 35 (.mov (t 9)) :: o 36 (.bin .add (t 35) (i 1)) :: o 9 (.mov (t 36)) :: []) [] []))
def c_law36_AccountsBegin : CC :=
  .seq ( .region (o 4 (.mov (b false)) :: []) [] []) ( .seq ( .region (o 20 (.mov (t 0)) :: o 21 (.call (.func 12) [(t 20)]) :: o 5 (.mov (t 21)) :: []) [] []) ( .seq ( .region (o 22 (.mov (t 5)) ::
  o 23 (.call (.func 13) [(t 22)]) :: o 24 (.field false 1 1 (t 23)) :: o 6 (.mov (t 24)) :: []) [] []) ( .seq ( .region (o 25 (.mov (t 5)) :: o 26 (.mov (t 6)) :: o 27 (.len (t 26)) ::
  o 28 (.call (.func 14) [(t 25), (i 1), (t 27)]) :: o 29 (.mov (t 1)) :: o 30 (.conv .i64 (t 29)) :: o 31 (.bin .rem (t 30) (i 30)) :: o 32 (.bin .add (i 1) (t 31)) :: o 7 (.mov (t 28)) :: o 8 (.mov (t 32)) :: []) [] []) (
  .seq ( .seq ( .region (o 9 (.mov (i 0)) :: []) [] []) ( .block 0 ( .loop l_law36_AccountsBegin_0))) ( .seq ( .region (o 130 (.call (.func 17) []) :: o 4 (.mov (t 130)) :: []) [] []) ( .ret))))))
theorem i_law36_AccountsBegin : Fn PP n_law36_AccountsBegin c_law36_AccountsBegin 131 [.t 4] := ⟨Try.f3, Try.func3, ⟨_, rfl, by kernel_rfl⟩, by kernel_rfl, by kernel_rfl, Try.ntmps3⟩

def l_law37_TrustlinesRoom_0 : CC :=
   .seq ( .region (o 18 (.bin .lss (t 17) (t 16)) :: []) [] []) ( .seq ( .cond (t 18) ( .skip) ( .exit 0)) ( .seq ( .block 1 ( .seq ( .region (o 19 (.iaddr 5 (t 15) (t 17)) :: o 20 (.load true 5 (t 19)) ::
  o 6 (.alloc 46 [(.int .i64 0), (.string ⟨#[]⟩), (.int .i64 0), (.int .i64 0), (.int .i64 0)]) :: s (.store 5 (t 6) (t 20)) :: []) [] []) ( .seq ( .region (o 21 (.load true 7 (t 4)) :: o 22 (.faddr 0 (t 6)) ::
  o 23 (.load false 1 (t 22)) :: o 24 (.faddr 1 (t 6)) :: o 25 (.load true 2 (t 24)) :: o 26 (.call (.func 19) [(t 21), (t 23), (t 25)]) :: o 27 (.load true 7 (t 4)) :: o 28 (.faddr 0 (t 6)) :: o 29 (.load false 1 (t 28)) ::
  o 30 (.faddr 1 (t 6)) :: o 31 (.load true 2 (t 30)) :: o 32 (.call (.func 20) [(t 27), (t 29), (t 31)]) :: o 33 (.bin .add (t 26) (t 32)) :: o 34 (.faddr 4 (t 6)) :: o 35 (.load false 1 (t 34)) ::
  o 36 (.bin .neq (t 33) (t 35)) :: []) [(5, 6), (5, 8), (5, 10), (5, 14), (11, 14)] []) ( .cond (t 36) ( .seq ( .region (o 2 (.mov (b false)) :: []) [] []) ( .ret)) ( .skip))))) ( .region (o 37 (.bin .add (t 17) (i 1)) ::
  o 17 (.mov (t 37)) :: []) [] [])))
def l_law37_TrustlinesRoom_1 : CC :=
   .seq ( .region (o 42 (.bin .lss (t 41) (t 40)) :: []) [] []) ( .seq ( .cond (t 42) ( .skip) ( .exit 2)) ( .seq ( .block 3 ( .seq ( .region (o 43 (.iaddr 3 (t 39) (t 41)) :: o 44 (.load true 3 (t 43)) ::
  o 8 (.alloc 34 [(.int .i64 0), (.int .i64 0), (.int .i64 0)]) :: s (.store 3 (t 8) (t 44)) :: []) [] []) ( .seq ( .region (o 45 (.load true 7 (t 4)) :: o 46 (.faddr 0 (t 8)) :: o 47 (.load false 1 (t 46)) ::
  o 48 (.build [(.string ⟨#[]⟩), (.int .i64 0)] []) :: o 49 (.call (.func 19) [(t 45), (t 47), (t 48)]) :: o 50 (.faddr 1 (t 8)) :: o 51 (.load false 1 (t 50)) :: o 52 (.bin .neq (t 49) (t 51)) :: o 53 (.mov (t 52)) ::
  g 54 (.load true 7 (t 4)) 53 false :: g 55 (.faddr 0 (t 8)) 53 false :: g 56 (.load false 1 (t 55)) 53 false :: g 57 (.build [(.string ⟨#[]⟩), (.int .i64 0)] []) 53 false ::
  g 58 (.call (.func 20) [(t 54), (t 56), (t 57)]) 53 false :: g 59 (.faddr 1 (t 8)) 53 false :: g 60 (.load false 1 (t 59)) 53 false :: g 61 (.bin .add (t 58) (t 60)) 53 false ::
  g 62 (.bin .neq (t 61) (i 1000000000000)) 53 false :: o 63 (.pick (t 53) (b true) (t 62)) :: []) [(4, 6), (13, 15)] []) ( .cond (t 63) ( .seq ( .region (o 2 (.mov (b false)) :: []) [] []) ( .ret)) ( .skip))))) ( .region
  (o 64 (.bin .add (t 41) (i 1)) :: o 41 (.mov (t 64)) :: []) [] [])))
def c_law37_TrustlinesRoom : CC :=
  .seq ( .region (o 2 (.mov (b false)) :: []) [] []) ( .seq ( .region (o 10 (.mov (t 0)) :: o 11 (.call (.func 12) [(t 10)]) :: o 3 (.mov (t 11)) :: []) [] []) ( .seq ( .region (o 12 (.mov (t 3)) ::
  o 13 (.call (.func 13) [(t 12)]) :: o 4 (.alloc 30 [(.int .i64 0), (.slice none 0 0), (.slice none 0 0), (.slice none 0 0), (.int .i64 0), (.int .i64 0), (.int .u64 0)]) :: s (.store 7 (t 4) (t 13)) :: []) [] []) ( .seq (
  .seq ( .region (o 14 (.faddr 2 (t 4)) :: o 15 (.load false 1 (t 14)) :: o 16 (.len (t 15)) :: o 17 (.mov (i 0)) :: []) [] []) ( .block 0 ( .loop l_law37_TrustlinesRoom_0))) ( .seq ( .seq ( .region (o 38 (.faddr 1 (t 4)) ::
  o 39 (.load false 1 (t 38)) :: o 40 (.len (t 39)) :: o 41 (.mov (i 0)) :: []) [] []) ( .block 2 ( .loop l_law37_TrustlinesRoom_1))) ( .seq ( .region (o 65 (.load true 7 (t 4)) :: o 66 (.call (.func 21) []) ::
  o 67 (.call (.func 20) [(t 65), (i 1), (t 66)]) :: o 9 (.mov (t 67)) :: []) [(0, 1)] []) ( .seq ( .region (o 68 (.mov (t 9)) :: o 69 (.bin .eql (t 68) (i 1000000000000)) :: o 70 (.mov (t 69)) ::
  g 71 (.load true 7 (t 4)) 70 true :: g 72 (.call (.func 21) []) 70 true :: g 73 (.call (.func 20) [(t 71), (i 999), (t 72)]) 70 true :: g 74 (.bin .eql (t 73) (i 0)) 70 true :: o 75 (.pick (t 70) (t 74) (b false)) ::
  o 76 (.mov (t 75)) :: g 77 (.call (.func 22) []) 76 true :: o 78 (.pick (t 76) (t 77) (b false)) :: o 2 (.mov (t 78)) :: []) [(3, 4)] []) ( .ret)))))))
theorem i_law37_TrustlinesRoom : Fn PP n_law37_TrustlinesRoom c_law37_TrustlinesRoom 79 [.t 2] := ⟨Try.f4, Try.func4, ⟨_, rfl, by kernel_rfl⟩, by kernel_rfl, by kernel_rfl, Try.ntmps4⟩

def c_law37_TrustlinesKeep : CC :=
  .seq ( .region (o 4 (.mov (b false)) :: []) [] []) ( .seq ( .region (o 19 (.mov (t 0)) :: o 20 (.call (.func 12) [(t 19)]) :: o 5 (.mov (t 20)) :: []) [] []) ( .seq ( .region (o 21 (.mov (t 5)) ::
  o 22 (.call (.func 13) [(t 21)]) :: o 6 (.alloc 30 [(.int .i64 0), (.slice none 0 0), (.slice none 0 0), (.slice none 0 0), (.int .i64 0), (.int .i64 0), (.int .u64 0)]) :: s (.store 7 (t 6) (t 22)) :: []) [] []) ( .seq (
  .region (o 23 (.mov (t 5)) :: o 24 (.faddr 1 (t 6)) :: o 25 (.load false 1 (t 24)) :: o 26 (.len (t 25)) :: o 27 (.call (.func 14) [(t 23), (i 1), (t 26)]) :: o 28 (.mov (t 5)) :: o 29 (.call (.func 23) [(t 28)]) ::
  o 30 (.mov (t 1)) :: o 31 (.conv .i64 (t 30)) :: o 32 (.bin .rem (t 31) (i 700)) :: o 8 (.alloc 44 [(.string ⟨#[]⟩), (.int .i64 0)]) :: o 7 (.mov (t 27)) :: s (.store 2 (t 8) (t 29)) :: o 9 (.mov (t 32)) :: []) [] []) ( .seq (
  .region (o 34 (.load true 7 (t 6)) :: o 35 (.mov (t 7)) :: o 36 (.load true 2 (t 8)) :: o 37 (.mov (t 9)) :: o 38 (.call (.func 24) [(t 34), (t 35), (t 36), (t 37)]) :: o 33 (.mov (t 38)) :: o 39 (.ext (t 33) 0) ::
  o 40 (.ext (t 33) 1) :: o 10 (.alloc 30 [(.int .i64 0), (.slice none 0 0), (.slice none 0 0), (.slice none 0 0), (.int .i64 0), (.int .i64 0), (.int .u64 0)]) :: s (.store 7 (t 10) (t 39)) :: o 11 (.mov (t 40)) :: []) [] []) (
  .seq ( .region (o 42 (.faddr 2 (t 6)) :: o 43 (.load false 1 (t 42)) :: o 44 (.mov (t 7)) :: o 45 (.load true 2 (t 8)) :: o 46 (.call (.func 25) [(t 43), (t 44), (t 45)]) :: o 41 (.mov (t 46)) :: o 47 (.ext (t 41) 0) ::
  o 48 (.ext (t 41) 1) :: o 12 (.alloc 46 [(.int .i64 0), (.string ⟨#[]⟩), (.int .i64 0), (.int .i64 0), (.int .i64 0)]) :: s (.store 5 (t 12) (t 47)) :: o 13 (.mov (t 48)) :: []) [] []) ( .seq ( .region (o 49 (.faddr 1 (t 8)) ::
  o 50 (.load false 1 (t 49)) :: o 51 (.mov (t 7)) :: o 52 (.bin .eql (t 50) (t 51)) :: o 14 (.mov (t 52)) :: []) [] []) ( .seq ( .seq ( .region (o 53 (.mov (t 11)) :: o 54 (.bin .eql (t 53) (i 0)) :: o 55 (.mov (t 9)) ::
  o 56 (.load true 7 (t 6)) :: o 57 (.mov (t 7)) :: o 58 (.load true 2 (t 8)) :: o 59 (.call (.func 20) [(t 56), (t 57), (t 58)]) :: o 60 (.bin .leq (t 55) (t 59)) :: o 61 (.mov (t 60)) :: g 62 (.mov (t 13)) 61 true ::
  g 63 (.mov (t 62)) 61 true :: g 64 (.mov (t 14)) 63 false :: g 65 (.pick (t 63) (b true) (t 64)) 61 true :: g 66 (.mov (t 65)) 61 true :: g 67 (.load true 2 (t 8)) 66 false ::
  g 68 (.build [(.string ⟨#[]⟩), (.int .i64 0)] []) 66 false :: g 69 (.eqs false [(0, true), (1, false)] (t 67) (t 68)) 66 false :: g 70 (.pick (t 66) (b true) (t 69)) 61 true :: o 71 (.pick (t 61) (t 70) (b false)) ::
  o 72 (.beq true (t 54) (t 71)) :: []) [] []) ( .cond (t 72) ( .seq ( .region (o 4 (.mov (b false)) :: []) [] []) ( .ret)) ( .skip))) ( .seq ( .region (o 74 (.load true 7 (t 6)) :: o 75 (.mov (t 7)) ::
  o 76 (.load true 2 (t 8)) :: o 77 (.mov (t 9)) :: o 78 (.call (.func 26) [(t 74), (t 75), (t 76), (t 77)]) :: o 73 (.mov (t 78)) :: o 79 (.ext (t 73) 0) :: o 80 (.ext (t 73) 1) ::
  o 15 (.alloc 30 [(.int .i64 0), (.slice none 0 0), (.slice none 0 0), (.slice none 0 0), (.int .i64 0), (.int .i64 0), (.int .u64 0)]) :: s (.store 7 (t 15) (t 79)) :: o 16 (.mov (t 80)) :: []) [] []) ( .seq ( .seq ( .region
  (o 81 (.mov (t 16)) :: o 82 (.bin .eql (t 81) (i 0)) :: o 83 (.mov (t 9)) :: o 84 (.load true 7 (t 6)) :: o 85 (.mov (t 7)) :: o 86 (.load true 2 (t 8)) :: o 87 (.call (.func 19) [(t 84), (t 85), (t 86)]) ::
  o 88 (.bin .leq (t 83) (t 87)) :: o 89 (.mov (t 88)) :: g 90 (.mov (t 13)) 89 true :: g 91 (.mov (t 90)) 89 true :: g 92 (.mov (t 14)) 91 false :: g 93 (.pick (t 91) (b true) (t 92)) 89 true :: g 94 (.mov (t 93)) 89 true ::
  g 95 (.load true 2 (t 8)) 94 false :: g 96 (.build [(.string ⟨#[]⟩), (.int .i64 0)] []) 94 false :: g 97 (.eqs false [(0, true), (1, false)] (t 95) (t 96)) 94 false :: g 98 (.pick (t 94) (b true) (t 97)) 89 true ::
  o 99 (.pick (t 89) (t 98) (b false)) :: o 100 (.beq true (t 82) (t 99)) :: []) [] []) ( .cond (t 100) ( .seq ( .region (o 4 (.mov (b false)) :: []) [] []) ( .ret)) ( .skip))) ( .seq ( .seq ( .region (o 101 (.mov (t 11)) ::
  o 102 (.bin .eql (t 101) (i 0)) :: []) [] []) ( .cond (t 102) ( .seq ( .region (o 104 (.load true 7 (t 10)) :: o 105 (.mov (t 7)) :: o 106 (.load true 2 (t 8)) :: o 107 (.mov (t 9)) ::
  o 108 (.call (.func 26) [(t 104), (t 105), (t 106), (t 107)]) :: o 103 (.mov (t 108)) :: o 109 (.ext (t 103) 0) :: o 110 (.ext (t 103) 1) ::
  o 17 (.alloc 30 [(.int .i64 0), (.slice none 0 0), (.slice none 0 0), (.slice none 0 0), (.int .i64 0), (.int .i64 0), (.int .u64 0)]) :: s (.store 7 (t 17) (t 109)) :: o 18 (.mov (t 110)) :: []) [] []) ( .seq ( .seq ( .region
  (o 111 (.mov (t 18)) :: o 112 (.bin .neq (t 111) (i 0)) :: o 113 (.mov (t 112)) :: g 114 (.load true 7 (t 17)) 113 false :: g 115 (.load true 7 (t 6)) 113 false :: g 116 (.call (.func 27) [(t 114), (t 115)]) 113 false ::
  g 117 (.un .not (t 116)) 113 false :: o 118 (.pick (t 113) (b true) (t 117)) :: o 119 (.mov (t 118)) :: g 120 (.faddr 2 (t 10)) 119 false :: g 121 (.load false 1 (t 120)) 119 false :: g 122 (.faddr 1 (t 10)) 119 false ::
  g 123 (.load false 1 (t 122)) 119 false :: g 124 (.call (.func 28) [(t 121), (t 123)]) 119 false :: g 125 (.bin .neq (t 124) (i 0)) 119 false :: o 126 (.pick (t 119) (b true) (t 125)) :: []) [] []) ( .cond (t 126) ( .seq (
  .region (o 4 (.mov (b false)) :: []) [] []) ( .ret)) ( .skip))) ( .seq ( .region (o 127 (.mov (t 13)) :: o 128 (.mov (t 127)) :: g 129 (.faddr 2 (t 10)) 128 true :: g 130 (.load false 1 (t 129)) 128 true ::
  g 131 (.load true 2 (t 8)) 128 true :: g 132 (.call (.func 29) [(t 130), (t 131)]) 128 true :: g 133 (.faddr 2 (t 6)) 128 true :: g 134 (.load false 1 (t 133)) 128 true :: g 135 (.load true 2 (t 8)) 128 true ::
  g 136 (.call (.func 29) [(t 134), (t 135)]) 128 true :: g 137 (.mov (t 9)) 128 true :: g 138 (.bin .add (t 136) (t 137)) 128 true :: g 139 (.bin .neq (t 132) (t 138)) 128 true :: o 140 (.pick (t 128) (t 139) (b false)) ::
  o 141 (.mov (t 140)) :: g 142 (.mov (t 13)) 141 false :: g 143 (.mov (t 142)) 141 false :: g 144 (.load true 7 (t 10)) 143 true :: g 145 (.mov (t 7)) 143 true :: g 146 (.load true 2 (t 8)) 143 true ::
  g 147 (.call (.func 19) [(t 144), (t 145), (t 146)]) 143 true :: g 148 (.load true 7 (t 6)) 143 true :: g 149 (.mov (t 7)) 143 true :: g 150 (.load true 2 (t 8)) 143 true ::
  g 151 (.call (.func 19) [(t 148), (t 149), (t 150)]) 143 true :: g 152 (.mov (t 9)) 143 true :: g 153 (.bin .add (t 151) (t 152)) 143 true :: g 154 (.bin .neq (t 147) (t 153)) 143 true ::
  g 155 (.pick (t 143) (t 154) (b false)) 141 false :: o 156 (.pick (t 141) (b true) (t 155)) :: []) [(5, 7), (5, 8), (20, 21), (20, 23)] []) ( .cond (t 156) ( .seq ( .region (o 4 (.mov (b false)) :: []) [] []) ( .ret)) (
  .skip))))) ( .skip))) ( .seq ( .region (o 157 (.mov (t 16)) :: o 158 (.bin .neq (t 157) (i 0)) :: o 159 (.mov (t 158)) :: g 160 (.mov (t 13)) 159 false :: g 161 (.un .not (t 160)) 159 false ::
  o 162 (.pick (t 159) (b true) (t 161)) :: o 163 (.mov (t 162)) :: g 164 (.faddr 2 (t 15)) 163 false :: g 165 (.load false 1 (t 164)) 163 false :: g 166 (.load true 2 (t 8)) 163 false ::
  g 167 (.call (.func 29) [(t 165), (t 166)]) 163 false :: g 168 (.faddr 2 (t 6)) 163 false :: g 169 (.load false 1 (t 168)) 163 false :: g 170 (.load true 2 (t 8)) 163 false ::
  g 171 (.call (.func 29) [(t 169), (t 170)]) 163 false :: g 172 (.mov (t 9)) 163 false :: g 173 (.bin .sub (t 171) (t 172)) 163 false :: g 174 (.bin .eql (t 167) (t 173)) 163 false :: o 175 (.pick (t 163) (b true) (t 174)) ::
  o 176 (.mov (t 175)) :: g 177 (.call (.func 22) []) 176 true :: o 178 (.pick (t 176) (t 177) (b false)) :: o 4 (.mov (t 178)) :: []) [(10, 12), (10, 13)] []) ( .ret))))))))))))
theorem i_law37_TrustlinesKeep : Fn PP n_law37_TrustlinesKeep c_law37_TrustlinesKeep 179 [.t 4] := ⟨Try.f5, Try.func5, ⟨_, rfl, by kernel_rfl⟩, by kernel_rfl, by kernel_rfl, Try.ntmps5⟩

def c_law37_TrustlinesMove : CC :=
  .seq ( .region (o 4 (.mov (b false)) :: []) [] []) ( .seq ( .region (o 16 (.mov (t 0)) :: o 17 (.call (.func 12) [(t 16)]) :: o 5 (.mov (t 17)) :: []) [] []) ( .seq ( .region (o 18 (.mov (t 5)) ::
  o 19 (.call (.func 13) [(t 18)]) :: o 6 (.alloc 30 [(.int .i64 0), (.slice none 0 0), (.slice none 0 0), (.slice none 0 0), (.int .i64 0), (.int .i64 0), (.int .u64 0)]) :: s (.store 7 (t 6) (t 19)) :: []) [] []) ( .seq (
  .region (o 20 (.call (.func 21) []) :: o 21 (.call (.func 30) []) :: o 22 (.bslice 44 2 2 [(.string ⟨#[]⟩), (.int .i64 0)] [(0, (t 20)), (1, (t 21))]) :: o 23 (.mov (t 5)) :: o 24 (.call (.func 31) [(t 23), (i 2)]) ::
  o 25 (.iaddr 2 (t 22) (t 24)) :: o 26 (.load true 2 (t 25)) :: o 7 (.alloc 44 [(.string ⟨#[]⟩), (.int .i64 0)]) :: s (.store 2 (t 7) (t 26)) :: []) [] []) ( .seq ( .region (o 27 (.mov (t 5)) :: o 28 (.faddr 1 (t 6)) ::
  o 29 (.load false 1 (t 28)) :: o 30 (.len (t 29)) :: o 31 (.call (.func 14) [(t 27), (i 1), (t 30)]) :: o 32 (.mov (t 5)) :: o 33 (.faddr 1 (t 6)) :: o 34 (.load false 1 (t 33)) :: o 35 (.len (t 34)) ::
  o 36 (.call (.func 14) [(t 32), (i 1), (t 35)]) :: o 37 (.mov (t 1)) :: o 38 (.conv .i64 (t 37)) :: o 39 (.bin .rem (t 38) (i 300)) :: o 8 (.mov (t 31)) :: o 9 (.mov (t 36)) :: o 10 (.mov (t 39)) :: []) [(4, 7)] []) ( .seq (
  .region (o 41 (.load true 7 (t 6)) :: o 42 (.mov (t 8)) :: o 43 (.load true 2 (t 7)) :: o 44 (.mov (t 10)) :: o 45 (.call (.func 26) [(t 41), (t 42), (t 43), (t 44)]) :: o 40 (.mov (t 45)) :: o 46 (.ext (t 40) 0) ::
  o 47 (.ext (t 40) 1) :: o 11 (.alloc 30 [(.int .i64 0), (.slice none 0 0), (.slice none 0 0), (.slice none 0 0), (.int .i64 0), (.int .i64 0), (.int .u64 0)]) :: s (.store 7 (t 11) (t 46)) :: o 12 (.mov (t 47)) :: []) [] []) (
  .seq ( .seq ( .region (o 48 (.mov (t 12)) :: o 49 (.bin .neq (t 48) (i 0)) :: []) [] []) ( .cond (t 49) ( .seq ( .region (o 50 (.faddr 2 (t 11)) :: o 51 (.load false 1 (t 50)) :: o 52 (.load true 2 (t 7)) ::
  o 53 (.call (.func 29) [(t 51), (t 52)]) :: o 54 (.bin .eql (t 53) (i 0)) :: o 55 (.mov (t 54)) :: g 56 (.call (.func 22) []) 55 true :: o 57 (.pick (t 55) (t 56) (b false)) :: o 4 (.mov (t 57)) :: []) [] []) ( .ret)) (
  .skip))) ( .seq ( .region (o 59 (.load true 7 (t 11)) :: o 60 (.mov (t 9)) :: o 61 (.load true 2 (t 7)) :: o 62 (.mov (t 10)) :: o 63 (.call (.func 24) [(t 59), (t 60), (t 61), (t 62)]) :: o 58 (.mov (t 63)) ::
  o 64 (.ext (t 58) 0) :: o 65 (.ext (t 58) 1) :: o 13 (.alloc 30 [(.int .i64 0), (.slice none 0 0), (.slice none 0 0), (.slice none 0 0), (.int .i64 0), (.int .i64 0), (.int .u64 0)]) :: s (.store 7 (t 13) (t 64)) ::
  o 14 (.mov (t 65)) :: []) [] []) ( .seq ( .seq ( .region (o 66 (.mov (t 14)) :: o 67 (.bin .neq (t 66) (i 0)) :: []) [] []) ( .cond (t 67) ( .seq ( .region (o 68 (.mov (t 14)) :: o 69 (.bin .eql (t 68) (i 70)) ::
  o 70 (.mov (t 69)) :: g 71 (.call (.func 22) []) 70 true :: o 72 (.pick (t 70) (t 71) (b false)) :: o 4 (.mov (t 72)) :: []) [] []) ( .ret)) ( .skip))) ( .seq ( .region (o 15 (.mov (i 0)) :: []) [] []) ( .seq ( .seq ( .region
  (o 73 (.mov (t 8)) :: o 74 (.faddr 1 (t 7)) :: o 75 (.load false 1 (t 74)) :: o 76 (.bin .eql (t 73) (t 75)) :: []) [] []) ( .cond (t 76) ( .region (o 77 (.mov (t 15)) :: o 78 (.mov (t 10)) :: o 79 (.bin .add (t 77) (t 78)) ::
  o 15 (.mov (t 79)) :: []) [] []) ( .skip))) ( .seq ( .seq ( .region (o 80 (.mov (t 9)) :: o 81 (.faddr 1 (t 7)) :: o 82 (.load false 1 (t 81)) :: o 83 (.bin .eql (t 80) (t 82)) :: []) [] []) ( .cond (t 83) ( .region
  (o 84 (.mov (t 15)) :: o 85 (.mov (t 10)) :: o 86 (.bin .sub (t 84) (t 85)) :: o 15 (.mov (t 86)) :: []) [] []) ( .skip))) ( .seq ( .region (o 87 (.faddr 2 (t 13)) :: o 88 (.load false 1 (t 87)) :: o 89 (.load true 2 (t 7)) ::
  o 90 (.call (.func 29) [(t 88), (t 89)]) :: o 91 (.faddr 2 (t 6)) :: o 92 (.load false 1 (t 91)) :: o 93 (.load true 2 (t 7)) :: o 94 (.call (.func 29) [(t 92), (t 93)]) :: o 95 (.mov (t 15)) ::
  o 96 (.bin .add (t 94) (t 95)) :: o 97 (.bin .eql (t 90) (t 96)) :: o 98 (.mov (t 97)) :: g 99 (.faddr 2 (t 13)) 98 true :: g 100 (.load false 1 (t 99)) 98 true :: g 101 (.faddr 1 (t 13)) 98 true ::
  g 102 (.load false 1 (t 101)) 98 true :: g 103 (.call (.func 28) [(t 100), (t 102)]) 98 true :: g 104 (.bin .eql (t 103) (i 0)) 98 true :: o 105 (.pick (t 98) (t 104) (b false)) :: o 106 (.mov (t 105)) ::
  g 107 (.call (.func 22) []) 106 true :: o 108 (.pick (t 106) (t 107) (b false)) :: o 4 (.mov (t 108)) :: []) [(3, 5), (3, 6)] []) ( .ret)))))))))))))
theorem i_law37_TrustlinesMove : Fn PP n_law37_TrustlinesMove c_law37_TrustlinesMove 109 [.t 4] := ⟨Try.f6, Try.func6, ⟨_, rfl, by kernel_rfl⟩, by kernel_rfl, by kernel_rfl, Try.ntmps6⟩

def l_law36_AccountsOrder_0 : CC :=
   .seq ( .region (o 50 (.bin .lss (t 49) (t 48)) :: []) [] []) ( .seq ( .cond (t 50) ( .skip) ( .exit 0)) ( .seq ( .block 1 ( .seq ( .region (o 51 (.mov (t 49)) :: o 52 (.iaddr 3 (t 47) (t 49)) :: o 53 (.load true 3 (t 52)) ::
  o 13 (.alloc 34 [(.int .i64 0), (.int .i64 0), (.int .i64 0)]) :: o 12 (.mov (t 51)) :: s (.store 3 (t 13) (t 53)) :: []) [] []) ( .seq ( .seq ( .region (o 54 (.mov (t 12)) :: o 55 (.bin .gtr (t 54) (i 0)) ::
  o 56 (.mov (t 55)) :: g 57 (.mov (t 8)) 56 true :: g 58 (.mov (t 12)) 56 true :: g 59 (.bin .sub (t 58) (i 1)) 56 true :: g 60 (.iaddr 3 (t 57) (t 59)) 56 true :: g 61 (.faddr 0 (t 60)) 56 true ::
  g 62 (.load false 1 (t 61)) 56 true :: g 63 (.faddr 0 (t 13)) 56 true :: g 64 (.load false 1 (t 63)) 56 true :: g 65 (.bin .geq (t 62) (t 64)) 56 true :: o 66 (.pick (t 56) (t 65) (b false)) :: []) [] []) ( .cond (t 66) (
  .seq ( .region (o 4 (.mov (b false)) :: []) [] []) ( .ret)) ( .skip))) ( .seq ( .region (o 68 (.mov (t 6)) :: o 69 (.faddr 0 (t 13)) :: o 70 (.load false 1 (t 69)) :: o 71 (.call (.func 15) [(t 68), (t 70)]) ::
  o 67 (.mov (t 71)) :: o 72 (.ext (t 67) 0) :: o 73 (.ext (t 67) 1) :: o 14 (.alloc 34 [(.int .i64 0), (.int .i64 0), (.int .i64 0)]) :: s (.store 3 (t 14) (t 72)) :: o 15 (.mov (t 73)) :: []) [] []) ( .seq ( .region
  (o 74 (.mov (t 15)) :: o 75 (.mov (t 74)) :: g 76 (.load true 3 (t 14)) 75 true :: g 77 (.load true 3 (t 13)) 75 true :: g 78 (.eqs true [(0, false), (1, false), (2, false)] (t 76) (t 77)) 75 true ::
  o 79 (.pick (t 75) (t 78) (b false)) :: o 80 (.mov (t 79)) :: g 81 (.mov (t 15)) 80 false :: g 82 (.un .not (t 81)) 80 false :: g 83 (.mov (t 82)) 80 false :: g 84 (.faddr 0 (t 13)) 83 true ::
  g 85 (.load false 1 (t 84)) 83 true :: g 86 (.mov (t 7)) 83 true :: g 87 (.bin .neq (t 85) (t 86)) 83 true :: g 88 (.mov (t 87)) 83 true :: g 89 (.faddr 1 (t 13)) 88 false :: g 90 (.load false 1 (t 89)) 88 false ::
  g 91 (.bin .neq (t 90) (i 7)) 88 false :: g 92 (.pick (t 88) (b true) (t 91)) 83 true :: g 93 (.mov (t 92)) 83 true :: g 94 (.faddr 2 (t 13)) 93 false :: g 95 (.load false 1 (t 94)) 93 false ::
  g 96 (.bin .neq (t 95) (i 0)) 93 false :: g 97 (.pick (t 93) (b true) (t 96)) 83 true :: g 98 (.pick (t 83) (t 97) (b false)) 80 false :: o 99 (.pick (t 80) (b true) (t 98)) :: []) [] []) ( .cond (t 99) ( .seq ( .region
  (o 4 (.mov (b false)) :: []) [] []) ( .ret)) ( .skip))))))) ( .region (o 100 (.bin .add (t 49) (i 1)) :: o 49 (.mov (t 100)) :: []) [] [])))
def c_law36_AccountsOrder : CC :=
  .seq ( .region (o 4 (.mov (b false)) :: []) [] []) ( .seq ( .region (o 16 (.mov (t 0)) :: o 17 (.call (.func 12) [(t 16)]) :: o 5 (.mov (t 17)) :: []) [] []) ( .seq ( .region (o 18 (.mov (t 5)) ::
  o 19 (.call (.func 13) [(t 18)]) :: o 20 (.field false 1 1 (t 19)) :: o 6 (.mov (t 20)) :: []) [] []) ( .seq ( .region (o 21 (.mov (t 1)) :: o 22 (.conv .i64 (t 21)) :: o 23 (.bin .rem (t 22) (i 1000)) ::
  o 24 (.bin .add (i 1) (t 23)) :: o 7 (.mov (t 24)) :: []) [] []) ( .seq ( .region (o 26 (.mov (t 6)) :: o 27 (.mov (t 7)) :: o 28 (.call (.func 32) [(t 26), (t 27), (i 7)]) :: o 25 (.mov (t 28)) :: o 29 (.ext (t 25) 0) ::
  o 30 (.ext (t 25) 1) :: o 8 (.mov (t 29)) :: o 9 (.mov (t 30)) :: []) [] []) ( .seq ( .region (o 32 (.mov (t 6)) :: o 33 (.mov (t 7)) :: o 34 (.call (.func 15) [(t 32), (t 33)]) :: o 31 (.mov (t 34)) :: o 35 (.ext (t 31) 0) ::
  o 36 (.ext (t 31) 1) :: o 10 (.alloc 34 [(.int .i64 0), (.int .i64 0), (.int .i64 0)]) :: s (.store 3 (t 10) (t 35)) :: o 11 (.mov (t 36)) :: []) [] []) ( .seq ( .seq ( .region (o 37 (.mov (t 9)) ::
  o 38 (.bin .neq (t 37) (i 0)) :: []) [] []) ( .cond (t 38) ( .seq ( .region (o 39 (.mov (t 9)) :: o 40 (.bin .eql (t 39) (i 67)) :: o 41 (.mov (t 40)) :: g 42 (.mov (t 11)) 41 true :: o 43 (.pick (t 41) (t 42) (b false)) ::
  o 44 (.mov (t 43)) :: g 45 (.call (.func 17) []) 44 true :: o 46 (.pick (t 44) (t 45) (b false)) :: o 4 (.mov (t 46)) :: []) [] []) ( .ret)) ( .skip))) ( .seq ( .seq ( .region (o 47 (.mov (t 8)) :: o 48 (.len (t 47)) ::
  o 49 (.mov (i 0)) :: []) [] []) ( .block 0 ( .loop l_law36_AccountsOrder_0))) ( .seq ( .region (o 101 (.mov (t 11)) :: o 102 (.un .not (t 101)) :: o 103 (.mov (t 102)) :: g 104 (.mov (t 8)) 103 true ::
  g 105 (.len (t 104)) 103 true :: g 106 (.mov (t 6)) 103 true :: g 107 (.len (t 106)) 103 true :: g 108 (.bin .add (t 107) (i 1)) 103 true :: g 109 (.bin .eql (t 105) (t 108)) 103 true ::
  o 110 (.pick (t 103) (t 109) (b false)) :: o 111 (.mov (t 110)) :: g 112 (.call (.func 17) []) 111 true :: o 113 (.pick (t 111) (t 112) (b false)) :: o 4 (.mov (t 113)) :: []) [] []) ( .ret)))))))))
theorem i_law36_AccountsOrder : Fn PP n_law36_AccountsOrder c_law36_AccountsOrder 114 [.t 4] := ⟨Try.f7, Try.func7, ⟨_, rfl, by kernel_rfl⟩, by kernel_rfl, by kernel_rfl, Try.ntmps7⟩

def l_law36_AccountsExact_0 : CC :=
   .seq ( .region (o 182 (.bin .lss (t 181) (i 3)) :: []) [] []) ( .seq ( .cond (t 182) ( .skip) ( .exit 6)) ( .seq ( .block 7 ( .seq ( .region (o 183 (.aindex false 1 1 3 (t 180) (t 181)) :: o 28 (.mov (t 183)) :: []) [] []) (
  .seq ( .region (o 185 (.mov (t 14)) :: o 186 (.mov (t 16)) :: o 187 (.mov (t 28)) :: o 188 (.mov (t 18)) :: o 189 (.call (.func 16) [(t 185), (t 186), (t 187), (t 188)]) :: o 184 (.mov (t 189)) :: o 190 (.ext (t 184) 0) ::
  o 191 (.ext (t 184) 1) :: o 23 (.mov (t 190)) :: o 24 (.mov (t 191)) :: []) [] []) ( .seq ( .region (o 193 (.mov (t 14)) :: o 194 (.mov (t 16)) :: o 195 (.mov (t 28)) :: o 196 (.mov (t 18)) ::
  o 197 (.call (.func 44) [(t 193), (t 194), (t 195), (t 196)]) :: o 192 (.mov (t 197)) :: o 198 (.ext (t 192) 0) :: o 199 (.ext (t 192) 1) :: o 25 (.mov (t 198)) :: o 26 (.mov (t 199)) :: []) [] []) ( .seq ( .region
  (o 200 (.mov (t 23)) :: o 201 (.mov (t 25)) :: o 202 (.call (.func 39) [(t 200), (t 201)]) :: o 203 (.un .not (t 202)) :: o 204 (.mov (t 203)) :: g 205 (.mov (t 24)) 204 false :: g 206 (.mov (t 26)) 204 false ::
  g 207 (.bin .neq (t 205) (t 206)) 204 false :: o 208 (.pick (t 204) (b true) (t 207)) :: []) [] []) ( .cond (t 208) ( .seq ( .region (o 10 (.mov (b false)) :: []) [] []) ( .ret)) ( .skip))))))) ( .region
  (o 209 (.bin .add (t 181) (i 1)) :: o 181 (.mov (t 209)) :: []) [] [])))
def l_law36_AccountsExact_1 : CC :=
   .seq ( .region (o 81 (.bin .lss (t 80) (i 3)) :: []) [] []) ( .seq ( .cond (t 81) ( .skip) ( .exit 4)) ( .seq ( .block 5 ( .seq ( .region (o 82 (.aindex false 1 1 3 (t 79) (t 80)) :: o 18 (.mov (t 82)) :: []) [] []) ( .seq (
  .region (o 84 (.mov (t 14)) :: o 85 (.mov (t 16)) :: o 86 (.call (.func 15) [(t 84), (t 85)]) :: o 83 (.mov (t 86)) :: o 87 (.ext (t 83) 0) :: o 88 (.ext (t 83) 1) ::
  o 19 (.alloc 34 [(.int .i64 0), (.int .i64 0), (.int .i64 0)]) :: s (.store 3 (t 19) (t 87)) :: o 20 (.mov (t 88)) :: []) [] []) ( .seq ( .region (o 90 (.mov (t 14)) :: o 91 (.mov (t 16)) ::
  o 92 (.call (.func 37) [(t 90), (t 91)]) :: o 89 (.mov (t 92)) :: o 93 (.ext (t 89) 0) :: o 94 (.ext (t 89) 1) :: o 21 (.alloc 34 [(.int .i64 0), (.int .i64 0), (.int .i64 0)]) :: s (.store 3 (t 21) (t 93)) ::
  o 22 (.mov (t 94)) :: []) [] []) ( .seq ( .region (o 96 (.mov (t 14)) :: o 97 (.mov (t 16)) :: o 98 (.mov (t 18)) :: o 99 (.call (.func 32) [(t 96), (t 97), (t 98)]) :: o 95 (.mov (t 99)) :: o 100 (.ext (t 95) 0) ::
  o 101 (.ext (t 95) 1) :: o 23 (.mov (t 100)) :: o 24 (.mov (t 101)) :: []) [] []) ( .seq ( .region (o 103 (.mov (t 14)) :: o 104 (.mov (t 16)) :: o 105 (.mov (t 18)) :: o 106 (.call (.func 38) [(t 103), (t 104), (t 105)]) ::
  o 102 (.mov (t 106)) :: o 107 (.ext (t 102) 0) :: o 108 (.ext (t 102) 1) :: o 25 (.mov (t 107)) :: o 26 (.mov (t 108)) :: []) [] []) ( .seq ( .seq ( .region (o 109 (.load true 3 (t 19)) :: o 110 (.load true 3 (t 21)) ::
  o 111 (.eqs true [(0, false), (1, false), (2, false)] (t 109) (t 110)) :: o 112 (.mov (t 111)) :: g 113 (.mov (t 20)) 112 false :: g 114 (.mov (t 22)) 112 false :: g 115 (.beq true (t 113) (t 114)) 112 false ::
  o 116 (.pick (t 112) (b true) (t 115)) :: o 117 (.mov (t 116)) :: g 118 (.mov (t 23)) 117 false :: g 119 (.mov (t 25)) 117 false :: g 120 (.call (.func 39) [(t 118), (t 119)]) 117 false :: g 121 (.un .not (t 120)) 117 false ::
  o 122 (.pick (t 117) (b true) (t 121)) :: o 123 (.mov (t 122)) :: g 124 (.mov (t 24)) 123 false :: g 125 (.mov (t 26)) 123 false :: g 126 (.bin .neq (t 124) (t 125)) 123 false ::
  o 127 (.pick (t 123) (b true) (t 126)) :: []) [] []) ( .cond (t 127) ( .seq ( .region (o 10 (.mov (b false)) :: []) [] []) ( .ret)) ( .skip))) ( .seq ( .region (o 129 (.mov (t 14)) :: o 130 (.mov (t 16)) ::
  o 131 (.mov (t 18)) :: o 132 (.call (.func 40) [(t 129), (t 130), (t 131)]) :: o 128 (.mov (t 132)) :: o 133 (.ext (t 128) 0) :: o 134 (.ext (t 128) 1) :: o 23 (.mov (t 133)) :: o 24 (.mov (t 134)) :: []) [] []) ( .seq (
  .region (o 136 (.mov (t 14)) :: o 137 (.mov (t 16)) :: o 138 (.mov (t 18)) :: o 139 (.call (.func 41) [(t 136), (t 137), (t 138)]) :: o 135 (.mov (t 139)) :: o 140 (.ext (t 135) 0) :: o 141 (.ext (t 135) 1) ::
  o 25 (.mov (t 140)) :: o 26 (.mov (t 141)) :: []) [] []) ( .seq ( .seq ( .region (o 142 (.mov (t 23)) :: o 143 (.mov (t 25)) :: o 144 (.call (.func 39) [(t 142), (t 143)]) :: o 145 (.un .not (t 144)) :: o 146 (.mov (t 145)) ::
  g 147 (.mov (t 24)) 146 false :: g 148 (.mov (t 26)) 146 false :: g 149 (.bin .neq (t 147) (t 148)) 146 false :: o 150 (.pick (t 146) (b true) (t 149)) :: []) [] []) ( .cond (t 150) ( .seq ( .region
  (o 10 (.mov (b false)) :: []) [] []) ( .ret)) ( .skip))) ( .seq ( .region (o 152 (.mov (t 14)) :: o 153 (.mov (t 16)) :: o 154 (.mov (t 18)) :: o 155 (.call (.func 42) [(t 152), (t 153), (t 154)]) :: o 151 (.mov (t 155)) ::
  o 156 (.ext (t 151) 0) :: o 157 (.ext (t 151) 1) :: o 23 (.mov (t 156)) :: o 24 (.mov (t 157)) :: []) [] []) ( .seq ( .region (o 159 (.mov (t 14)) :: o 160 (.mov (t 16)) :: o 161 (.mov (t 18)) ::
  o 162 (.call (.func 43) [(t 159), (t 160), (t 161)]) :: o 158 (.mov (t 162)) :: o 163 (.ext (t 158) 0) :: o 164 (.ext (t 158) 1) :: o 25 (.mov (t 163)) :: o 26 (.mov (t 164)) :: []) [] []) ( .seq ( .seq ( .region
  (o 165 (.mov (t 23)) :: o 166 (.mov (t 25)) :: o 167 (.call (.func 39) [(t 165), (t 166)]) :: o 168 (.un .not (t 167)) :: o 169 (.mov (t 168)) :: g 170 (.mov (t 24)) 169 false :: g 171 (.mov (t 26)) 169 false ::
  g 172 (.bin .neq (t 170) (t 171)) 169 false :: o 173 (.pick (t 169) (b true) (t 172)) :: []) [] []) ( .cond (t 173) ( .seq ( .region (o 10 (.mov (b false)) :: []) [] []) ( .ret)) ( .skip))) ( .seq ( .region
  (o 174 (.mov (t 4)) :: o 175 (.mov (t 11)) :: o 176 (.call (.func 14) [(t 175), (i 0), (i 4)]) :: o 177 (.faddr 2 (t 21)) :: o 178 (.load false 1 (t 177)) :: o 179 (.bin .add (t 178) (i 1)) ::
  o 180 (.build [(.int .i64 0), (.int .i64 0), (.int .i64 0)] [(0, 1, (t 174)), (1, 1, (t 176)), (2, 1, (t 179))]) :: o 181 (.mov (i 0)) :: []) [(2, 4)] []) ( .block 6 ( .loop l_law36_AccountsExact_0)))))))))))))))) ( .region
  (o 210 (.bin .add (t 80) (i 1)) :: o 80 (.mov (t 210)) :: []) [] [])))
def l_law36_AccountsExact_2 : CC :=
   .seq ( .region (o 72 (.bin .lss (t 71) (i 3)) :: []) [] []) ( .seq ( .cond (t 72) ( .skip) ( .exit 2)) ( .seq ( .block 3 ( .seq ( .region (o 73 (.aindex false 1 1 3 (t 70) (t 71)) :: o 16 (.mov (t 73)) :: []) [] []) ( .seq (
  .region (o 74 (.mov (t 3)) :: o 75 (.mov (t 11)) :: o 76 (.call (.func 31) [(t 75), (i 300)]) :: o 77 (.mov (t 11)) :: o 78 (.call (.func 33) [(t 77)]) ::
  o 79 (.build [(.int .i64 0), (.int .i64 0), (.int .i64 0)] [(0, 1, (t 74)), (1, 1, (t 76)), (2, 1, (t 78))]) :: o 80 (.mov (i 0)) :: []) [] []) ( .block 4 ( .loop l_law36_AccountsExact_1))))) ( .region
  (o 211 (.bin .add (t 71) (i 1)) :: o 71 (.mov (t 211)) :: []) [] [])))
def l_law36_AccountsExact_3 : CC :=
   .seq ( .region (o 51 (.bin .lss (t 50) (i 3)) :: []) [] []) ( .seq ( .cond (t 51) ( .skip) ( .exit 0)) ( .seq ( .block 1 ( .seq ( .region (o 52 (.aindex false 1 1 3 (t 49) (t 50)) :: o 14 (.mov (t 52)) :: []) [] []) ( .seq (
  .seq ( .region (o 53 (.mov (t 14)) :: o 54 (.call (.func 34) [(t 53)]) :: o 55 (.mov (t 14)) :: o 56 (.call (.func 35) [(t 55)]) :: o 57 (.bin .neq (t 54) (t 56)) :: o 58 (.mov (t 57)) :: g 59 (.mov (t 14)) 58 false ::
  g 60 (.call (.func 18) [(t 59)]) 58 false :: g 61 (.mov (t 14)) 58 false :: g 62 (.call (.func 36) [(t 61)]) 58 false :: g 63 (.bin .neq (t 60) (t 62)) 58 false :: o 64 (.pick (t 58) (b true) (t 63)) :: []) [] []) (
  .cond (t 64) ( .seq ( .region (o 10 (.mov (b false)) :: []) [] []) ( .ret)) ( .skip))) ( .seq ( .region (o 65 (.mov (t 2)) :: o 66 (.mov (t 11)) :: o 67 (.call (.func 14) [(t 66), (i 0), (i 7)]) :: o 68 (.mov (t 11)) ::
  o 69 (.call (.func 33) [(t 68)]) :: o 70 (.build [(.int .i64 0), (.int .i64 0), (.int .i64 0)] [(0, 1, (t 65)), (1, 1, (t 67)), (2, 1, (t 69))]) :: o 71 (.mov (i 0)) :: []) [] []) ( .block 2 (
  .loop l_law36_AccountsExact_2)))))) ( .region (o 212 (.bin .add (t 50) (i 1)) :: o 50 (.mov (t 212)) :: []) [] [])))
def c_law36_AccountsExact : CC :=
  .seq ( .region (o 10 (.mov (b false)) :: []) [] []) ( .seq ( .seq ( .region (o 29 (.mov (t 1)) :: o 30 (.len (t 29)) :: o 31 (.bin .gtr (t 30) (i 25)) :: []) [] []) ( .cond (t 31) ( .seq ( .region (o 32 (.call (.func 17) []) ::
  o 10 (.mov (t 32)) :: []) [] []) ( .ret)) ( .skip))) ( .seq ( .region (o 33 (.mov (t 0)) :: o 34 (.call (.func 12) [(t 33)]) :: o 11 (.mov (t 34)) :: []) [] []) ( .seq ( .region (o 35 (.mov (t 11)) ::
  o 36 (.call (.func 13) [(t 35)]) :: o 37 (.field false 1 1 (t 36)) :: o 12 (.mov (t 37)) :: []) [] []) ( .seq ( .seq ( .region (o 38 (.mov (t 12)) :: o 39 (.mov (t 1)) :: o 40 (.mov (t 12)) ::
  o 41 (.append 34 3 24 (.const (.slice none 0 0)) (t 40)) :: o 42 (.mov (t 11)) :: o 43 (.call (.func 33) [(t 42)]) :: o 44 (.mov (t 11)) :: o 45 (.call (.func 33) [(t 44)]) ::
  o 46 (.build [(.int .i64 0), (.int .i64 0), (.int .i64 0)] [(0, 1, (t 43)), (1, 1, (t 45))]) :: o 47 (.bslice 34 3 1 [(.int .i64 0), (.int .i64 0), (.int .i64 0)] [(0, (t 46))]) :: o 48 (.append 34 3 24 (t 41) (t 47)) ::
  o 49 (.build [(.slice none 0 0), (.slice none 0 0), (.slice none 0 0)] [(0, 1, (t 38)), (1, 1, (t 39)), (2, 1, (t 48))]) :: o 50 (.mov (i 0)) :: []) [] []) ( .block 0 ( .loop l_law36_AccountsExact_3))) ( .seq ( .region
  (o 213 (.call (.func 17) []) :: o 10 (.mov (t 213)) :: []) [] []) ( .ret))))))
theorem i_law36_AccountsExact : Fn PP n_law36_AccountsExact c_law36_AccountsExact 214 [.t 10] := ⟨Try.f8, Try.func8, ⟨_, rfl, by kernel_rfl⟩, by kernel_rfl, by kernel_rfl, Try.ntmps8⟩

def c_law36_AccountsKeep : CC :=
  .seq ( .region (o 4 (.mov (b false)) :: []) [] []) ( .seq ( .region (o 20 (.mov (t 0)) :: o 21 (.call (.func 12) [(t 20)]) :: o 5 (.mov (t 21)) :: []) [] []) ( .seq ( .region (o 22 (.mov (t 5)) ::
  o 23 (.call (.func 13) [(t 22)]) :: o 24 (.field false 1 1 (t 23)) :: o 6 (.mov (t 24)) :: []) [] []) ( .seq ( .region (o 25 (.mov (t 5)) :: o 26 (.mov (t 6)) :: o 27 (.len (t 26)) ::
  o 28 (.call (.func 14) [(t 25), (i 1), (t 27)]) :: o 29 (.mov (t 5)) :: o 30 (.mov (t 6)) :: o 31 (.len (t 30)) :: o 32 (.call (.func 14) [(t 29), (i 1), (t 31)]) :: o 33 (.mov (t 1)) :: o 34 (.conv .i64 (t 33)) ::
  o 35 (.bin .rem (t 34) (i 1200)) :: o 7 (.mov (t 28)) :: o 8 (.mov (t 32)) :: o 9 (.mov (t 35)) :: []) [] []) ( .seq ( .region (o 37 (.mov (t 6)) :: o 38 (.mov (t 7)) :: o 39 (.mov (t 9)) ::
  o 40 (.call (.func 42) [(t 37), (t 38), (t 39)]) :: o 36 (.mov (t 40)) :: o 41 (.ext (t 36) 0) :: o 42 (.ext (t 36) 1) :: o 10 (.mov (t 41)) :: o 11 (.mov (t 42)) :: []) [] []) ( .seq ( .seq ( .region (o 43 (.mov (t 11)) ::
  o 44 (.bin .neq (t 43) (i 0)) :: []) [] []) ( .cond (t 44) ( .seq ( .region (o 46 (.mov (t 6)) :: o 47 (.mov (t 7)) :: o 48 (.call (.func 15) [(t 46), (t 47)]) :: o 45 (.mov (t 48)) :: o 49 (.ext (t 45) 0) ::
  o 50 (.ext (t 45) 1) :: o 12 (.alloc 34 [(.int .i64 0), (.int .i64 0), (.int .i64 0)]) :: s (.store 3 (t 12) (t 49)) :: o 13 (.mov (t 50)) :: []) [] []) ( .seq ( .region (o 51 (.mov (t 11)) :: o 52 (.bin .eql (t 51) (i 66)) ::
  o 53 (.mov (t 52)) :: g 54 (.faddr 1 (t 12)) 53 true :: g 55 (.load false 1 (t 54)) 53 true :: g 56 (.mov (t 9)) 53 true :: g 57 (.bin .lss (t 55) (t 56)) 53 true :: o 58 (.pick (t 53) (t 57) (b false)) :: o 59 (.mov (t 58)) ::
  g 60 (.call (.func 17) []) 59 true :: o 61 (.pick (t 59) (t 60) (b false)) :: o 4 (.mov (t 61)) :: []) [] []) ( .ret))) ( .skip))) ( .seq ( .region (o 63 (.mov (t 10)) :: o 64 (.mov (t 8)) :: o 65 (.mov (t 9)) ::
  o 66 (.call (.func 40) [(t 63), (t 64), (t 65)]) :: o 62 (.mov (t 66)) :: o 67 (.ext (t 62) 0) :: o 68 (.ext (t 62) 1) :: o 14 (.mov (t 67)) :: o 15 (.mov (t 68)) :: []) [] []) ( .seq ( .region (o 70 (.mov (t 10)) ::
  o 71 (.mov (t 7)) :: o 72 (.mov (t 9)) :: o 73 (.call (.func 40) [(t 70), (t 71), (t 72)]) :: o 69 (.mov (t 73)) :: o 74 (.ext (t 69) 0) :: o 75 (.ext (t 69) 1) :: o 16 (.mov (t 74)) :: o 17 (.mov (t 75)) :: []) [] []) ( .seq (
  .region (o 77 (.mov (t 6)) :: o 78 (.mov (t 9)) :: o 79 (.call (.func 32) [(t 77), (i 500), (t 78)]) :: o 76 (.mov (t 79)) :: o 80 (.ext (t 76) 0) :: o 81 (.ext (t 76) 1) :: o 18 (.mov (t 80)) ::
  o 19 (.mov (t 81)) :: []) [] []) ( .seq ( .region (o 82 (.mov (t 15)) :: o 83 (.bin .eql (t 82) (i 0)) :: o 84 (.mov (t 83)) :: g 85 (.mov (t 17)) 84 true :: g 86 (.bin .eql (t 85) (i 0)) 84 true ::
  o 87 (.pick (t 84) (t 86) (b false)) :: o 88 (.mov (t 87)) :: g 89 (.mov (t 19)) 88 true :: g 90 (.bin .eql (t 89) (i 0)) 88 true :: o 91 (.pick (t 88) (t 90) (b false)) :: o 92 (.mov (t 91)) :: g 93 (.mov (t 14)) 92 true ::
  g 94 (.call (.func 18) [(t 93)]) 92 true :: g 95 (.mov (t 6)) 92 true :: g 96 (.call (.func 18) [(t 95)]) 92 true :: g 97 (.bin .eql (t 94) (t 96)) 92 true :: o 98 (.pick (t 92) (t 97) (b false)) :: o 99 (.mov (t 98)) ::
  g 100 (.mov (t 16)) 99 true :: g 101 (.mov (t 6)) 99 true :: g 102 (.call (.func 39) [(t 100), (t 101)]) 99 true :: o 103 (.pick (t 99) (t 102) (b false)) :: o 104 (.mov (t 103)) :: g 105 (.mov (t 18)) 104 true ::
  g 106 (.call (.func 18) [(t 105)]) 104 true :: g 107 (.mov (t 6)) 104 true :: g 108 (.call (.func 18) [(t 107)]) 104 true :: g 109 (.mov (t 9)) 104 true :: g 110 (.bin .add (t 108) (t 109)) 104 true ::
  g 111 (.bin .eql (t 106) (t 110)) 104 true :: o 112 (.pick (t 104) (t 111) (b false)) :: o 113 (.mov (t 112)) :: g 114 (.mov (t 18)) 113 true :: g 115 (.call (.func 34) [(t 114)]) 113 true ::
  g 116 (.bin .eql (t 115) (i 0)) 113 true :: o 117 (.pick (t 113) (t 116) (b false)) :: o 118 (.mov (t 117)) :: g 119 (.call (.func 17) []) 118 true :: o 120 (.pick (t 118) (t 119) (b false)) ::
  o 4 (.mov (t 120)) :: []) [] []) ( .ret))))))))))
theorem i_law36_AccountsKeep : Fn PP n_law36_AccountsKeep c_law36_AccountsKeep 121 [.t 4] := ⟨Try.f9, Try.func9, ⟨_, rfl, by kernel_rfl⟩, by kernel_rfl, by kernel_rfl, Try.ntmps9⟩

def l_law37_TrustlinesLimits_0 : CC :=
   .seq ( .region (o 130 (.bin .lss (t 129) (t 128)) :: []) [] []) ( .seq ( .cond (t 130) ( .skip) ( .exit 0)) ( .seq ( .block 1 ( .seq ( .region (o 131 (.iaddr 5 (t 127) (t 129)) :: o 132 (.load true 5 (t 131)) ::
  o 19 (.alloc 46 [(.int .i64 0), (.string ⟨#[]⟩), (.int .i64 0), (.int .i64 0), (.int .i64 0)]) :: s (.store 5 (t 19) (t 132)) :: []) [] []) ( .seq ( .region (o 134 (.mov (t 14)) :: o 135 (.faddr 0 (t 19)) ::
  o 136 (.load false 1 (t 135)) :: o 137 (.faddr 1 (t 19)) :: o 138 (.load true 2 (t 137)) :: o 139 (.call (.func 25) [(t 134), (t 136), (t 138)]) :: o 133 (.mov (t 139)) :: o 140 (.ext (t 133) 0) :: o 141 (.ext (t 133) 1) ::
  o 20 (.alloc 46 [(.int .i64 0), (.string ⟨#[]⟩), (.int .i64 0), (.int .i64 0), (.int .i64 0)]) :: s (.store 5 (t 20) (t 140)) :: o 21 (.mov (t 141)) :: []) [] []) ( .seq ( .region (o 142 (.faddr 0 (t 19)) ::
  o 143 (.load false 1 (t 142)) :: o 144 (.mov (t 7)) :: o 145 (.bin .neq (t 143) (t 144)) :: o 146 (.mov (t 145)) :: g 147 (.faddr 1 (t 19)) 146 false :: g 148 (.load true 2 (t 147)) 146 false ::
  g 149 (.load true 2 (t 8)) 146 false :: g 150 (.eqs true [(0, true), (1, false)] (t 148) (t 149)) 146 false :: o 151 (.pick (t 146) (b true) (t 150)) :: o 152 (.mov (t 151)) :: g 153 (.mov (t 21)) 152 true ::
  g 154 (.un .not (t 153)) 152 true :: g 155 (.mov (t 154)) 152 true :: g 156 (.load true 5 (t 19)) 155 false :: g 157 (.load true 5 (t 20)) 155 false ::
  g 158 (.eqs true [(0, false), (1, true), (2, false), (3, false), (4, false)] (t 156) (t 157)) 155 false :: g 159 (.pick (t 155) (b true) (t 158)) 152 true :: o 160 (.pick (t 152) (t 159) (b false)) :: []) [] []) (
  .cond (t 160) ( .seq ( .region (o 4 (.mov (b false)) :: []) [] []) ( .ret)) ( .skip)))))) ( .region (o 161 (.bin .add (t 129) (i 1)) :: o 129 (.mov (t 161)) :: []) [] [])))
def c_law37_TrustlinesLimits : CC :=
  .seq ( .region (o 4 (.mov (b false)) :: []) [] []) ( .seq ( .region (o 22 (.mov (t 0)) :: o 23 (.call (.func 12) [(t 22)]) :: o 5 (.mov (t 23)) :: []) [] []) ( .seq ( .region (o 24 (.mov (t 5)) ::
  o 25 (.call (.func 13) [(t 24)]) :: o 6 (.alloc 30 [(.int .i64 0), (.slice none 0 0), (.slice none 0 0), (.slice none 0 0), (.int .i64 0), (.int .i64 0), (.int .u64 0)]) :: s (.store 7 (t 6) (t 25)) :: []) [] []) ( .seq (
  .region (o 26 (.mov (t 5)) :: o 27 (.faddr 1 (t 6)) :: o 28 (.load false 1 (t 27)) :: o 29 (.len (t 28)) :: o 30 (.call (.func 14) [(t 26), (i 1), (t 29)]) :: o 31 (.call (.func 21) []) :: o 32 (.call (.func 30) []) ::
  o 33 (.bslice 44 2 2 [(.string ⟨#[]⟩), (.int .i64 0)] [(0, (t 31)), (1, (t 32))]) :: o 34 (.mov (t 5)) :: o 35 (.call (.func 31) [(t 34), (i 2)]) :: o 36 (.iaddr 2 (t 33) (t 35)) :: o 37 (.load true 2 (t 36)) ::
  o 38 (.mov (t 1)) :: o 39 (.conv .i64 (t 38)) :: o 40 (.bin .rem (t 39) (i 600)) :: o 8 (.alloc 44 [(.string ⟨#[]⟩), (.int .i64 0)]) :: o 7 (.mov (t 30)) :: s (.store 2 (t 8) (t 37)) ::
  o 9 (.mov (t 40)) :: []) [(7, 9), (2, 15), (4, 15), (5, 15), (6, 15), (7, 15), (9, 15), (11, 15)] []) ( .seq ( .seq ( .region (o 41 (.faddr 1 (t 8)) :: o 42 (.load false 1 (t 41)) :: o 43 (.mov (t 7)) ::
  o 44 (.bin .eql (t 42) (t 43)) :: []) [] []) ( .cond (t 44) ( .seq ( .region (o 46 (.faddr 2 (t 6)) :: o 47 (.load false 1 (t 46)) :: o 48 (.mov (t 7)) :: o 49 (.load true 2 (t 8)) :: o 50 (.mov (t 9)) ::
  o 51 (.call (.func 45) [(t 47), (t 48), (t 49), (t 50)]) :: o 45 (.mov (t 51)) :: o 52 (.ext (t 45) 0) :: o 53 (.ext (t 45) 1) :: o 10 (.mov (t 52)) :: o 11 (.mov (t 53)) :: []) [] []) ( .seq ( .region (o 54 (.mov (t 11)) ::
  o 55 (.bin .eql (t 54) (i 71)) :: o 56 (.mov (t 55)) :: g 57 (.call (.func 22) []) 56 true :: o 58 (.pick (t 56) (t 57) (b false)) :: o 4 (.mov (t 58)) :: []) [] []) ( .ret))) ( .skip))) ( .seq ( .region
  (o 60 (.faddr 2 (t 6)) :: o 61 (.load false 1 (t 60)) :: o 62 (.mov (t 7)) :: o 63 (.load true 2 (t 8)) :: o 64 (.call (.func 25) [(t 61), (t 62), (t 63)]) :: o 59 (.mov (t 64)) :: o 65 (.ext (t 59) 0) ::
  o 66 (.ext (t 59) 1) :: o 12 (.alloc 46 [(.int .i64 0), (.string ⟨#[]⟩), (.int .i64 0), (.int .i64 0), (.int .i64 0)]) :: s (.store 5 (t 12) (t 65)) :: o 13 (.mov (t 66)) :: []) [] []) ( .seq ( .region (o 68 (.faddr 2 (t 6)) ::
  o 69 (.load false 1 (t 68)) :: o 70 (.mov (t 7)) :: o 71 (.load true 2 (t 8)) :: o 72 (.mov (t 9)) :: o 73 (.call (.func 45) [(t 69), (t 70), (t 71), (t 72)]) :: o 67 (.mov (t 73)) :: o 74 (.ext (t 67) 0) ::
  o 75 (.ext (t 67) 1) :: o 14 (.mov (t 74)) :: o 15 (.mov (t 75)) :: []) [] []) ( .seq ( .seq ( .region (o 76 (.mov (t 15)) :: o 77 (.bin .neq (t 76) (i 0)) :: []) [] []) ( .cond (t 77) ( .seq ( .region (o 78 (.mov (t 15)) ::
  o 79 (.bin .eql (t 78) (i 70)) :: o 80 (.mov (t 79)) :: g 81 (.mov (t 13)) 80 true :: o 82 (.pick (t 80) (t 81) (b false)) :: o 83 (.mov (t 82)) :: g 84 (.mov (t 9)) 83 true :: g 85 (.faddr 3 (t 12)) 83 true ::
  g 86 (.load false 1 (t 85)) 83 true :: g 87 (.bin .lss (t 84) (t 86)) 83 true :: o 88 (.pick (t 83) (t 87) (b false)) :: o 89 (.mov (t 88)) :: g 90 (.call (.func 22) []) 89 true :: o 91 (.pick (t 89) (t 90) (b false)) ::
  o 4 (.mov (t 91)) :: []) [] []) ( .ret)) ( .skip))) ( .seq ( .region (o 93 (.mov (t 14)) :: o 94 (.mov (t 7)) :: o 95 (.load true 2 (t 8)) :: o 96 (.call (.func 25) [(t 93), (t 94), (t 95)]) :: o 92 (.mov (t 96)) ::
  o 97 (.ext (t 92) 0) :: o 98 (.ext (t 92) 1) :: o 16 (.alloc 46 [(.int .i64 0), (.string ⟨#[]⟩), (.int .i64 0), (.int .i64 0), (.int .i64 0)]) :: s (.store 5 (t 16) (t 97)) :: o 17 (.mov (t 98)) :: []) [] []) ( .seq ( .seq (
  .region (o 99 (.mov (t 17)) :: o 100 (.mov (t 9)) :: o 101 (.bin .gtr (t 100) (i 0)) :: o 102 (.beq true (t 99) (t 101)) :: o 103 (.mov (t 102)) :: g 104 (.mov (t 17)) 103 false :: g 105 (.mov (t 104)) 103 false ::
  g 106 (.faddr 4 (t 16)) 105 true :: g 107 (.load false 1 (t 106)) 105 true :: g 108 (.mov (t 9)) 105 true :: g 109 (.bin .neq (t 107) (t 108)) 105 true :: g 110 (.mov (t 109)) 105 true :: g 111 (.faddr 3 (t 16)) 110 false ::
  g 112 (.load false 1 (t 111)) 110 false :: g 113 (.faddr 3 (t 12)) 110 false :: g 114 (.load false 1 (t 113)) 110 false :: g 115 (.bin .neq (t 112) (t 114)) 110 false :: g 116 (.pick (t 110) (b true) (t 115)) 105 true ::
  g 117 (.pick (t 105) (t 116) (b false)) 103 false :: o 118 (.pick (t 103) (b true) (t 117)) :: o 119 (.mov (t 118)) :: g 120 (.mov (t 14)) 119 false :: g 121 (.faddr 1 (t 6)) 119 false ::
  g 122 (.load false 1 (t 121)) 119 false :: g 123 (.call (.func 28) [(t 120), (t 122)]) 119 false :: g 124 (.bin .neq (t 123) (i 0)) 119 false :: o 125 (.pick (t 119) (b true) (t 124)) :: []) [] []) ( .cond (t 125) ( .seq (
  .region (o 4 (.mov (b false)) :: []) [] []) ( .ret)) ( .skip))) ( .seq ( .seq ( .region (o 126 (.faddr 2 (t 6)) :: o 127 (.load false 1 (t 126)) :: o 128 (.len (t 127)) :: o 129 (.mov (i 0)) :: []) [] []) ( .block 0 (
  .loop l_law37_TrustlinesLimits_0))) ( .seq ( .region (o 162 (.call (.func 22) []) :: o 4 (.mov (t 162)) :: []) [] []) ( .ret))))))))))))
theorem i_law37_TrustlinesLimits : Fn PP n_law37_TrustlinesLimits c_law37_TrustlinesLimits 163 [.t 4] := ⟨Try.f10, Try.func10, ⟨_, rfl, by kernel_rfl⟩, by kernel_rfl, by kernel_rfl, Try.ntmps10⟩

def l_law37_TrustlinesExact_0 : CC :=
   .seq ( .region (o 143 (.bin .lss (t 142) (i 3)) :: []) [] []) ( .seq ( .cond (t 143) ( .skip) ( .exit 6)) ( .seq ( .block 7 ( .seq ( .region (o 144 (.aindex false 1 1 3 (t 141) (t 142)) :: o 24 (.mov (t 144)) :: []) [] []) (
  .seq ( .region (o 146 (.faddr 2 (t 14)) :: o 147 (.load false 1 (t 146)) :: o 148 (.mov (t 18)) :: o 149 (.load true 2 (t 16)) :: o 150 (.mov (t 24)) :: o 151 (.call (.func 45) [(t 147), (t 148), (t 149), (t 150)]) ::
  o 145 (.mov (t 151)) :: o 152 (.ext (t 145) 0) :: o 153 (.ext (t 145) 1) :: o 25 (.mov (t 152)) :: o 26 (.mov (t 153)) :: []) [] []) ( .seq ( .region (o 155 (.faddr 2 (t 14)) :: o 156 (.load false 1 (t 155)) ::
  o 157 (.mov (t 18)) :: o 158 (.load true 2 (t 16)) :: o 159 (.mov (t 24)) :: o 160 (.call (.func 54) [(t 156), (t 157), (t 158), (t 159)]) :: o 154 (.mov (t 160)) :: o 161 (.ext (t 154) 0) :: o 162 (.ext (t 154) 1) ::
  o 27 (.mov (t 161)) :: o 28 (.mov (t 162)) :: []) [] []) ( .seq ( .seq ( .region (o 163 (.mov (t 25)) :: o 164 (.mov (t 27)) :: o 165 (.call (.func 55) [(t 163), (t 164)]) :: o 166 (.un .not (t 165)) :: o 167 (.mov (t 166)) ::
  g 168 (.mov (t 26)) 167 false :: g 169 (.mov (t 28)) 167 false :: g 170 (.bin .neq (t 168) (t 169)) 167 false :: o 171 (.pick (t 167) (b true) (t 170)) :: []) [] []) ( .cond (t 171) ( .seq ( .region
  (o 10 (.mov (b false)) :: []) [] []) ( .ret)) ( .skip))) ( .seq ( .region (o 173 (.load true 7 (t 14)) :: o 174 (.mov (t 18)) :: o 175 (.load true 2 (t 16)) :: o 176 (.mov (t 24)) ::
  o 177 (.call (.func 24) [(t 173), (t 174), (t 175), (t 176)]) :: o 172 (.mov (t 177)) :: o 178 (.ext (t 172) 0) :: o 179 (.ext (t 172) 1) ::
  o 29 (.alloc 30 [(.int .i64 0), (.slice none 0 0), (.slice none 0 0), (.slice none 0 0), (.int .i64 0), (.int .i64 0), (.int .u64 0)]) :: s (.store 7 (t 29) (t 178)) :: o 26 (.mov (t 179)) :: []) [] []) ( .seq ( .region
  (o 181 (.load true 7 (t 14)) :: o 182 (.mov (t 18)) :: o 183 (.load true 2 (t 16)) :: o 184 (.mov (t 24)) :: o 185 (.call (.func 56) [(t 181), (t 182), (t 183), (t 184)]) :: o 180 (.mov (t 185)) :: o 186 (.ext (t 180) 0) ::
  o 187 (.ext (t 180) 1) :: o 30 (.alloc 30 [(.int .i64 0), (.slice none 0 0), (.slice none 0 0), (.slice none 0 0), (.int .i64 0), (.int .i64 0), (.int .u64 0)]) :: s (.store 7 (t 30) (t 186)) ::
  o 28 (.mov (t 187)) :: []) [] []) ( .seq ( .seq ( .region (o 188 (.load true 7 (t 29)) :: o 189 (.load true 7 (t 30)) :: o 190 (.call (.func 27) [(t 188), (t 189)]) :: o 191 (.un .not (t 190)) :: o 192 (.mov (t 191)) ::
  g 193 (.mov (t 26)) 192 false :: g 194 (.mov (t 28)) 192 false :: g 195 (.bin .neq (t 193) (t 194)) 192 false :: o 196 (.pick (t 192) (b true) (t 195)) :: []) [] []) ( .cond (t 196) ( .seq ( .region
  (o 10 (.mov (b false)) :: []) [] []) ( .ret)) ( .skip))) ( .seq ( .region (o 198 (.load true 7 (t 14)) :: o 199 (.mov (t 18)) :: o 200 (.load true 2 (t 16)) :: o 201 (.mov (t 24)) ::
  o 202 (.call (.func 26) [(t 198), (t 199), (t 200), (t 201)]) :: o 197 (.mov (t 202)) :: o 203 (.ext (t 197) 0) :: o 204 (.ext (t 197) 1) :: s (.store 7 (t 29) (t 203)) :: o 26 (.mov (t 204)) :: []) [] []) ( .seq ( .region
  (o 206 (.load true 7 (t 14)) :: o 207 (.mov (t 18)) :: o 208 (.load true 2 (t 16)) :: o 209 (.mov (t 24)) :: o 210 (.call (.func 57) [(t 206), (t 207), (t 208), (t 209)]) :: o 205 (.mov (t 210)) :: o 211 (.ext (t 205) 0) ::
  o 212 (.ext (t 205) 1) :: s (.store 7 (t 30) (t 211)) :: o 28 (.mov (t 212)) :: []) [] []) ( .seq ( .region (o 213 (.load true 7 (t 29)) :: o 214 (.load true 7 (t 30)) :: o 215 (.call (.func 27) [(t 213), (t 214)]) ::
  o 216 (.un .not (t 215)) :: o 217 (.mov (t 216)) :: g 218 (.mov (t 26)) 217 false :: g 219 (.mov (t 28)) 217 false :: g 220 (.bin .neq (t 218) (t 219)) 217 false :: o 221 (.pick (t 217) (b true) (t 220)) :: []) [] []) (
  .cond (t 221) ( .seq ( .region (o 10 (.mov (b false)) :: []) [] []) ( .ret)) ( .skip))))))))))))) ( .region (o 222 (.bin .add (t 142) (i 1)) :: o 142 (.mov (t 222)) :: []) [] [])))
def l_law37_TrustlinesExact_1 : CC :=
   .seq ( .region (o 88 (.bin .lss (t 87) (i 2)) :: []) [] []) ( .seq ( .cond (t 88) ( .skip) ( .exit 4)) ( .seq ( .block 5 ( .seq ( .region (o 89 (.aindex false 1 1 2 (t 86) (t 87)) :: o 18 (.mov (t 89)) :: []) [] []) ( .seq (
  .region (o 91 (.faddr 2 (t 14)) :: o 92 (.load false 1 (t 91)) :: o 93 (.mov (t 18)) :: o 94 (.load true 2 (t 16)) :: o 95 (.call (.func 25) [(t 92), (t 93), (t 94)]) :: o 90 (.mov (t 95)) :: o 96 (.ext (t 90) 0) ::
  o 97 (.ext (t 90) 1) :: o 19 (.alloc 46 [(.int .i64 0), (.string ⟨#[]⟩), (.int .i64 0), (.int .i64 0), (.int .i64 0)]) :: s (.store 5 (t 19) (t 96)) :: o 20 (.mov (t 97)) :: []) [] []) ( .seq ( .region
  (o 99 (.faddr 2 (t 14)) :: o 100 (.load false 1 (t 99)) :: o 101 (.mov (t 18)) :: o 102 (.load true 2 (t 16)) :: o 103 (.call (.func 51) [(t 100), (t 101), (t 102)]) :: o 98 (.mov (t 103)) :: o 104 (.ext (t 98) 0) ::
  o 105 (.ext (t 98) 1) :: o 21 (.alloc 46 [(.int .i64 0), (.string ⟨#[]⟩), (.int .i64 0), (.int .i64 0), (.int .i64 0)]) :: s (.store 5 (t 21) (t 104)) :: o 22 (.mov (t 105)) :: []) [] []) ( .seq ( .seq ( .region
  (o 106 (.load true 5 (t 19)) :: o 107 (.load true 5 (t 21)) :: o 108 (.eqs true [(0, false), (1, true), (2, false), (3, false), (4, false)] (t 106) (t 107)) :: o 109 (.mov (t 108)) :: g 110 (.mov (t 20)) 109 false ::
  g 111 (.mov (t 22)) 109 false :: g 112 (.beq true (t 110) (t 111)) 109 false :: o 113 (.pick (t 109) (b true) (t 112)) :: o 114 (.mov (t 113)) :: g 115 (.load true 7 (t 14)) 114 false :: g 116 (.mov (t 18)) 114 false ::
  g 117 (.load true 2 (t 16)) 114 false :: g 118 (.call (.func 19) [(t 115), (t 116), (t 117)]) 114 false :: g 119 (.load true 7 (t 14)) 114 false :: g 120 (.mov (t 18)) 114 false :: g 121 (.load true 2 (t 16)) 114 false ::
  g 122 (.call (.func 52) [(t 119), (t 120), (t 121)]) 114 false :: g 123 (.bin .neq (t 118) (t 122)) 114 false :: o 124 (.pick (t 114) (b true) (t 123)) :: o 125 (.mov (t 124)) :: g 126 (.load true 7 (t 14)) 125 false ::
  g 127 (.mov (t 18)) 125 false :: g 128 (.load true 2 (t 16)) 125 false :: g 129 (.call (.func 20) [(t 126), (t 127), (t 128)]) 125 false :: g 130 (.load true 7 (t 14)) 125 false :: g 131 (.mov (t 18)) 125 false ::
  g 132 (.load true 2 (t 16)) 125 false :: g 133 (.call (.func 53) [(t 130), (t 131), (t 132)]) 125 false :: g 134 (.bin .neq (t 129) (t 133)) 125 false ::
  o 135 (.pick (t 125) (b true) (t 134)) :: []) [(12, 13), (12, 15), (23, 24), (23, 26)] []) ( .cond (t 135) ( .seq ( .region (o 10 (.mov (b false)) :: []) [] []) ( .ret)) ( .skip))) ( .seq ( .region (o 136 (.mov (t 4)) ::
  o 137 (.mov (t 11)) :: o 138 (.call (.func 31) [(t 137), (i 600)]) :: o 139 (.mov (t 11)) :: o 140 (.call (.func 33) [(t 139)]) ::
  o 141 (.build [(.int .i64 0), (.int .i64 0), (.int .i64 0)] [(0, 1, (t 136)), (1, 1, (t 138)), (2, 1, (t 140))]) :: o 142 (.mov (i 0)) :: []) [] []) ( .block 6 ( .loop l_law37_TrustlinesExact_0)))))))) ( .region
  (o 223 (.bin .add (t 87) (i 1)) :: o 87 (.mov (t 223)) :: []) [] [])))
def l_law37_TrustlinesExact_2 : CC :=
   .seq ( .region (o 72 (.bin .lss (t 71) (i 3)) :: []) [] []) ( .seq ( .cond (t 72) ( .skip) ( .exit 2)) ( .seq ( .block 3 ( .seq ( .region (o 73 (.aindex true 2 2 3 (t 70) (t 71)) ::
  o 16 (.alloc 44 [(.string ⟨#[]⟩), (.int .i64 0)]) :: s (.store 2 (t 16) (t 73)) :: []) [] []) ( .seq ( .seq ( .region (o 74 (.faddr 2 (t 14)) :: o 75 (.load false 1 (t 74)) :: o 76 (.load true 2 (t 16)) ::
  o 77 (.call (.func 29) [(t 75), (t 76)]) :: o 78 (.faddr 2 (t 14)) :: o 79 (.load false 1 (t 78)) :: o 80 (.load true 2 (t 16)) :: o 81 (.call (.func 50) [(t 79), (t 80)]) ::
  o 82 (.bin .neq (t 77) (t 81)) :: []) [(3, 5), (3, 6)] []) ( .cond (t 82) ( .seq ( .region (o 10 (.mov (b false)) :: []) [] []) ( .ret)) ( .skip))) ( .seq ( .region (o 83 (.mov (t 3)) :: o 84 (.mov (t 11)) ::
  o 85 (.call (.func 14) [(t 84), (i 0), (i 6)]) :: o 86 (.build [(.int .i64 0), (.int .i64 0)] [(0, 1, (t 83)), (1, 1, (t 85))]) :: o 87 (.mov (i 0)) :: []) [] []) ( .block 4 ( .loop l_law37_TrustlinesExact_1)))))) ( .region
  (o 224 (.bin .add (t 71) (i 1)) :: o 71 (.mov (t 224)) :: []) [] [])))
def l_law37_TrustlinesExact_3 : CC :=
   .seq ( .region (o 52 (.bin .lss (t 51) (i 3)) :: []) [] []) ( .seq ( .cond (t 52) ( .skip) ( .exit 0)) ( .seq ( .block 1 ( .seq ( .region (o 53 (.aindex true 7 7 3 (t 50) (t 51)) ::
  o 14 (.alloc 30 [(.int .i64 0), (.slice none 0 0), (.slice none 0 0), (.slice none 0 0), (.int .i64 0), (.int .i64 0), (.int .u64 0)]) :: s (.store 7 (t 14) (t 53)) :: []) [] []) ( .seq ( .seq ( .region
  (o 54 (.faddr 2 (t 14)) :: o 55 (.load false 1 (t 54)) :: o 56 (.faddr 1 (t 14)) :: o 57 (.load false 1 (t 56)) :: o 58 (.call (.func 28) [(t 55), (t 57)]) :: o 59 (.faddr 2 (t 14)) :: o 60 (.load false 1 (t 59)) ::
  o 61 (.faddr 1 (t 14)) :: o 62 (.load false 1 (t 61)) :: o 63 (.call (.func 48) [(t 60), (t 62)]) :: o 64 (.bin .neq (t 58) (t 63)) :: []) [(4, 6), (4, 8)] []) ( .cond (t 64) ( .seq ( .region
  (o 10 (.mov (b false)) :: []) [] []) ( .ret)) ( .skip))) ( .seq ( .region (o 65 (.load true 2 (t 7)) :: o 66 (.mov (t 11)) :: o 67 (.call (.func 23) [(t 66)]) :: o 68 (.mov (t 11)) :: o 69 (.call (.func 49) [(t 68)]) ::
  o 70 (.build [(.string ⟨#[]⟩), (.int .i64 0), (.string ⟨#[]⟩), (.int .i64 0), (.string ⟨#[]⟩), (.int .i64 0)] [(0, 2, (t 65)), (2, 2, (t 67)), (4, 2, (t 69))]) :: o 71 (.mov (i 0)) :: []) [(0, 2), (0, 4)] []) ( .block 2 (
  .loop l_law37_TrustlinesExact_2)))))) ( .region (o 225 (.bin .add (t 51) (i 1)) :: o 51 (.mov (t 225)) :: []) [] [])))
def c_law37_TrustlinesExact : CC :=
  .seq ( .region (o 6 (.box 30 7 (t 1)) :: o 7 (.box 44 2 (t 2)) :: o 10 (.mov (b false)) :: []) [] []) ( .seq ( .seq ( .region (o 31 (.load true 7 (t 6)) :: o 32 (.call (.func 46) [(t 31)]) :: o 33 (.un .not (t 32)) ::
  o 34 (.mov (t 33)) :: g 35 (.faddr 0 (t 7)) 34 false :: g 36 (.load false 1 (t 35)) 34 false :: g 37 (.slen (t 36)) 34 false :: g 38 (.bin .gtr (t 37) (i 60)) 34 false :: o 39 (.pick (t 34) (b true) (t 38)) :: []) [] []) (
  .cond (t 39) ( .seq ( .region (o 40 (.call (.func 22) []) :: o 10 (.mov (t 40)) :: []) [] []) ( .ret)) ( .skip))) ( .seq ( .region (o 41 (.mov (t 0)) :: o 42 (.call (.func 12) [(t 41)]) :: o 11 (.mov (t 42)) :: []) [] []) (
  .seq ( .region (o 43 (.mov (t 11)) :: o 44 (.call (.func 13) [(t 43)]) :: o 12 (.alloc 30 [(.int .i64 0), (.slice none 0 0), (.slice none 0 0), (.slice none 0 0), (.int .i64 0), (.int .i64 0), (.int .u64 0)]) ::
  s (.store 7 (t 12) (t 44)) :: []) [] []) ( .seq ( .seq ( .region (o 45 (.load true 7 (t 12)) :: o 46 (.mov (t 11)) :: o 47 (.load true 7 (t 12)) :: o 48 (.call (.func 47) [(t 46), (t 47)]) :: o 49 (.load true 7 (t 6)) ::
  o 50 (.build [(.int .i64 0), (.slice none 0 0), (.slice none 0 0), (.slice none 0 0), (.int .i64 0), (.int .i64 0), (.int .u64 0), (.int .i64 0), (.slice none 0 0), (.slice none 0 0), (.slice none 0 0), (.int .i64 0), (.int .i64 0), (.int .u64 0), (.int .i64 0), (.slice none 0 0), (.slice none 0 0), (.slice none 0 0), (.int .i64 0), (.int .i64 0), (.int .u64 0)] [(0, 7, (t 45)), (7, 7, (t 48)), (14, 7, (t 49))]) ::
  o 51 (.mov (i 0)) :: []) [(0, 3), (3, 4)] []) ( .block 0 ( .loop l_law37_TrustlinesExact_3))) ( .seq ( .region (o 226 (.call (.func 22) []) :: o 10 (.mov (t 226)) :: []) [] []) ( .ret))))))
theorem i_law37_TrustlinesExact : Fn PP n_law37_TrustlinesExact c_law37_TrustlinesExact 227 [.t 10] := ⟨Try.f11, Try.func11, ⟨_, rfl, by kernel_rfl⟩, by kernel_rfl, by kernel_rfl, Try.ntmps11⟩

def c_mk_New : CC :=
  .seq ( .region (o 2 (.mov (.const (.pointer none))) :: []) [] []) ( .seq ( .region (o 3 (.mov (t 0)) :: o 4 (.mov (t 0)) :: o 5 (.len (t 4)) :: o 6 (.min (t 5) (i 800)) :: o 7 (.slice 1 (t 3) none (some (t 6)) none) ::
  o 8 (.build [(.slice none 0 0), (.int .i64 0)] [(0, 1, (t 7))]) :: o 9 (.box 78 2 (t 8)) :: o 2 (.mov (t 9)) :: []) [] []) ( .ret))
theorem i_mk_New : Fn PP n_mk_New c_mk_New 10 [.t 2] := ⟨Try.f12, Try.func12, ⟨_, rfl, by kernel_rfl⟩, by kernel_rfl, by kernel_rfl, Try.ntmps12⟩

def l_Src_Ledger_0 : CC :=
   .seq ( .seq ( .region (o 24 (.mov (t 5)) :: o 25 (.mov (t 4)) :: o 26 (.bin .leq (t 24) (t 25)) :: []) [] []) ( .cond (t 26) ( .skip) ( .exit 0))) ( .seq ( .block 1 ( .region (o 29 (.faddr 1 (t 3)) ::
  o 30 (.load false 1 (t 29)) :: o 31 (.mov (t 5)) :: o 32 (.mov (t 0)) :: o 33 (.bslice 3 1 5 [(.int .i64 0)] [(0, (i 0)), (1, (i 5)), (2, (i 100)), (3, (i 1000)), (4, (i 1000))]) :: o 34 (.call (.func 58) [(t 32), (t 33)]) ::
  o 35 (.mov (t 0)) :: o 36 (.call (.func 31) [(t 35), (i 3)]) :: o 37 (.build [(.int .i64 0), (.int .i64 0), (.int .i64 0)] [(0, 1, (t 31)), (1, 1, (t 34)), (2, 1, (t 36))]) ::
  o 38 (.bslice 34 3 1 [(.int .i64 0), (.int .i64 0), (.int .i64 0)] [(0, (t 37))]) :: o 39 (.append 34 3 24 (t 30) (t 38)) :: o 40 (.faddr 1 (t 3)) :: s (.store 1 (t 40) (t 39)) :: []) [(1, 4), (1, 5), (1, 7), (1, 9)] [])) (
  .region (o 27 (.mov (t 5)) :: o 28 (.bin .add (t 27) (i 1)) :: o 5 (.mov (t 28)) :: []) [] []))
def l_Src_Ledger_1 : CC :=
   .seq ( .region (o 50 (.bin .lss (t 49) (i 2)) :: []) [] []) ( .seq ( .cond (t 50) ( .skip) ( .exit 4)) ( .seq ( .block 5 ( .seq ( .region (o 51 (.aindex true 2 2 2 (t 48) (t 49)) ::
  o 8 (.alloc 44 [(.string ⟨#[]⟩), (.int .i64 0)]) :: s (.store 2 (t 8) (t 51)) :: []) [] []) ( .seq ( .seq ( .region (o 52 (.faddr 1 (t 8)) :: o 53 (.load false 1 (t 52)) :: o 54 (.mov (t 6)) :: o 55 (.bin .eql (t 53) (t 54)) ::
  o 56 (.mov (t 55)) :: g 57 (.mov (t 0)) 56 false :: g 58 (.call (.func 31) [(t 57), (i 4)]) 56 false :: g 59 (.bin .eql (t 58) (i 0)) 56 false :: o 60 (.pick (t 56) (b true) (t 59)) :: []) [] []) ( .cond (t 60) ( .exit 5) (
  .skip))) ( .seq ( .region (o 61 (.mov (t 0)) :: o 62 (.bslice 3 1 4 [(.int .i64 0)] [(0, (i 0)), (1, (i 50)), (2, (i 500)), (3, (i 1000000000000))]) :: o 63 (.call (.func 58) [(t 61), (t 62)]) ::
  o 9 (.mov (t 63)) :: []) [] []) ( .region (o 64 (.faddr 2 (t 3)) :: o 65 (.load false 1 (t 64)) :: o 66 (.mov (t 6)) :: o 67 (.load true 2 (t 8)) :: o 68 (.mov (t 0)) :: o 69 (.mov (t 9)) :: o 70 (.min (t 69) (i 400)) ::
  o 71 (.bin .add (t 70) (i 1)) :: o 72 (.call (.func 31) [(t 68), (t 71)]) :: o 73 (.mov (t 9)) ::
  o 74 (.build [(.int .i64 0), (.string ⟨#[]⟩), (.int .i64 0), (.int .i64 0), (.int .i64 0)] [(0, 1, (t 66)), (1, 2, (t 67)), (3, 1, (t 72)), (4, 1, (t 73))]) ::
  o 75 (.bslice 46 5 1 [(.int .i64 0), (.string ⟨#[]⟩), (.int .i64 0), (.int .i64 0), (.int .i64 0)] [(0, (t 74))]) :: o 76 (.append 46 5 48 (t 65) (t 75)) :: o 77 (.faddr 2 (t 3)) ::
  s (.store 1 (t 77) (t 76)) :: []) [(1, 8), (3, 8), (1, 11)] []))))) ( .region (o 78 (.bin .add (t 49) (i 1)) :: o 49 (.mov (t 78)) :: []) [] [])))
def l_Src_Ledger_2 : CC :=
   .seq ( .seq ( .region (o 41 (.mov (t 6)) :: o 42 (.mov (t 4)) :: o 43 (.bin .leq (t 41) (t 42)) :: []) [] []) ( .cond (t 43) ( .skip) ( .exit 2))) ( .seq ( .block 3 ( .seq ( .region (o 46 (.call (.func 30) []) ::
  o 47 (.call (.func 21) []) :: o 48 (.build [(.string ⟨#[]⟩), (.int .i64 0), (.string ⟨#[]⟩), (.int .i64 0)] [(0, 2, (t 46)), (2, 2, (t 47))]) :: o 49 (.mov (i 0)) :: []) [] []) ( .block 4 ( .loop l_Src_Ledger_1)))) ( .region
  (o 44 (.mov (t 6)) :: o 45 (.bin .add (t 44) (i 1)) :: o 6 (.mov (t 45)) :: []) [] []))
def l_Src_Ledger_3 : CC :=
   .seq ( .seq ( .region (o 81 (.mov (t 10)) :: o 82 (.bin .gtr (t 81) (i 0)) :: []) [] []) ( .cond (t 82) ( .skip) ( .exit 6))) ( .seq ( .block 7 ( .seq ( .region (o 86 (.load true 7 (t 3)) :: o 87 (.mov (t 0)) ::
  o 88 (.mov (t 4)) :: o 89 (.call (.func 14) [(t 87), (i 1), (t 88)]) :: o 90 (.mov (t 0)) :: o 91 (.call (.func 23) [(t 90)]) :: o 92 (.mov (t 0)) :: o 93 (.call (.func 23) [(t 92)]) :: o 94 (.mov (t 0)) ::
  o 95 (.bslice 3 1 3 [(.int .i64 0)] [(0, (i 1)), (1, (i 10)), (2, (i 90))]) :: o 96 (.call (.func 58) [(t 94), (t 95)]) :: o 97 (.mov (t 0)) ::
  o 98 (.bslice 3 1 4 [(.int .i64 0)] [(0, (i 1)), (1, (i 2)), (2, (i 3)), (3, (i 7))]) :: o 99 (.call (.func 58) [(t 97), (t 98)]) :: o 100 (.mov (t 0)) ::
  o 101 (.bslice 3 1 4 [(.int .i64 0)] [(0, (i 1)), (1, (i 2)), (2, (i 3)), (3, (i 5))]) :: o 102 (.call (.func 58) [(t 100), (t 101)]) :: o 103 (.call (.func 59) [(t 86), (t 89), (t 91), (t 93), (t 96), (t 99), (t 102)]) ::
  o 85 (.mov (t 103)) :: o 104 (.ext (t 85) 0) :: o 105 (.ext (t 85) 1) :: o 106 (.ext (t 85) 2) ::
  o 11 (.alloc 30 [(.int .i64 0), (.slice none 0 0), (.slice none 0 0), (.slice none 0 0), (.int .i64 0), (.int .i64 0), (.int .u64 0)]) :: s (.store 7 (t 11) (t 104)) :: o 12 (.mov (t 105)) ::
  o 13 (.mov (t 106)) :: []) [(0, 3), (0, 5), (0, 7), (0, 9), (3, 9), (5, 9), (7, 9), (0, 10), (0, 12), (3, 12), (5, 12), (7, 12), (9, 12), (10, 12), (0, 13), (0, 15), (3, 15), (5, 15), (7, 15), (9, 15), (10, 15), (12, 15), (13, 15), (0, 16), (0, 22), (3, 22), (5, 22), (7, 22), (9, 22), (10, 22), (12, 22), (13, 22), (15, 22), (16, 22), (17, 22)] []) (
  .seq ( .region (o 107 (.mov (t 13)) :: o 108 (.bin .eql (t 107) (i 0)) :: []) [] []) ( .cond (t 108) ( .region (o 109 (.load true 7 (t 11)) :: s (.store 7 (t 3) (t 109)) :: []) [] []) ( .skip))))) ( .region
  (o 83 (.mov (t 10)) :: o 84 (.bin .sub (t 83) (i 1)) :: o 10 (.mov (t 84)) :: []) [] []))
def c_Src_Ledger : CC :=
  .seq ( .region (o 2 (.alloc 30 [(.int .i64 0), (.slice none 0 0), (.slice none 0 0), (.slice none 0 0), (.int .i64 0), (.int .i64 0), (.int .u64 0)]) :: []) [] []) ( .seq ( .region (o 14 (.mov (t 0)) ::
  o 15 (.call (.func 31) [(t 14), (i 5)]) :: o 16 (.mov (t 0)) :: o 17 (.call (.func 31) [(t 16), (i 50)]) :: o 18 (.mov (t 0)) :: o 19 (.call (.func 31) [(t 18), (i 1000)]) :: o 20 (.conv .u64 (t 19)) ::
  o 21 (.build [(.int .i64 0), (.slice none 0 0), (.slice none 0 0), (.slice none 0 0), (.int .i64 0), (.int .i64 0), (.int .u64 0)] [(0, 1, (t 15)), (4, 1, (i 1)), (5, 1, (t 17)), (6, 1, (t 20))]) ::
  o 3 (.alloc 30 [(.int .i64 0), (.slice none 0 0), (.slice none 0 0), (.slice none 0 0), (.int .i64 0), (.int .i64 0), (.int .u64 0)]) :: s (.store 7 (t 3) (t 21)) :: []) [] []) ( .seq ( .region (o 22 (.mov (t 0)) ::
  o 23 (.call (.func 14) [(t 22), (i 1), (i 5)]) :: o 4 (.mov (t 23)) :: []) [] []) ( .seq ( .seq ( .region (o 5 (.mov (i 1)) :: []) [] []) ( .block 0 ( .loop l_Src_Ledger_0))) ( .seq ( .seq ( .region
  (o 6 (.mov (i 1)) :: []) [] []) ( .block 2 ( .loop l_Src_Ledger_2))) ( .seq ( .seq ( .region (o 79 (.mov (t 0)) :: o 80 (.call (.func 31) [(t 79), (i 6)]) :: o 10 (.mov (t 80)) :: []) [] []) ( .block 6 (
  .loop l_Src_Ledger_3))) ( .seq ( .region (o 110 (.load true 7 (t 3)) :: s (.store 7 (t 2) (t 110)) :: []) [] []) ( .ret)))))))
theorem i_Src_Ledger : Fn PP n_Src_Ledger c_Src_Ledger 111 [.c 2 true 7] := ⟨Try.f13, Try.func13, ⟨_, rfl, by kernel_rfl⟩, by kernel_rfl, by kernel_rfl, Try.ntmps13⟩

def c_Src_Range : CC :=
  .seq ( .region (o 6 (.mov (i 0)) :: []) [] []) ( .seq ( .region (o 7 (.mov (t 1)) :: o 8 (.mov (t 0)) :: o 9 (.mov (t 2)) :: o 10 (.mov (t 1)) :: o 11 (.bin .sub (t 9) (t 10)) :: o 12 (.bin .add (t 11) (i 1)) ::
  o 13 (.call (.func 31) [(t 8), (t 12)]) :: o 14 (.bin .add (t 7) (t 13)) :: o 6 (.mov (t 14)) :: []) [] []) ( .ret))
theorem i_Src_Range : Fn PP n_Src_Range c_Src_Range 15 [.t 6] := ⟨Try.f14, Try.func14, ⟨_, rfl, by kernel_rfl⟩, by kernel_rfl, by kernel_rfl, Try.ntmps14⟩

def c_accounts_Find : CC :=
  .seq ( .region (o 4 (.alloc 34 [(.int .i64 0), (.int .i64 0), (.int .i64 0)]) :: o 5 (.mov (b false)) :: []) [] []) ( .seq ( .region (o 7 (.mov (t 0)) :: o 8 (.mov (t 1)) :: o 9 (.call (.func 60) [(t 7), (t 8)]) ::
  o 6 (.mov (t 9)) :: []) [] []) ( .seq ( .seq ( .region (o 10 (.mov (t 6)) :: o 11 (.bin .lss (t 10) (i 0)) :: []) [] []) ( .cond (t 11) ( .seq ( .region (o 12 (.build [(.int .i64 0), (.int .i64 0), (.int .i64 0)] []) ::
  s (.store 3 (t 4) (t 12)) :: o 5 (.mov (b false)) :: []) [] []) ( .ret)) ( .skip))) ( .seq ( .region (o 13 (.mov (t 0)) :: o 14 (.mov (t 6)) :: o 15 (.iaddr 3 (t 13) (t 14)) :: o 16 (.load true 3 (t 15)) ::
  s (.store 3 (t 4) (t 16)) :: o 5 (.mov (b true)) :: []) [] []) ( .ret))))
theorem i_accounts_Find : Fn PP n_accounts_Find c_accounts_Find 17 [.c 4 true 3, .t 5] := ⟨Try.f15, Try.func15, ⟨_, rfl, by kernel_rfl⟩, by kernel_rfl, by kernel_rfl, Try.ntmps15⟩

def c_accounts_Begin : CC :=
  .seq ( .region (o 6 (.box 3 1 (t 2)) :: o 7 (.box 3 1 (t 3)) :: o 8 (.mov (.const (.slice none 0 0))) :: o 9 (.mov (i 0)) :: []) [] []) ( .seq ( .region (o 10 (.mov (t 0)) :: o 11 (.mov (t 1)) ::
  o 12 (.mkfn 62 [(t 6), (t 7)]) :: o 13 (.call (.func 61) [(t 10), (t 11), (t 12)]) :: o 14 (.ext (t 13) 0) :: o 15 (.ext (t 13) 1) :: o 8 (.mov (t 14)) :: o 9 (.mov (t 15)) :: []) [] []) ( .ret))
theorem i_accounts_Begin : Fn PP n_accounts_Begin c_accounts_Begin 16 [.t 8, .t 9] := ⟨Try.f16, Try.func16, ⟨_, rfl, by kernel_rfl⟩, by kernel_rfl, by kernel_rfl, Try.ntmps16⟩

def c_law36_sane : CC :=
  .seq ( .region (o 0 (.mov (b false)) :: []) [] []) ( .seq ( .region (o 4 (.build [(.int .i64 0), (.int .i64 0), (.int .i64 0)] [(0, 1, (i 2)), (1, 1, (i 10))]) ::
  o 5 (.bslice 34 3 1 [(.int .i64 0), (.int .i64 0), (.int .i64 0)] [(0, (t 4))]) :: o 6 (.call (.func 16) [(t 5), (i 2), (i 1), (i 5)]) :: o 3 (.mov (t 6)) :: o 7 (.ext (t 3) 0) :: o 8 (.ext (t 3) 1) :: o 1 (.mov (t 7)) ::
  o 2 (.mov (t 8)) :: []) [] []) ( .seq ( .region (o 9 (.mov (t 2)) :: o 10 (.bin .eql (t 9) (i 0)) :: o 11 (.mov (t 10)) :: g 12 (.mov (t 1)) 11 true ::
  g 13 (.build [(.int .i64 0), (.int .i64 0), (.int .i64 0)] [(0, 1, (i 2)), (1, 1, (i 5)), (2, 1, (i 1))]) 11 true :: g 14 (.bslice 34 3 1 [(.int .i64 0), (.int .i64 0), (.int .i64 0)] [(0, (t 13))]) 11 true ::
  g 15 (.call (.func 39) [(t 12), (t 14)]) 11 true :: o 16 (.pick (t 11) (t 15) (b false)) :: o 17 (.mov (t 16)) :: g 18 (.mov (t 1)) 17 true :: g 19 (.call (.func 18) [(t 18)]) 17 true :: g 20 (.bin .eql (t 19) (i 5)) 17 true ::
  o 21 (.pick (t 17) (t 20) (b false)) :: o 0 (.mov (t 21)) :: []) [] []) ( .ret)))
theorem i_law36_sane : Fn PP n_law36_sane c_law36_sane 22 [.t 0] := ⟨Try.f17, Try.func17, ⟨_, rfl, by kernel_rfl⟩, by kernel_rfl, by kernel_rfl, Try.ntmps17⟩

def l_accounts_Total_0 : CC :=
   .seq ( .region (o 9 (.bin .lss (t 8) (t 7)) :: []) [] []) ( .seq ( .cond (t 9) ( .skip) ( .exit 0)) ( .seq ( .block 1 ( .seq ( .region (o 10 (.iaddr 3 (t 6) (t 8)) :: o 11 (.load true 3 (t 10)) ::
  o 5 (.alloc 34 [(.int .i64 0), (.int .i64 0), (.int .i64 0)]) :: s (.store 3 (t 5) (t 11)) :: []) [] []) ( .region (o 12 (.mov (t 3)) :: o 13 (.faddr 1 (t 5)) :: o 14 (.load false 1 (t 13)) :: o 15 (.bin .add (t 12) (t 14)) ::
  o 3 (.mov (t 15)) :: []) [] []))) ( .region (o 16 (.bin .add (t 8) (i 1)) :: o 8 (.mov (t 16)) :: []) [] [])))
def c_accounts_Total : CC :=
  .seq ( .region (o 2 (.mov (i 0)) :: []) [] []) ( .seq ( .region (o 3 (.mov (i 0)) :: []) [] []) ( .seq ( .seq ( .region (o 6 (.mov (t 0)) :: o 7 (.len (t 6)) :: o 8 (.mov (i 0)) :: []) [] []) ( .block 0 (
  .loop l_accounts_Total_0))) ( .seq ( .seq ( .region (o 17 (.mov (t 0)) :: o 18 (.call (.func 34) [(t 17)]) :: o 19 (.bin .neq (t 18) (i 0)) :: []) [] []) ( .cond (t 19) ( .seq ( .region (o 2 (.mov (i 0)) :: []) [] []) (
  .ret)) ( .skip))) ( .seq ( .region (o 20 (.mov (t 3)) :: o 2 (.mov (t 20)) :: []) [] []) ( .ret)))))
theorem i_accounts_Total : Fn PP n_accounts_Total c_accounts_Total 21 [.t 2] := ⟨Try.f18, Try.func18, ⟨_, rfl, by kernel_rfl⟩, by kernel_rfl, by kernel_rfl, Try.ntmps18⟩

def c_trustlines_Held : CC :=
  .seq ( .region (o 3 (.box 30 7 (t 0)) :: o 5 (.box 44 2 (t 2)) :: o 6 (.mov (i 0)) :: []) [] []) ( .seq ( .seq ( .region (o 9 (.load true 7 (t 3)) :: o 10 (.call (.func 63) [(t 9)]) :: o 11 (.un .not (t 10)) :: []) [] []) (
  .cond (t 11) ( .seq ( .region (o 6 (.mov (i 0)) :: []) [] []) ( .ret)) ( .skip))) ( .seq ( .region (o 13 (.load true 7 (t 3)) :: o 14 (.mov (t 1)) :: o 15 (.load true 2 (t 5)) ::
  o 16 (.call (.func 64) [(t 13), (t 14), (t 15)]) :: o 12 (.mov (t 16)) :: o 17 (.ext (t 12) 0) :: o 18 (.ext (t 12) 1) :: o 7 (.alloc 88 [(.int .i64 0), (.int .i64 0)]) :: s (.store 2 (t 7) (t 17)) ::
  o 8 (.mov (t 18)) :: []) [] []) ( .seq ( .region (o 19 (.faddr 0 (t 7)) :: o 20 (.load false 1 (t 19)) :: o 6 (.mov (t 20)) :: []) [] []) ( .ret))))
theorem i_trustlines_Held : Fn PP n_trustlines_Held c_trustlines_Held 21 [.t 6] := ⟨Try.f19, Try.func19, ⟨_, rfl, by kernel_rfl⟩, by kernel_rfl, by kernel_rfl, Try.ntmps19⟩

def c_trustlines_Room : CC :=
  .seq ( .region (o 3 (.box 30 7 (t 0)) :: o 5 (.box 44 2 (t 2)) :: o 6 (.mov (i 0)) :: []) [] []) ( .seq ( .seq ( .region (o 9 (.load true 7 (t 3)) :: o 10 (.call (.func 63) [(t 9)]) :: o 11 (.un .not (t 10)) :: []) [] []) (
  .cond (t 11) ( .seq ( .region (o 6 (.mov (i 0)) :: []) [] []) ( .ret)) ( .skip))) ( .seq ( .region (o 13 (.load true 7 (t 3)) :: o 14 (.mov (t 1)) :: o 15 (.load true 2 (t 5)) ::
  o 16 (.call (.func 64) [(t 13), (t 14), (t 15)]) :: o 12 (.mov (t 16)) :: o 17 (.ext (t 12) 0) :: o 18 (.ext (t 12) 1) :: o 7 (.alloc 88 [(.int .i64 0), (.int .i64 0)]) :: s (.store 2 (t 7) (t 17)) ::
  o 8 (.mov (t 18)) :: []) [] []) ( .seq ( .region (o 19 (.faddr 1 (t 7)) :: o 20 (.load false 1 (t 19)) :: o 6 (.mov (t 20)) :: []) [] []) ( .ret))))
theorem i_trustlines_Room : Fn PP n_trustlines_Room c_trustlines_Room 21 [.t 6] := ⟨Try.f20, Try.func20, ⟨_, rfl, by kernel_rfl⟩, by kernel_rfl, by kernel_rfl, Try.ntmps20⟩

def c_mk_Usd : CC :=
  .seq ( .region (o 0 (.alloc 44 [(.string ⟨#[]⟩), (.int .i64 0)]) :: []) [] []) ( .seq ( .region (o 1 (.build [(.string ⟨#[]⟩), (.int .i64 0)] [(0, 1, (.const (.string ⟨#[85, 83, 68]⟩))), (1, 1, (i 1))]) ::
  s (.store 2 (t 0) (t 1)) :: []) [] []) ( .ret))
theorem i_mk_Usd : Fn PP n_mk_Usd c_mk_Usd 2 [.c 0 true 2] := ⟨Try.f21, Try.func21, ⟨_, rfl, by kernel_rfl⟩, by kernel_rfl, by kernel_rfl, Try.ntmps21⟩

def c_law37_sane : CC :=
  .seq ( .region (o 0 (.mov (b false)) :: []) [] []) ( .seq ( .region (o 6 (.build [(.int .i64 0), (.int .i64 0), (.int .i64 0)] [(0, 1, (i 1))]) :: o 7 (.build [(.int .i64 0), (.int .i64 0), (.int .i64 0)] [(0, 1, (i 2))]) ::
  o 8 (.bslice 34 3 2 [(.int .i64 0), (.int .i64 0), (.int .i64 0)] [(0, (t 6)), (1, (t 7))]) :: o 9 (.call (.func 21) []) ::
  o 10 (.build [(.int .i64 0), (.string ⟨#[]⟩), (.int .i64 0), (.int .i64 0), (.int .i64 0)] [(0, 1, (i 2)), (1, 2, (t 9)), (4, 1, (i 4))]) ::
  o 11 (.bslice 46 5 1 [(.int .i64 0), (.string ⟨#[]⟩), (.int .i64 0), (.int .i64 0), (.int .i64 0)] [(0, (t 10))]) ::
  o 12 (.build [(.int .i64 0), (.slice none 0 0), (.slice none 0 0), (.slice none 0 0), (.int .i64 0), (.int .i64 0), (.int .u64 0)] [(1, 1, (t 8)), (2, 1, (t 11))]) ::
  o 1 (.alloc 30 [(.int .i64 0), (.slice none 0 0), (.slice none 0 0), (.slice none 0 0), (.int .i64 0), (.int .i64 0), (.int .u64 0)]) :: s (.store 7 (t 1) (t 12)) :: []) [] []) ( .seq ( .region (o 14 (.load true 7 (t 1)) ::
  o 15 (.call (.func 21) []) :: o 16 (.call (.func 24) [(t 14), (i 2), (t 15), (i 5)]) :: o 13 (.mov (t 16)) :: o 17 (.ext (t 13) 0) :: o 18 (.ext (t 13) 1) ::
  o 2 (.alloc 30 [(.int .i64 0), (.slice none 0 0), (.slice none 0 0), (.slice none 0 0), (.int .i64 0), (.int .i64 0), (.int .u64 0)]) :: s (.store 7 (t 2) (t 17)) ::
  o 3 (.mov (t 18)) :: []) [(0, 1), (0, 6), (1, 6), (2, 6)] []) ( .seq ( .region (o 20 (.load true 7 (t 1)) :: o 21 (.call (.func 21) []) :: o 22 (.call (.func 24) [(t 20), (i 2), (t 21), (i 4)]) :: o 19 (.mov (t 22)) ::
  o 23 (.ext (t 19) 0) :: o 24 (.ext (t 19) 1) :: o 4 (.alloc 30 [(.int .i64 0), (.slice none 0 0), (.slice none 0 0), (.slice none 0 0), (.int .i64 0), (.int .i64 0), (.int .u64 0)]) :: s (.store 7 (t 4) (t 23)) ::
  o 5 (.mov (t 24)) :: []) [(0, 1), (0, 6), (1, 6), (2, 6)] []) ( .seq ( .region (o 25 (.mov (t 3)) :: o 26 (.bin .eql (t 25) (i 70)) :: o 27 (.mov (t 26)) :: g 28 (.mov (t 5)) 27 true :: g 29 (.bin .eql (t 28) (i 0)) 27 true ::
  o 30 (.pick (t 27) (t 29) (b false)) :: o 31 (.mov (t 30)) :: g 32 (.load true 7 (t 4)) 31 true :: g 33 (.call (.func 21) []) 31 true :: g 34 (.call (.func 19) [(t 32), (i 2), (t 33)]) 31 true ::
  g 35 (.bin .eql (t 34) (i 4)) 31 true :: o 36 (.pick (t 31) (t 35) (b false)) :: o 37 (.mov (t 36)) :: g 38 (.load true 7 (t 1)) 37 true :: g 39 (.call (.func 21) []) 37 true ::
  g 40 (.call (.func 20) [(t 38), (i 2), (t 39)]) 37 true :: g 41 (.bin .eql (t 40) (i 4)) 37 true :: o 42 (.pick (t 37) (t 41) (b false)) :: o 43 (.mov (t 42)) :: g 44 (.faddr 2 (t 4)) 43 true ::
  g 45 (.load false 1 (t 44)) 43 true :: g 46 (.call (.func 21) []) 43 true :: g 47 (.call (.func 29) [(t 45), (t 46)]) 43 true :: g 48 (.bin .eql (t 47) (i 4)) 43 true :: o 49 (.pick (t 43) (t 48) (b false)) ::
  o 0 (.mov (t 49)) :: []) [(7, 8), (13, 14), (20, 21)] []) ( .ret)))))
theorem i_law37_sane : Fn PP n_law37_sane c_law37_sane 50 [.t 0] := ⟨Try.f22, Try.func22, ⟨_, rfl, by kernel_rfl⟩, by kernel_rfl, by kernel_rfl, Try.ntmps22⟩

def c_Src_Asset : CC :=
  .seq ( .region (o 2 (.alloc 44 [(.string ⟨#[]⟩), (.int .i64 0)]) :: []) [] []) ( .seq ( .region (o 3 (.build [(.string ⟨#[]⟩), (.int .i64 0)] []) :: o 4 (.call (.func 21) []) :: o 5 (.call (.func 30) []) ::
  o 6 (.bslice 44 2 3 [(.string ⟨#[]⟩), (.int .i64 0)] [(0, (t 3)), (1, (t 4)), (2, (t 5))]) :: o 7 (.mov (t 0)) :: o 8 (.call (.func 31) [(t 7), (i 3)]) :: o 9 (.iaddr 2 (t 6) (t 8)) :: o 10 (.load true 2 (t 9)) ::
  s (.store 2 (t 2) (t 10)) :: []) [] []) ( .ret))
theorem i_Src_Asset : Fn PP n_Src_Asset c_Src_Asset 11 [.c 2 true 2] := ⟨Try.f23, Try.func23, ⟨_, rfl, by kernel_rfl⟩, by kernel_rfl, by kernel_rfl, Try.ntmps23⟩

def c_trustlines_Credit : CC :=
  .seq ( .region (o 4 (.box 30 7 (t 0)) :: o 6 (.box 44 2 (t 2)) :: o 8 (.alloc 30 [(.int .i64 0), (.slice none 0 0), (.slice none 0 0), (.slice none 0 0), (.int .i64 0), (.int .i64 0), (.int .u64 0)]) ::
  o 9 (.mov (i 0)) :: []) [] []) ( .seq ( .seq ( .region (o 13 (.load true 7 (t 4)) :: o 14 (.mov (t 1)) :: o 15 (.load true 2 (t 6)) :: o 16 (.mov (t 3)) :: o 17 (.call (.func 65) [(t 13), (t 14), (t 15), (t 16)]) ::
  o 10 (.mov (t 17)) :: []) [] []) ( .seq ( .region (o 18 (.mov (t 10)) :: o 19 (.bin .neq (t 18) (i 0)) :: []) [] []) ( .cond (t 19) ( .seq ( .region
  (o 20 (.build [(.int .i64 0), (.slice none 0 0), (.slice none 0 0), (.slice none 0 0), (.int .i64 0), (.int .i64 0), (.int .u64 0)] []) :: o 21 (.mov (t 10)) :: s (.store 7 (t 8) (t 20)) :: o 9 (.mov (t 21)) :: []) [] []) (
  .ret)) ( .skip)))) ( .seq ( .seq ( .region (o 23 (.load true 7 (t 4)) :: o 24 (.mov (t 1)) :: o 25 (.load true 2 (t 6)) :: o 26 (.call (.func 64) [(t 23), (t 24), (t 25)]) :: o 22 (.mov (t 26)) :: o 27 (.ext (t 22) 0) ::
  o 28 (.ext (t 22) 1) :: o 11 (.alloc 88 [(.int .i64 0), (.int .i64 0)]) :: s (.store 2 (t 11) (t 27)) :: o 12 (.mov (t 28)) :: []) [] []) ( .block 0 ( .seq ( .region (o 30 (.mov (t 12)) :: o 31 (.un .not (t 30)) ::
  o 32 (.mov (t 31)) :: g 33 (.mov (t 3)) 32 false :: g 34 (.faddr 1 (t 11)) 32 false :: g 35 (.load false 1 (t 34)) 32 false :: g 36 (.bin .gtr (t 33) (t 35)) 32 false :: g 37 (.mov (t 36)) 32 false ::
  g 38 (.load true 2 (t 6)) 37 true :: g 39 (.call (.func 66) [(t 38)]) 37 true :: g 40 (.un .not (t 39)) 37 true :: g 41 (.pick (t 37) (t 40) (b false)) 32 false :: o 42 (.pick (t 32) (b true) (t 41)) ::
  o 29 (.mov (t 42)) :: []) [] []) ( .cond (t 29) ( .seq ( .region (o 43 (.build [(.int .i64 0), (.slice none 0 0), (.slice none 0 0), (.slice none 0 0), (.int .i64 0), (.int .i64 0), (.int .u64 0)] []) ::
  s (.store 7 (t 8) (t 43)) :: o 9 (.mov (i 70)) :: []) [] []) ( .ret)) ( .seq ( .region (o 45 (.mov (t 3)) :: o 46 (.faddr 1 (t 11)) :: o 47 (.load false 1 (t 46)) :: o 48 (.bin .gtr (t 45) (t 47)) ::
  o 44 (.mov (t 48)) :: []) [] []) ( .cond (t 44) ( .seq ( .region (o 49 (.build [(.int .i64 0), (.slice none 0 0), (.slice none 0 0), (.slice none 0 0), (.int .i64 0), (.int .i64 0), (.int .u64 0)] []) ::
  s (.store 7 (t 8) (t 49)) :: o 9 (.mov (i 65)) :: []) [] []) ( .ret)) ( .skip))))))) ( .seq ( .region (o 50 (.load true 7 (t 4)) :: o 51 (.mov (t 1)) :: o 52 (.load true 2 (t 6)) :: o 53 (.mov (t 3)) ::
  o 54 (.call (.func 67) [(t 50), (t 51), (t 52), (t 53)]) :: s (.store 7 (t 8) (t 54)) :: o 9 (.mov (i 0)) :: []) [] []) ( .ret))))
theorem i_trustlines_Credit : Fn PP n_trustlines_Credit c_trustlines_Credit 55 [.c 8 true 7, .t 9] := ⟨Try.f24, Try.func24, ⟨_, rfl, by kernel_rfl⟩, by kernel_rfl, by kernel_rfl, Try.ntmps24⟩

def c_trustlines_Find : CC :=
  .seq ( .region (o 5 (.box 44 2 (t 2)) :: o 6 (.alloc 46 [(.int .i64 0), (.string ⟨#[]⟩), (.int .i64 0), (.int .i64 0), (.int .i64 0)]) :: o 7 (.mov (b false)) :: []) [] []) ( .seq ( .region (o 9 (.mov (t 0)) ::
  o 10 (.mov (t 1)) :: o 11 (.load true 2 (t 5)) :: o 12 (.call (.func 68) [(t 9), (t 10), (t 11)]) :: o 8 (.mov (t 12)) :: []) [] []) ( .seq ( .seq ( .region (o 13 (.mov (t 8)) :: o 14 (.bin .lss (t 13) (i 0)) :: []) [] []) (
  .cond (t 14) ( .seq ( .region (o 15 (.build [(.int .i64 0), (.string ⟨#[]⟩), (.int .i64 0), (.int .i64 0), (.int .i64 0)] []) :: s (.store 5 (t 6) (t 15)) :: o 7 (.mov (b false)) :: []) [] []) ( .ret)) ( .skip))) ( .seq (
  .region (o 16 (.mov (t 0)) :: o 17 (.mov (t 8)) :: o 18 (.iaddr 5 (t 16) (t 17)) :: o 19 (.load true 5 (t 18)) :: s (.store 5 (t 6) (t 19)) :: o 7 (.mov (b true)) :: []) [] []) ( .ret))))
theorem i_trustlines_Find : Fn PP n_trustlines_Find c_trustlines_Find 20 [.c 6 true 5, .t 7] := ⟨Try.f25, Try.func25, ⟨_, rfl, by kernel_rfl⟩, by kernel_rfl, by kernel_rfl, Try.ntmps25⟩

def c_trustlines_Debit : CC :=
  .seq ( .region (o 4 (.box 30 7 (t 0)) :: o 6 (.box 44 2 (t 2)) :: o 8 (.alloc 30 [(.int .i64 0), (.slice none 0 0), (.slice none 0 0), (.slice none 0 0), (.int .i64 0), (.int .i64 0), (.int .u64 0)]) ::
  o 9 (.mov (i 0)) :: []) [] []) ( .seq ( .seq ( .region (o 13 (.load true 7 (t 4)) :: o 14 (.mov (t 1)) :: o 15 (.load true 2 (t 6)) :: o 16 (.mov (t 3)) :: o 17 (.call (.func 65) [(t 13), (t 14), (t 15), (t 16)]) ::
  o 10 (.mov (t 17)) :: []) [] []) ( .seq ( .region (o 18 (.mov (t 10)) :: o 19 (.bin .neq (t 18) (i 0)) :: []) [] []) ( .cond (t 19) ( .seq ( .region
  (o 20 (.build [(.int .i64 0), (.slice none 0 0), (.slice none 0 0), (.slice none 0 0), (.int .i64 0), (.int .i64 0), (.int .u64 0)] []) :: o 21 (.mov (t 10)) :: s (.store 7 (t 8) (t 20)) :: o 9 (.mov (t 21)) :: []) [] []) (
  .ret)) ( .skip)))) ( .seq ( .seq ( .region (o 23 (.load true 7 (t 4)) :: o 24 (.mov (t 1)) :: o 25 (.load true 2 (t 6)) :: o 26 (.call (.func 64) [(t 23), (t 24), (t 25)]) :: o 22 (.mov (t 26)) :: o 27 (.ext (t 22) 0) ::
  o 28 (.ext (t 22) 1) :: o 11 (.alloc 88 [(.int .i64 0), (.int .i64 0)]) :: s (.store 2 (t 11) (t 27)) :: o 12 (.mov (t 28)) :: []) [] []) ( .block 0 ( .seq ( .region (o 30 (.mov (t 12)) :: o 31 (.un .not (t 30)) ::
  o 29 (.mov (t 31)) :: []) [] []) ( .cond (t 29) ( .seq ( .region (o 32 (.build [(.int .i64 0), (.slice none 0 0), (.slice none 0 0), (.slice none 0 0), (.int .i64 0), (.int .i64 0), (.int .u64 0)] []) ::
  s (.store 7 (t 8) (t 32)) :: o 9 (.mov (i 70)) :: []) [] []) ( .ret)) ( .seq ( .region (o 34 (.mov (t 3)) :: o 35 (.faddr 0 (t 11)) :: o 36 (.load false 1 (t 35)) :: o 37 (.bin .gtr (t 34) (t 36)) ::
  o 33 (.mov (t 37)) :: []) [] []) ( .cond (t 33) ( .seq ( .region (o 38 (.build [(.int .i64 0), (.slice none 0 0), (.slice none 0 0), (.slice none 0 0), (.int .i64 0), (.int .i64 0), (.int .u64 0)] []) ::
  s (.store 7 (t 8) (t 38)) :: o 9 (.mov (i 66)) :: []) [] []) ( .ret)) ( .skip))))))) ( .seq ( .region (o 39 (.load true 7 (t 4)) :: o 40 (.mov (t 1)) :: o 41 (.load true 2 (t 6)) :: o 42 (.mov (t 3)) ::
  o 43 (.un .neg (t 42)) :: o 44 (.call (.func 67) [(t 39), (t 40), (t 41), (t 43)]) :: s (.store 7 (t 8) (t 44)) :: o 9 (.mov (i 0)) :: []) [] []) ( .ret))))
theorem i_trustlines_Debit : Fn PP n_trustlines_Debit c_trustlines_Debit 45 [.c 8 true 7, .t 9] := ⟨Try.f26, Try.func26, ⟨_, rfl, by kernel_rfl⟩, by kernel_rfl, by kernel_rfl, Try.ntmps26⟩

def l_r37_Ledgers_0 : CC :=
   .seq ( .region (o 61 (.bin .lss (t 60) (t 59)) :: []) [] []) ( .seq ( .cond (t 61) ( .skip) ( .exit 0)) ( .seq ( .block 1 ( .seq ( .region (o 62 (.mov (t 60)) :: o 5 (.mov (t 62)) :: []) [] []) ( .seq ( .region
  (o 63 (.faddr 3 (t 2)) :: o 64 (.load false 1 (t 63)) :: o 65 (.mov (t 5)) :: o 66 (.iaddr 9 (t 64) (t 65)) :: o 67 (.load true 9 (t 66)) :: o 68 (.faddr 3 (t 3)) :: o 69 (.load false 1 (t 68)) :: o 70 (.mov (t 5)) ::
  o 71 (.iaddr 9 (t 69) (t 70)) :: o 72 (.load true 9 (t 71)) :: o 73 (.eqs true [(0, false), (1, false), (2, true), (3, false), (4, true), (5, false), (6, false), (7, false), (8, false)] (t 67) (t 72)) :: []) [] []) (
  .cond (t 73) ( .seq ( .region (o 4 (.mov (b false)) :: []) [] []) ( .ret)) ( .skip))))) ( .region (o 74 (.bin .add (t 60) (i 1)) :: o 60 (.mov (t 74)) :: []) [] [])))
def c_r37_Ledgers : CC :=
  .seq ( .region (o 2 (.box 30 7 (t 0)) :: o 3 (.box 30 7 (t 1)) :: o 4 (.mov (b false)) :: []) [] []) ( .seq ( .seq ( .region (o 6 (.faddr 0 (t 2)) :: o 7 (.load false 1 (t 6)) :: o 8 (.faddr 0 (t 3)) ::
  o 9 (.load false 1 (t 8)) :: o 10 (.bin .neq (t 7) (t 9)) :: o 11 (.mov (t 10)) :: g 12 (.faddr 4 (t 2)) 11 false :: g 13 (.load false 1 (t 12)) 11 false :: g 14 (.faddr 4 (t 3)) 11 false ::
  g 15 (.load false 1 (t 14)) 11 false :: g 16 (.bin .neq (t 13) (t 15)) 11 false :: o 17 (.pick (t 11) (b true) (t 16)) :: o 18 (.mov (t 17)) :: g 19 (.faddr 5 (t 2)) 18 false :: g 20 (.load false 1 (t 19)) 18 false ::
  g 21 (.faddr 5 (t 3)) 18 false :: g 22 (.load false 1 (t 21)) 18 false :: g 23 (.bin .neq (t 20) (t 22)) 18 false :: o 24 (.pick (t 18) (b true) (t 23)) :: o 25 (.mov (t 24)) :: g 26 (.faddr 6 (t 2)) 25 false ::
  g 27 (.load false 1 (t 26)) 25 false :: g 28 (.faddr 6 (t 3)) 25 false :: g 29 (.load false 1 (t 28)) 25 false :: g 30 (.bin .neq (t 27) (t 29)) 25 false :: o 31 (.pick (t 25) (b true) (t 30)) :: o 32 (.mov (t 31)) ::
  g 33 (.faddr 1 (t 2)) 32 false :: g 34 (.load false 1 (t 33)) 32 false :: g 35 (.faddr 1 (t 3)) 32 false :: g 36 (.load false 1 (t 35)) 32 false :: g 37 (.call (.func 39) [(t 34), (t 36)]) 32 false ::
  g 38 (.un .not (t 37)) 32 false :: o 39 (.pick (t 32) (b true) (t 38)) :: o 40 (.mov (t 39)) :: g 41 (.faddr 2 (t 2)) 40 false :: g 42 (.load false 1 (t 41)) 40 false :: g 43 (.faddr 2 (t 3)) 40 false ::
  g 44 (.load false 1 (t 43)) 40 false :: g 45 (.call (.func 55) [(t 42), (t 44)]) 40 false :: g 46 (.un .not (t 45)) 40 false :: o 47 (.pick (t 40) (b true) (t 46)) :: o 48 (.mov (t 47)) :: g 49 (.faddr 3 (t 2)) 48 false ::
  g 50 (.load false 1 (t 49)) 48 false :: g 51 (.len (t 50)) 48 false :: g 52 (.faddr 3 (t 3)) 48 false :: g 53 (.load false 1 (t 52)) 48 false :: g 54 (.len (t 53)) 48 false :: g 55 (.bin .neq (t 51) (t 54)) 48 false ::
  o 56 (.pick (t 48) (b true) (t 55)) :: []) [] []) ( .cond (t 56) ( .seq ( .region (o 4 (.mov (b false)) :: []) [] []) ( .ret)) ( .skip))) ( .seq ( .seq ( .region (o 57 (.faddr 3 (t 2)) :: o 58 (.load false 1 (t 57)) ::
  o 59 (.len (t 58)) :: o 60 (.mov (i 0)) :: []) [] []) ( .block 0 ( .loop l_r37_Ledgers_0))) ( .seq ( .region (o 4 (.mov (b true)) :: []) [] []) ( .ret))))
theorem i_r37_Ledgers : Fn PP n_r37_Ledgers c_r37_Ledgers 75 [.t 4] := ⟨Try.f27, Try.func27, ⟨_, rfl, by kernel_rfl⟩, by kernel_rfl, by kernel_rfl, Try.ntmps27⟩

end Go.Proofs.Ytneoeegpceompaa.AM
