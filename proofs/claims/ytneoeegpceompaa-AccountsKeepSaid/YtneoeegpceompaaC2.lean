/-
The compact codes of the program's functions, part 2: printed by codes.py.
-/
import Derived.Test.YtneoeegpceompaaN
import Derived.KernelRfl
set_option linter.unusedVariables false
set_option linter.unusedSimpArgs false
namespace Go.Proofs.Ytneoeegpceompaa.AM
open Go Go.Proofs
open Go.Proofs.Ytneoeegpceompaa.AM.K

def l_trustlines_Check_0 : CC :=
   .seq ( .region (o 21 (.bin .lss (t 20) (t 19)) :: []) [] []) ( .seq ( .cond (t 21) ( .skip) ( .exit 0)) ( .seq ( .block 1 ( .seq ( .region (o 22 (.mov (t 20)) :: o 23 (.iaddr 5 (t 18) (t 20)) :: o 24 (.load true 5 (t 23)) ::
  o 7 (.alloc 46 [(.int .i64 0), (.string ⟨#[]⟩), (.int .i64 0), (.int .i64 0), (.int .i64 0)]) :: o 6 (.mov (t 22)) :: s (.store 5 (t 7) (t 24)) :: []) [] []) ( .seq ( .region (o 26 (.mov (t 1)) :: o 27 (.faddr 0 (t 7)) ::
  o 28 (.load false 1 (t 27)) :: o 29 (.call (.func 15) [(t 26), (t 28)]) :: o 25 (.mov (t 29)) :: o 30 (.ext (t 25) 0) :: o 31 (.ext (t 25) 1) :: o 8 (.alloc 34 [(.int .i64 0), (.int .i64 0), (.int .i64 0)]) ::
  s (.store 3 (t 8) (t 30)) :: o 9 (.mov (t 31)) :: []) [] []) ( .seq ( .region (o 32 (.mov (t 9)) :: o 33 (.un .not (t 32)) :: o 34 (.mov (t 33)) :: g 35 (.faddr 1 (t 7)) 34 false :: g 36 (.load true 2 (t 35)) 34 false ::
  g 37 (.call (.func 69) [(t 36)]) 34 false :: g 38 (.un .not (t 37)) 34 false :: o 39 (.pick (t 34) (b true) (t 38)) :: o 40 (.mov (t 39)) :: g 41 (.faddr 1 (t 7)) 40 false :: g 42 (.load true 2 (t 41)) 40 false ::
  g 43 (.call (.func 66) [(t 42)]) 40 false :: o 44 (.pick (t 40) (b true) (t 43)) :: o 45 (.mov (t 44)) :: g 46 (.faddr 1 (t 7)) 45 false :: g 47 (.faddr 1 (t 46)) 45 false :: g 48 (.load false 1 (t 47)) 45 false ::
  g 49 (.faddr 0 (t 7)) 45 false :: g 50 (.load false 1 (t 49)) 45 false :: g 51 (.bin .eql (t 48) (t 50)) 45 false :: o 52 (.pick (t 45) (b true) (t 51)) :: o 53 (.mov (t 52)) :: g 54 (.faddr 4 (t 7)) 53 false ::
  g 55 (.load false 1 (t 54)) 53 false :: g 56 (.call (.func 70) [(t 55)]) 53 false :: g 57 (.un .not (t 56)) 53 false :: o 58 (.pick (t 53) (b true) (t 57)) :: o 59 (.mov (t 58)) :: g 60 (.faddr 3 (t 7)) 59 false ::
  g 61 (.load false 1 (t 60)) 59 false :: g 62 (.bin .lss (t 61) (i 0)) 59 false :: o 63 (.pick (t 59) (b true) (t 62)) :: o 64 (.mov (t 63)) :: g 65 (.faddr 3 (t 7)) 64 false :: g 66 (.load false 1 (t 65)) 64 false ::
  g 67 (.faddr 4 (t 7)) 64 false :: g 68 (.load false 1 (t 67)) 64 false :: g 69 (.bin .gtr (t 66) (t 68)) 64 false :: o 70 (.pick (t 64) (b true) (t 69)) :: o 71 (.mov (t 70)) :: g 72 (.mov (t 6)) 71 false ::
  g 73 (.bin .gtr (t 72) (i 0)) 71 false :: g 74 (.mov (t 73)) 71 false :: g 75 (.mov (t 0)) 74 true :: g 76 (.mov (t 6)) 74 true :: g 77 (.bin .sub (t 76) (i 1)) 74 true :: g 78 (.iaddr 5 (t 75) (t 77)) 74 true ::
  g 79 (.load true 5 (t 78)) 74 true :: g 80 (.call (.func 71) [(t 79)]) 74 true :: g 81 (.load true 5 (t 7)) 74 true :: g 82 (.call (.func 71) [(t 81)]) 74 true :: g 83 (.call (.func 72) [(t 80), (t 82)]) 74 true ::
  g 84 (.bin .geq (t 83) (i 0)) 74 true :: g 85 (.pick (t 74) (t 84) (b false)) 71 false :: o 86 (.pick (t 71) (b true) (t 85)) :: []) [(48, 49)] []) ( .cond (t 86) ( .seq ( .region (o 4 (.mov (i 74)) :: []) [] []) ( .ret)) (
  .skip)))))) ( .region (o 87 (.bin .add (t 20) (i 1)) :: o 20 (.mov (t 87)) :: []) [] [])))
def c_trustlines_Check : CC :=
  .seq ( .region (o 4 (.mov (i 0)) :: []) [] []) ( .seq ( .seq ( .region (o 10 (.mov (t 1)) :: o 11 (.call (.func 34) [(t 10)]) :: o 5 (.mov (t 11)) :: []) [] []) ( .seq ( .region (o 12 (.mov (t 5)) ::
  o 13 (.bin .neq (t 12) (i 0)) :: []) [] []) ( .cond (t 13) ( .seq ( .region (o 14 (.mov (t 5)) :: o 4 (.mov (t 14)) :: []) [] []) ( .ret)) ( .skip)))) ( .seq ( .seq ( .region (o 15 (.mov (t 0)) :: o 16 (.len (t 15)) ::
  o 17 (.bin .gtr (t 16) (i 60)) :: []) [] []) ( .cond (t 17) ( .seq ( .region (o 4 (.mov (i 3)) :: []) [] []) ( .ret)) ( .skip))) ( .seq ( .seq ( .region (o 18 (.mov (t 0)) :: o 19 (.len (t 18)) ::
  o 20 (.mov (i 0)) :: []) [] []) ( .block 0 ( .loop l_trustlines_Check_0))) ( .seq ( .region (o 4 (.mov (i 0)) :: []) [] []) ( .ret)))))
theorem i_trustlines_Check : Fn PP n_trustlines_Check c_trustlines_Check 88 [.t 4] := ⟨Try.f28, Try.func28, ⟨_, rfl, by kernel_rfl⟩, by kernel_rfl, by kernel_rfl, Try.ntmps28⟩

def l_trustlines_Issued_0 : CC :=
   .seq ( .region (o 11 (.bin .lss (t 10) (t 9)) :: []) [] []) ( .seq ( .cond (t 11) ( .skip) ( .exit 0)) ( .seq ( .block 1 ( .seq ( .region (o 12 (.iaddr 5 (t 8) (t 10)) :: o 13 (.load true 5 (t 12)) ::
  o 7 (.alloc 46 [(.int .i64 0), (.string ⟨#[]⟩), (.int .i64 0), (.int .i64 0), (.int .i64 0)]) :: s (.store 5 (t 7) (t 13)) :: []) [] []) ( .seq ( .region (o 14 (.faddr 1 (t 7)) :: o 15 (.load true 2 (t 14)) ::
  o 16 (.load true 2 (t 3)) :: o 17 (.eqs false [(0, true), (1, false)] (t 15) (t 16)) :: []) [] []) ( .cond (t 17) ( .region (o 18 (.mov (t 5)) :: o 19 (.faddr 3 (t 7)) :: o 20 (.load false 1 (t 19)) ::
  o 21 (.bin .add (t 18) (t 20)) :: o 5 (.mov (t 21)) :: []) [] []) ( .skip))))) ( .region (o 22 (.bin .add (t 10) (i 1)) :: o 10 (.mov (t 22)) :: []) [] [])))
def c_trustlines_Issued : CC :=
  .seq ( .region (o 3 (.box 44 2 (t 1)) :: o 4 (.mov (i 0)) :: []) [] []) ( .seq ( .region (o 5 (.mov (i 0)) :: []) [] []) ( .seq ( .seq ( .region (o 8 (.mov (t 0)) :: o 9 (.len (t 8)) :: o 10 (.mov (i 0)) :: []) [] []) (
  .block 0 ( .loop l_trustlines_Issued_0))) ( .seq ( .region (o 23 (.mov (t 5)) :: o 4 (.mov (t 23)) :: []) [] []) ( .ret))))
theorem i_trustlines_Issued : Fn PP n_trustlines_Issued c_trustlines_Issued 24 [.t 4] := ⟨Try.f29, Try.func29, ⟨_, rfl, by kernel_rfl⟩, by kernel_rfl, by kernel_rfl, Try.ntmps29⟩

def c_mk_Eur : CC :=
  .seq ( .region (o 0 (.alloc 44 [(.string ⟨#[]⟩), (.int .i64 0)]) :: []) [] []) ( .seq ( .region (o 1 (.build [(.string ⟨#[]⟩), (.int .i64 0)] [(0, 1, (.const (.string ⟨#[69, 85, 82]⟩))), (1, 1, (i 2))]) ::
  s (.store 2 (t 0) (t 1)) :: []) [] []) ( .ret))
theorem i_mk_Eur : Fn PP n_mk_Eur c_mk_Eur 2 [.c 0 true 2] := ⟨Try.f30, Try.func30, ⟨_, rfl, by kernel_rfl⟩, by kernel_rfl, by kernel_rfl, Try.ntmps30⟩

def c_Src_N : CC :=
  .seq ( .region (o 4 (.mov (i 0)) :: []) [] []) ( .seq ( .seq ( .region (o 5 (.mov (t 0)) :: o 6 (.nilck (t 5)) :: o 7 (.faddr 1 (t 6)) :: o 8 (.load false 1 (t 7)) :: o 9 (.mov (t 0)) :: o 10 (.nilck (t 9)) ::
  o 11 (.faddr 0 (t 10)) :: o 12 (.load false 1 (t 11)) :: o 13 (.len (t 12)) :: o 14 (.bin .geq (t 8) (t 13)) :: o 15 (.mov (t 14)) :: g 16 (.mov (t 1)) 15 false :: g 17 (.bin .lss (t 16) (i 1)) 15 false ::
  o 18 (.pick (t 15) (b true) (t 17)) :: []) [] []) ( .cond (t 18) ( .seq ( .region (o 4 (.mov (i 0)) :: []) [] []) ( .ret)) ( .skip))) ( .seq ( .region (o 19 (.mov (t 0)) :: o 20 (.nilck (t 19)) :: o 21 (.faddr 1 (t 20)) ::
  o 22 (.load false 1 (t 21)) :: o 23 (.bin .add (t 22) (i 1)) :: o 24 (.nilck (t 19)) :: o 25 (.faddr 1 (t 24)) :: s (.store 1 (t 25) (t 23)) :: []) [] []) ( .seq ( .region (o 26 (.mov (t 0)) :: o 27 (.nilck (t 26)) ::
  o 28 (.faddr 0 (t 27)) :: o 29 (.load false 1 (t 28)) :: o 30 (.mov (t 0)) :: o 31 (.nilck (t 30)) :: o 32 (.faddr 1 (t 31)) :: o 33 (.load false 1 (t 32)) :: o 34 (.bin .sub (t 33) (i 1)) :: o 35 (.iaddr 1 (t 29) (t 34)) ::
  o 36 (.load false 1 (t 35)) :: o 37 (.mov (t 1)) :: o 38 (.bin .rem (t 36) (t 37)) :: o 39 (.mov (t 1)) :: o 40 (.bin .add (t 38) (t 39)) :: o 41 (.mov (t 1)) :: o 42 (.bin .rem (t 40) (t 41)) ::
  o 4 (.mov (t 42)) :: []) [] []) ( .ret))))
theorem i_Src_N : Fn PP n_Src_N c_Src_N 43 [.t 4] := ⟨Try.f31, Try.func31, ⟨_, rfl, by kernel_rfl⟩, by kernel_rfl, by kernel_rfl, Try.ntmps31⟩

def c_accounts_Create : CC :=
  .seq ( .region (o 6 (.mov (.const (.slice none 0 0))) :: o 7 (.mov (i 0)) :: []) [] []) ( .seq ( .block 0 ( .seq ( .region (o 11 (.mov (t 0)) :: o 12 (.call (.func 73) [(t 11)]) :: o 13 (.bin .neq (t 12) (i 0)) ::
  o 10 (.mov (t 13)) :: []) [] []) ( .cond (t 10) ( .seq ( .region (o 6 (.mov (.const (.slice none 0 0))) :: o 7 (.mov (i 74)) :: []) [] []) ( .ret)) ( .seq ( .region (o 15 (.mov (t 1)) :: o 16 (.call (.func 74) [(t 15)]) ::
  o 17 (.un .not (t 16)) :: o 18 (.mov (t 17)) :: g 19 (.mov (t 0)) 18 false :: g 20 (.mov (t 1)) 18 false :: g 21 (.call (.func 60) [(t 19), (t 20)]) 18 false :: g 22 (.bin .geq (t 21) (i 0)) 18 false ::
  o 23 (.pick (t 18) (b true) (t 22)) :: o 14 (.mov (t 23)) :: []) [] []) ( .cond (t 14) ( .seq ( .region (o 6 (.mov (.const (.slice none 0 0))) :: o 7 (.mov (i 67)) :: []) [] []) ( .ret)) ( .seq ( .region (o 25 (.mov (t 2)) ::
  o 26 (.call (.func 70) [(t 25)]) :: o 27 (.un .not (t 26)) :: o 24 (.mov (t 27)) :: []) [] []) ( .cond (t 24) ( .seq ( .region (o 6 (.mov (.const (.slice none 0 0))) :: o 7 (.mov (i 65)) :: []) [] []) ( .ret)) ( .seq ( .region
  (o 29 (.mov (t 0)) :: o 30 (.len (t 29)) :: o 31 (.bin .eql (t 30) (i 20)) :: o 28 (.mov (t 31)) :: []) [] []) ( .cond (t 28) ( .seq ( .region (o 6 (.mov (.const (.slice none 0 0))) :: o 7 (.mov (i 3)) :: []) [] []) ( .ret)) (
  .skip)))))))))) ( .seq ( .region (o 33 (.mov (t 0)) :: o 34 (.mov (t 1)) :: o 35 (.call (.func 75) [(t 33), (t 34), (.func 76)]) :: o 32 (.mov (t 35)) :: o 36 (.ext (t 32) 0) :: o 37 (.ext (t 32) 1) :: o 8 (.mov (t 36)) ::
  o 9 (.mov (t 37)) :: []) [] []) ( .seq ( .region (o 38 (.mov (t 0)) :: o 39 (.call (.func 78) [(t 38)]) :: o 40 (.mov (t 8)) :: o 41 (.mov (t 1)) :: o 42 (.mov (t 2)) ::
  o 43 (.build [(.int .i64 0), (.int .i64 0), (.int .i64 0)] [(0, 1, (t 41)), (1, 1, (t 42))]) :: o 44 (.bslice 34 3 1 [(.int .i64 0), (.int .i64 0), (.int .i64 0)] [(0, (t 43))]) ::
  o 45 (.call (.func 77) [(t 39), (t 40), (t 44)]) :: o 6 (.mov (t 45)) :: o 7 (.mov (i 0)) :: []) [] []) ( .ret))))
theorem i_accounts_Create : Fn PP n_accounts_Create c_accounts_Create 46 [.t 6, .t 7] := ⟨Try.f32, Try.func32, ⟨_, rfl, by kernel_rfl⟩, by kernel_rfl, by kernel_rfl, Try.ntmps32⟩

def c_Src_Odd : CC :=
  .seq ( .region (o 2 (.mov (i 0)) :: []) [] []) ( .seq ( .region (o 3 (.mov (t 0)) ::
  o 4 (.bslice 3 1 15 [(.int .i64 0)] [(0, (i (-1))), (1, (i 0)), (2, (i 1)), (3, (i 2)), (4, (i 9223372036854775807)), (5, (i (-9223372036854775808))), (6, (i 1000000000000)), (7, (i 1000000000001)), (8, (i 1000000)), (9, (i 1000001)), (10, (i 1000000)), (11, (i 1000)), (12, (i 1001)), (13, (i 1000)), (14, (i 1001))]) ::
  o 5 (.call (.func 58) [(t 3), (t 4)]) :: o 2 (.mov (t 5)) :: []) [] []) ( .ret))
theorem i_Src_Odd : Fn PP n_Src_Odd c_Src_Odd 6 [.t 2] := ⟨Try.f33, Try.func33, ⟨_, rfl, by kernel_rfl⟩, by kernel_rfl, by kernel_rfl, Try.ntmps33⟩

def l_accounts_Check_0 : CC :=
   .seq ( .region (o 11 (.bin .lss (t 10) (t 9)) :: []) [] []) ( .seq ( .cond (t 11) ( .skip) ( .exit 0)) ( .seq ( .block 1 ( .seq ( .region (o 12 (.mov (t 10)) :: o 13 (.iaddr 3 (t 8) (t 10)) :: o 14 (.load true 3 (t 13)) ::
  o 4 (.alloc 34 [(.int .i64 0), (.int .i64 0), (.int .i64 0)]) :: o 3 (.mov (t 12)) :: s (.store 3 (t 4) (t 14)) :: []) [] []) ( .seq ( .region (o 15 (.faddr 0 (t 4)) :: o 16 (.load false 1 (t 15)) ::
  o 17 (.call (.func 74) [(t 16)]) :: o 18 (.un .not (t 17)) :: o 19 (.mov (t 18)) :: g 20 (.mov (t 3)) 19 false :: g 21 (.bin .gtr (t 20) (i 0)) 19 false :: g 22 (.mov (t 21)) 19 false :: g 23 (.mov (t 0)) 22 true ::
  g 24 (.mov (t 3)) 22 true :: g 25 (.bin .sub (t 24) (i 1)) 22 true :: g 26 (.iaddr 3 (t 23) (t 25)) 22 true :: g 27 (.faddr 0 (t 26)) 22 true :: g 28 (.load false 1 (t 27)) 22 true :: g 29 (.faddr 0 (t 4)) 22 true ::
  g 30 (.load false 1 (t 29)) 22 true :: g 31 (.bin .geq (t 28) (t 30)) 22 true :: g 32 (.pick (t 22) (t 31) (b false)) 19 false :: o 33 (.pick (t 19) (b true) (t 32)) :: o 34 (.mov (t 33)) :: g 35 (.faddr 1 (t 4)) 34 false ::
  g 36 (.load false 1 (t 35)) 34 false :: g 37 (.call (.func 70) [(t 36)]) 34 false :: g 38 (.un .not (t 37)) 34 false :: o 39 (.pick (t 34) (b true) (t 38)) :: o 40 (.mov (t 39)) :: g 41 (.faddr 2 (t 4)) 40 false ::
  g 42 (.load false 1 (t 41)) 40 false :: g 43 (.bin .lss (t 42) (i 0)) 40 false :: o 44 (.pick (t 40) (b true) (t 43)) :: o 45 (.mov (t 44)) :: g 46 (.faddr 2 (t 4)) 45 false :: g 47 (.load false 1 (t 46)) 45 false ::
  g 48 (.bin .gtr (t 47) (i 1000000)) 45 false :: o 49 (.pick (t 45) (b true) (t 48)) :: []) [] []) ( .cond (t 49) ( .seq ( .region (o 2 (.mov (i 74)) :: []) [] []) ( .ret)) ( .skip))))) ( .region
  (o 50 (.bin .add (t 10) (i 1)) :: o 10 (.mov (t 50)) :: []) [] [])))
def c_accounts_Check : CC :=
  .seq ( .region (o 2 (.mov (i 0)) :: []) [] []) ( .seq ( .seq ( .region (o 5 (.mov (t 0)) :: o 6 (.len (t 5)) :: o 7 (.bin .gtr (t 6) (i 20)) :: []) [] []) ( .cond (t 7) ( .seq ( .region (o 2 (.mov (i 3)) :: []) [] []) (
  .ret)) ( .skip))) ( .seq ( .seq ( .region (o 8 (.mov (t 0)) :: o 9 (.len (t 8)) :: o 10 (.mov (i 0)) :: []) [] []) ( .block 0 ( .loop l_accounts_Check_0))) ( .seq ( .region (o 2 (.mov (i 0)) :: []) [] []) ( .ret))))
theorem i_accounts_Check : Fn PP n_accounts_Check c_accounts_Check 51 [.t 2] := ⟨Try.f34, Try.func34, ⟨_, rfl, by kernel_rfl⟩, by kernel_rfl, by kernel_rfl, Try.ntmps34⟩

def l_r36_Check_0 : CC :=
   .seq ( .region (o 11 (.bin .lss (t 10) (t 9)) :: []) [] []) ( .seq ( .cond (t 11) ( .skip) ( .exit 0)) ( .seq ( .block 1 ( .seq ( .region (o 12 (.mov (t 10)) :: o 13 (.iaddr 3 (t 8) (t 10)) :: o 14 (.load true 3 (t 13)) ::
  o 4 (.alloc 34 [(.int .i64 0), (.int .i64 0), (.int .i64 0)]) :: o 3 (.mov (t 12)) :: s (.store 3 (t 4) (t 14)) :: []) [] []) ( .seq ( .region (o 15 (.faddr 0 (t 4)) :: o 16 (.load false 1 (t 15)) ::
  o 17 (.bin .lss (t 16) (i 1)) :: o 18 (.mov (t 17)) :: g 19 (.faddr 0 (t 4)) 18 false :: g 20 (.load false 1 (t 19)) 18 false :: g 21 (.bin .gtr (t 20) (i 1000)) 18 false :: o 22 (.pick (t 18) (b true) (t 21)) ::
  o 23 (.mov (t 22)) :: g 24 (.mov (t 3)) 23 false :: g 25 (.bin .gtr (t 24) (i 0)) 23 false :: g 26 (.mov (t 25)) 23 false :: g 27 (.mov (t 0)) 26 true :: g 28 (.mov (t 3)) 26 true :: g 29 (.bin .sub (t 28) (i 1)) 26 true ::
  g 30 (.iaddr 3 (t 27) (t 29)) 26 true :: g 31 (.faddr 0 (t 30)) 26 true :: g 32 (.load false 1 (t 31)) 26 true :: g 33 (.faddr 0 (t 4)) 26 true :: g 34 (.load false 1 (t 33)) 26 true :: g 35 (.bin .geq (t 32) (t 34)) 26 true ::
  g 36 (.pick (t 26) (t 35) (b false)) 23 false :: o 37 (.pick (t 23) (b true) (t 36)) :: o 38 (.mov (t 37)) :: g 39 (.faddr 1 (t 4)) 38 false :: g 40 (.load false 1 (t 39)) 38 false ::
  g 41 (.call (.func 79) [(t 40)]) 38 false :: g 42 (.un .not (t 41)) 38 false :: o 43 (.pick (t 38) (b true) (t 42)) :: o 44 (.mov (t 43)) :: g 45 (.faddr 2 (t 4)) 44 false :: g 46 (.load false 1 (t 45)) 44 false ::
  g 47 (.bin .lss (t 46) (i 0)) 44 false :: o 48 (.pick (t 44) (b true) (t 47)) :: o 49 (.mov (t 48)) :: g 50 (.faddr 2 (t 4)) 49 false :: g 51 (.load false 1 (t 50)) 49 false :: g 52 (.bin .gtr (t 51) (i 1000000)) 49 false ::
  o 53 (.pick (t 49) (b true) (t 52)) :: []) [] []) ( .cond (t 53) ( .seq ( .region (o 2 (.mov (i 74)) :: []) [] []) ( .ret)) ( .skip))))) ( .region (o 54 (.bin .add (t 10) (i 1)) :: o 10 (.mov (t 54)) :: []) [] [])))
def c_r36_Check : CC :=
  .seq ( .region (o 2 (.mov (i 0)) :: []) [] []) ( .seq ( .seq ( .region (o 5 (.mov (t 0)) :: o 6 (.len (t 5)) :: o 7 (.bin .gtr (t 6) (i 20)) :: []) [] []) ( .cond (t 7) ( .seq ( .region (o 2 (.mov (i 3)) :: []) [] []) (
  .ret)) ( .skip))) ( .seq ( .seq ( .region (o 8 (.mov (t 0)) :: o 9 (.len (t 8)) :: o 10 (.mov (i 0)) :: []) [] []) ( .block 0 ( .loop l_r36_Check_0))) ( .seq ( .region (o 2 (.mov (i 0)) :: []) [] []) ( .ret))))
theorem i_r36_Check : Fn PP n_r36_Check c_r36_Check 55 [.t 2] := ⟨Try.f35, Try.func35, ⟨_, rfl, by kernel_rfl⟩, by kernel_rfl, by kernel_rfl, Try.ntmps35⟩

def l_r36_Total_0 : CC :=
   .seq ( .region (o 12 (.bin .lss (t 11) (t 10)) :: []) [] []) ( .seq ( .cond (t 12) ( .skip) ( .exit 0)) ( .seq ( .block 1 ( .seq ( .region (o 13 (.iaddr 3 (t 9) (t 11)) :: o 14 (.load true 3 (t 13)) ::
  o 5 (.alloc 34 [(.int .i64 0), (.int .i64 0), (.int .i64 0)]) :: s (.store 3 (t 5) (t 14)) :: []) [] []) ( .region (o 15 (.mov (t 3)) :: o 16 (.faddr 1 (t 5)) :: o 17 (.load false 1 (t 16)) :: o 18 (.bin .add (t 15) (t 17)) ::
  o 3 (.mov (t 18)) :: []) [] []))) ( .region (o 19 (.bin .add (t 11) (i 1)) :: o 11 (.mov (t 19)) :: []) [] [])))
def c_r36_Total : CC :=
  .seq ( .region (o 2 (.mov (i 0)) :: []) [] []) ( .seq ( .seq ( .region (o 6 (.mov (t 0)) :: o 7 (.call (.func 35) [(t 6)]) :: o 8 (.bin .neq (t 7) (i 0)) :: []) [] []) ( .cond (t 8) ( .seq ( .region
  (o 2 (.mov (i 0)) :: []) [] []) ( .ret)) ( .skip))) ( .seq ( .region (o 3 (.mov (i 0)) :: []) [] []) ( .seq ( .seq ( .region (o 9 (.mov (t 0)) :: o 10 (.len (t 9)) :: o 11 (.mov (i 0)) :: []) [] []) ( .block 0 (
  .loop l_r36_Total_0))) ( .seq ( .region (o 20 (.mov (t 3)) :: o 2 (.mov (t 20)) :: []) [] []) ( .ret)))))
theorem i_r36_Total : Fn PP n_r36_Total c_r36_Total 21 [.t 2] := ⟨Try.f36, Try.func36, ⟨_, rfl, by kernel_rfl⟩, by kernel_rfl, by kernel_rfl, Try.ntmps36⟩

def c_r36_Find : CC :=
  .seq ( .region (o 4 (.alloc 34 [(.int .i64 0), (.int .i64 0), (.int .i64 0)]) :: o 5 (.mov (b false)) :: []) [] []) ( .seq ( .seq ( .region (o 7 (.mov (t 0)) :: o 8 (.mov (t 1)) :: o 9 (.call (.func 80) [(t 7), (t 8)]) ::
  o 6 (.mov (t 9)) :: []) [] []) ( .seq ( .region (o 10 (.mov (t 6)) :: o 11 (.bin .geq (t 10) (i 0)) :: []) [] []) ( .cond (t 11) ( .seq ( .region (o 12 (.mov (t 0)) :: o 13 (.mov (t 6)) :: o 14 (.iaddr 3 (t 12) (t 13)) ::
  o 15 (.load true 3 (t 14)) :: s (.store 3 (t 4) (t 15)) :: o 5 (.mov (b true)) :: []) [] []) ( .ret)) ( .skip)))) ( .seq ( .region (o 16 (.build [(.int .i64 0), (.int .i64 0), (.int .i64 0)] []) :: s (.store 3 (t 4) (t 16)) ::
  o 5 (.mov (b false)) :: []) [] []) ( .ret)))
theorem i_r36_Find : Fn PP n_r36_Find c_r36_Find 17 [.c 4 true 3, .t 5] := ⟨Try.f37, Try.func37, ⟨_, rfl, by kernel_rfl⟩, by kernel_rfl, by kernel_rfl, Try.ntmps37⟩

def l_r36_Create_0 : CC :=
   .seq ( .region (o 36 (.bin .lss (t 35) (t 34)) :: []) [] []) ( .seq ( .cond (t 36) ( .skip) ( .exit 0)) ( .seq ( .block 1 ( .seq ( .region (o 37 (.iaddr 3 (t 33) (t 35)) :: o 38 (.load true 3 (t 37)) ::
  o 11 (.alloc 34 [(.int .i64 0), (.int .i64 0), (.int .i64 0)]) :: s (.store 3 (t 11) (t 38)) :: []) [] []) ( .seq ( .seq ( .region (o 39 (.mov (t 9)) :: o 40 (.un .not (t 39)) :: o 41 (.mov (t 40)) ::
  g 42 (.faddr 0 (t 11)) 41 true :: g 43 (.load false 1 (t 42)) 41 true :: g 44 (.mov (t 1)) 41 true :: g 45 (.bin .gtr (t 43) (t 44)) 41 true :: o 46 (.pick (t 41) (t 45) (b false)) :: []) [] []) ( .cond (t 46) ( .region
  (o 47 (.mov (t 8)) :: o 48 (.mov (t 1)) :: o 49 (.mov (t 2)) :: o 50 (.build [(.int .i64 0), (.int .i64 0), (.int .i64 0)] [(0, 1, (t 48)), (1, 1, (t 49))]) ::
  o 51 (.bslice 34 3 1 [(.int .i64 0), (.int .i64 0), (.int .i64 0)] [(0, (t 50))]) :: o 52 (.append 34 3 24 (t 47) (t 51)) :: o 8 (.mov (t 52)) :: o 9 (.mov (b true)) :: []) [] []) ( .skip))) ( .region (o 53 (.mov (t 8)) ::
  o 54 (.load true 3 (t 11)) :: o 55 (.bslice 34 3 1 [(.int .i64 0), (.int .i64 0), (.int .i64 0)] [(0, (t 54))]) :: o 56 (.append 34 3 24 (t 53) (t 55)) :: o 8 (.mov (t 56)) :: []) [] [])))) ( .region
  (o 57 (.bin .add (t 35) (i 1)) :: o 35 (.mov (t 57)) :: []) [] [])))
def c_r36_Create : CC :=
  .seq ( .region (o 6 (.mov (.const (.slice none 0 0))) :: o 7 (.mov (i 0)) :: []) [] []) ( .seq ( .seq ( .region (o 12 (.mov (t 0)) :: o 13 (.call (.func 35) [(t 12)]) :: o 14 (.bin .neq (t 13) (i 0)) :: []) [] []) (
  .cond (t 14) ( .seq ( .region (o 6 (.mov (.const (.slice none 0 0))) :: o 7 (.mov (i 74)) :: []) [] []) ( .ret)) ( .skip))) ( .seq ( .seq ( .region (o 15 (.mov (t 1)) :: o 16 (.bin .lss (t 15) (i 1)) :: o 17 (.mov (t 16)) ::
  g 18 (.mov (t 1)) 17 false :: g 19 (.bin .gtr (t 18) (i 1000)) 17 false :: o 20 (.pick (t 17) (b true) (t 19)) :: o 21 (.mov (t 20)) :: g 22 (.mov (t 0)) 21 false :: g 23 (.mov (t 1)) 21 false ::
  g 24 (.call (.func 80) [(t 22), (t 23)]) 21 false :: g 25 (.bin .geq (t 24) (i 0)) 21 false :: o 26 (.pick (t 21) (b true) (t 25)) :: []) [] []) ( .cond (t 26) ( .seq ( .region (o 6 (.mov (.const (.slice none 0 0))) ::
  o 7 (.mov (i 67)) :: []) [] []) ( .ret)) ( .skip))) ( .seq ( .seq ( .region (o 27 (.mov (t 2)) :: o 28 (.call (.func 79) [(t 27)]) :: o 29 (.un .not (t 28)) :: []) [] []) ( .cond (t 29) ( .seq ( .region
  (o 6 (.mov (.const (.slice none 0 0))) :: o 7 (.mov (i 65)) :: []) [] []) ( .ret)) ( .skip))) ( .seq ( .seq ( .region (o 30 (.mov (t 0)) :: o 31 (.len (t 30)) :: o 32 (.bin .eql (t 31) (i 20)) :: []) [] []) ( .cond (t 32) (
  .seq ( .region (o 6 (.mov (.const (.slice none 0 0))) :: o 7 (.mov (i 3)) :: []) [] []) ( .ret)) ( .skip))) ( .seq ( .region (o 8 (.mov (.const (.slice none 0 0))) :: []) [] []) ( .seq ( .region
  (o 9 (.mov (b false)) :: []) [] []) ( .seq ( .seq ( .region (o 33 (.mov (t 0)) :: o 34 (.len (t 33)) :: o 35 (.mov (i 0)) :: []) [] []) ( .block 0 ( .loop l_r36_Create_0))) ( .seq ( .seq ( .region (o 58 (.mov (t 9)) ::
  o 59 (.un .not (t 58)) :: []) [] []) ( .cond (t 59) ( .region (o 60 (.mov (t 8)) :: o 61 (.mov (t 1)) :: o 62 (.mov (t 2)) :: o 63 (.build [(.int .i64 0), (.int .i64 0), (.int .i64 0)] [(0, 1, (t 61)), (1, 1, (t 62))]) ::
  o 64 (.bslice 34 3 1 [(.int .i64 0), (.int .i64 0), (.int .i64 0)] [(0, (t 63))]) :: o 65 (.append 34 3 24 (t 60) (t 64)) :: o 8 (.mov (t 65)) :: []) [] []) ( .skip))) ( .seq ( .region (o 66 (.mov (t 8)) :: o 6 (.mov (t 66)) ::
  o 7 (.mov (i 0)) :: []) [] []) ( .ret))))))))))
theorem i_r36_Create : Fn PP n_r36_Create c_r36_Create 67 [.t 6, .t 7] := ⟨Try.f38, Try.func38, ⟨_, rfl, by kernel_rfl⟩, by kernel_rfl, by kernel_rfl, Try.ntmps38⟩

def l_r36_Same_0 : CC :=
   .seq ( .region (o 14 (.bin .lss (t 13) (t 12)) :: []) [] []) ( .seq ( .cond (t 14) ( .skip) ( .exit 0)) ( .seq ( .block 1 ( .seq ( .region (o 15 (.mov (t 13)) :: o 5 (.mov (t 15)) :: []) [] []) ( .seq ( .region
  (o 16 (.mov (t 0)) :: o 17 (.mov (t 5)) :: o 18 (.iaddr 3 (t 16) (t 17)) :: o 19 (.load true 3 (t 18)) :: o 20 (.mov (t 1)) :: o 21 (.mov (t 5)) :: o 22 (.iaddr 3 (t 20) (t 21)) :: o 23 (.load true 3 (t 22)) ::
  o 24 (.eqs true [(0, false), (1, false), (2, false)] (t 19) (t 23)) :: []) [] []) ( .cond (t 24) ( .seq ( .region (o 4 (.mov (b false)) :: []) [] []) ( .ret)) ( .skip))))) ( .region (o 25 (.bin .add (t 13) (i 1)) ::
  o 13 (.mov (t 25)) :: []) [] [])))
def c_r36_Same : CC :=
  .seq ( .region (o 4 (.mov (b false)) :: []) [] []) ( .seq ( .seq ( .region (o 6 (.mov (t 0)) :: o 7 (.len (t 6)) :: o 8 (.mov (t 1)) :: o 9 (.len (t 8)) :: o 10 (.bin .neq (t 7) (t 9)) :: []) [] []) ( .cond (t 10) ( .seq (
  .region (o 4 (.mov (b false)) :: []) [] []) ( .ret)) ( .skip))) ( .seq ( .seq ( .region (o 11 (.mov (t 0)) :: o 12 (.len (t 11)) :: o 13 (.mov (i 0)) :: []) [] []) ( .block 0 ( .loop l_r36_Same_0))) ( .seq ( .region
  (o 4 (.mov (b true)) :: []) [] []) ( .ret))))
theorem i_r36_Same : Fn PP n_r36_Same c_r36_Same 26 [.t 4] := ⟨Try.f39, Try.func39, ⟨_, rfl, by kernel_rfl⟩, by kernel_rfl, by kernel_rfl, Try.ntmps39⟩

def c_accounts_Give : CC :=
  .seq ( .region (o 5 (.box 3 1 (t 2)) :: o 6 (.mov (.const (.slice none 0 0))) :: o 7 (.mov (i 0)) :: []) [] []) ( .seq ( .region (o 8 (.mov (t 0)) :: o 9 (.mov (t 1)) :: o 10 (.mkfn 81 [(t 5)]) ::
  o 11 (.call (.func 61) [(t 8), (t 9), (t 10)]) :: o 12 (.ext (t 11) 0) :: o 13 (.ext (t 11) 1) :: o 6 (.mov (t 12)) :: o 7 (.mov (t 13)) :: []) [] []) ( .ret))
theorem i_accounts_Give : Fn PP n_accounts_Give c_accounts_Give 14 [.t 6, .t 7] := ⟨Try.f40, Try.func40, ⟨_, rfl, by kernel_rfl⟩, by kernel_rfl, by kernel_rfl, Try.ntmps40⟩

def c_r36_Give : CC :=
  .seq ( .region (o 6 (.mov (.const (.slice none 0 0))) :: o 7 (.mov (i 0)) :: []) [] []) ( .seq ( .region (o 8 (.mov (t 0)) :: o 9 (.mov (t 1)) :: o 10 (.mov (t 2)) :: o 11 (.call (.func 83) [(t 8), (t 9), (t 10), (i 1)]) ::
  o 12 (.ext (t 11) 0) :: o 13 (.ext (t 11) 1) :: o 6 (.mov (t 12)) :: o 7 (.mov (t 13)) :: []) [] []) ( .ret))
theorem i_r36_Give : Fn PP n_r36_Give c_r36_Give 14 [.t 6, .t 7] := ⟨Try.f41, Try.func41, ⟨_, rfl, by kernel_rfl⟩, by kernel_rfl, by kernel_rfl, Try.ntmps41⟩

def c_accounts_Take : CC :=
  .seq ( .region (o 5 (.box 3 1 (t 2)) :: o 6 (.mov (.const (.slice none 0 0))) :: o 7 (.mov (i 0)) :: []) [] []) ( .seq ( .region (o 8 (.mov (t 0)) :: o 9 (.mov (t 1)) :: o 10 (.mkfn 84 [(t 5)]) ::
  o 11 (.call (.func 61) [(t 8), (t 9), (t 10)]) :: o 12 (.ext (t 11) 0) :: o 13 (.ext (t 11) 1) :: o 6 (.mov (t 12)) :: o 7 (.mov (t 13)) :: []) [] []) ( .ret))
theorem i_accounts_Take : Fn PP n_accounts_Take c_accounts_Take 14 [.t 6, .t 7] := ⟨Try.f42, Try.func42, ⟨_, rfl, by kernel_rfl⟩, by kernel_rfl, by kernel_rfl, Try.ntmps42⟩

def c_r36_Take : CC :=
  .seq ( .region (o 6 (.mov (.const (.slice none 0 0))) :: o 7 (.mov (i 0)) :: []) [] []) ( .seq ( .region (o 8 (.mov (t 0)) :: o 9 (.mov (t 1)) :: o 10 (.mov (t 2)) :: o 11 (.call (.func 83) [(t 8), (t 9), (t 10), (i (-1))]) ::
  o 12 (.ext (t 11) 0) :: o 13 (.ext (t 11) 1) :: o 6 (.mov (t 12)) :: o 7 (.mov (t 13)) :: []) [] []) ( .ret))
theorem i_r36_Take : Fn PP n_r36_Take c_r36_Take 14 [.t 6, .t 7] := ⟨Try.f43, Try.func43, ⟨_, rfl, by kernel_rfl⟩, by kernel_rfl, by kernel_rfl, Try.ntmps43⟩

def c_r36_Begin : CC :=
  .seq ( .region (o 8 (.mov (.const (.slice none 0 0))) :: o 9 (.mov (i 0)) :: []) [] []) ( .seq ( .seq ( .region (o 12 (.mov (t 0)) :: o 13 (.call (.func 35) [(t 12)]) :: o 14 (.bin .neq (t 13) (i 0)) :: []) [] []) (
  .cond (t 14) ( .seq ( .region (o 8 (.mov (.const (.slice none 0 0))) :: o 9 (.mov (i 74)) :: []) [] []) ( .ret)) ( .skip))) ( .seq ( .region (o 15 (.mov (t 0)) :: o 16 (.mov (t 1)) :: o 17 (.call (.func 80) [(t 15), (t 16)]) ::
  o 10 (.mov (t 17)) :: []) [] []) ( .seq ( .block 0 ( .seq ( .region (o 19 (.mov (t 10)) :: o 20 (.bin .lss (t 19) (i 0)) :: o 18 (.mov (t 20)) :: []) [] []) ( .cond (t 18) ( .seq ( .region
  (o 8 (.mov (.const (.slice none 0 0))) :: o 9 (.mov (i 67)) :: []) [] []) ( .ret)) ( .seq ( .region (o 22 (.mov (t 2)) :: o 23 (.bin .gtr (t 22) (i 1000000)) :: o 24 (.mov (t 23)) :: g 25 (.mov (t 2)) 24 false ::
  g 26 (.mov (t 0)) 24 false :: g 27 (.mov (t 10)) 24 false :: g 28 (.iaddr 3 (t 26) (t 27)) 24 false :: g 29 (.faddr 2 (t 28)) 24 false :: g 30 (.load false 1 (t 29)) 24 false :: g 31 (.bin .add (t 30) (i 1)) 24 false ::
  g 32 (.bin .neq (t 25) (t 31)) 24 false :: o 33 (.pick (t 24) (b true) (t 32)) :: o 21 (.mov (t 33)) :: []) [] []) ( .cond (t 21) ( .seq ( .region (o 8 (.mov (.const (.slice none 0 0))) :: o 9 (.mov (i 68)) :: []) [] []) (
  .ret)) ( .seq ( .region (o 35 (.mov (t 3)) :: o 36 (.bin .lss (t 35) (i 1)) :: o 37 (.mov (t 36)) :: g 38 (.mov (t 3)) 37 false :: g 39 (.bin .gtr (t 38) (i 100000)) 37 false :: o 40 (.pick (t 37) (b true) (t 39)) ::
  o 34 (.mov (t 40)) :: []) [] []) ( .cond (t 34) ( .seq ( .region (o 8 (.mov (.const (.slice none 0 0))) :: o 9 (.mov (i 69)) :: []) [] []) ( .ret)) ( .seq ( .region (o 42 (.mov (t 0)) :: o 43 (.mov (t 10)) ::
  o 44 (.iaddr 3 (t 42) (t 43)) :: o 45 (.faddr 1 (t 44)) :: o 46 (.load false 1 (t 45)) :: o 47 (.mov (t 3)) :: o 48 (.bin .lss (t 46) (t 47)) :: o 41 (.mov (t 48)) :: []) [] []) ( .cond (t 41) ( .seq ( .region
  (o 8 (.mov (.const (.slice none 0 0))) :: o 9 (.mov (i 66)) :: []) [] []) ( .ret)) ( .skip)))))))))) ( .seq ( .region (o 49 (.mov (t 0)) :: o 50 (.append 34 3 24 (.const (.slice none 0 0)) (t 49)) ::
  o 11 (.mov (t 50)) :: []) [] []) ( .seq ( .region (o 51 (.mov (t 11)) :: o 52 (.mov (t 10)) :: o 53 (.mov (t 11)) :: o 54 (.mov (t 10)) :: o 55 (.mov (t 11)) :: o 56 (.mov (t 10)) :: o 57 (.iaddr 3 (t 55) (t 56)) ::
  o 58 (.faddr 1 (t 57)) :: o 59 (.load false 1 (t 58)) :: o 60 (.mov (t 3)) :: o 61 (.bin .sub (t 59) (t 60)) :: o 62 (.mov (t 2)) :: o 63 (.iaddr 3 (t 51) (t 52)) :: o 64 (.faddr 1 (t 63)) :: s (.store 1 (t 64) (t 61)) ::
  o 65 (.iaddr 3 (t 53) (t 54)) :: o 66 (.faddr 2 (t 65)) :: s (.store 1 (t 66) (t 62)) :: []) [] []) ( .seq ( .region (o 67 (.mov (t 11)) :: o 8 (.mov (t 67)) :: o 9 (.mov (i 0)) :: []) [] []) ( .ret)))))))
theorem i_r36_Begin : Fn PP n_r36_Begin c_r36_Begin 68 [.t 8, .t 9] := ⟨Try.f44, Try.func44, ⟨_, rfl, by kernel_rfl⟩, by kernel_rfl, by kernel_rfl, Try.ntmps44⟩

def c_trustlines_Limit : CC :=
  .seq ( .region (o 6 (.box 44 2 (t 2)) :: o 8 (.mov (.const (.slice none 0 0))) :: o 9 (.mov (i 0)) :: []) [] []) ( .seq ( .seq ( .region (o 14 (.load true 2 (t 6)) :: o 15 (.call (.func 69) [(t 14)]) ::
  o 16 (.un .not (t 15)) :: o 17 (.mov (t 16)) :: g 18 (.load true 2 (t 6)) 17 false :: g 19 (.call (.func 66) [(t 18)]) 17 false :: o 20 (.pick (t 17) (b true) (t 19)) :: o 21 (.mov (t 20)) :: g 22 (.faddr 1 (t 6)) 21 false ::
  g 23 (.load false 1 (t 22)) 21 false :: g 24 (.mov (t 1)) 21 false :: g 25 (.bin .eql (t 23) (t 24)) 21 false :: o 26 (.pick (t 21) (b true) (t 25)) :: o 27 (.mov (t 26)) :: g 28 (.mov (t 1)) 27 false ::
  g 29 (.bin .lss (t 28) (i 1)) 27 false :: o 30 (.pick (t 27) (b true) (t 29)) :: o 31 (.mov (t 30)) :: g 32 (.mov (t 1)) 31 false :: g 33 (.bin .gtr (t 32) (i 1000)) 31 false ::
  o 34 (.pick (t 31) (b true) (t 33)) :: []) [] []) ( .cond (t 34) ( .seq ( .region (o 8 (.mov (.const (.slice none 0 0))) :: o 9 (.mov (i 71)) :: []) [] []) ( .ret)) ( .skip))) ( .seq ( .seq ( .region (o 35 (.mov (t 3)) ::
  o 36 (.call (.func 70) [(t 35)]) :: o 37 (.un .not (t 36)) :: []) [] []) ( .cond (t 37) ( .seq ( .region (o 8 (.mov (.const (.slice none 0 0))) :: o 9 (.mov (i 65)) :: []) [] []) ( .ret)) ( .skip))) ( .seq ( .region
  (o 38 (.mov (t 0)) :: o 39 (.call (.func 85) [(t 38)]) :: o 40 (.mov (t 0)) :: o 41 (.mov (t 1)) :: o 42 (.load true 2 (t 6)) :: o 43 (.call (.func 68) [(t 40), (t 41), (t 42)]) :: o 10 (.mov (t 39)) ::
  o 11 (.mov (t 43)) :: []) [(1, 4)] []) ( .seq ( .block 0 ( .seq ( .region (o 45 (.mov (t 11)) :: o 46 (.bin .lss (t 45) (i 0)) :: o 47 (.mov (t 46)) :: g 48 (.mov (t 3)) 47 true :: g 49 (.bin .eql (t 48) (i 0)) 47 true ::
  o 50 (.pick (t 47) (t 49) (b false)) :: o 44 (.mov (t 50)) :: []) [] []) ( .cond (t 44) ( .seq ( .region (o 51 (.mov (t 10)) :: o 8 (.mov (t 51)) :: o 9 (.mov (i 0)) :: []) [] []) ( .ret)) ( .seq ( .region
  (o 53 (.mov (t 11)) :: o 54 (.bin .lss (t 53) (i 0)) :: o 55 (.mov (t 54)) :: g 56 (.mov (t 0)) 55 true :: g 57 (.len (t 56)) 55 true :: g 58 (.bin .geq (t 57) (i 60)) 55 true :: o 59 (.pick (t 55) (t 58) (b false)) ::
  o 52 (.mov (t 59)) :: []) [] []) ( .cond (t 52) ( .seq ( .region (o 8 (.mov (.const (.slice none 0 0))) :: o 9 (.mov (i 3)) :: []) [] []) ( .ret)) ( .seq ( .region (o 61 (.mov (t 11)) :: o 62 (.bin .lss (t 61) (i 0)) ::
  o 60 (.mov (t 62)) :: []) [] []) ( .cond (t 60) ( .seq ( .region (o 63 (.mov (t 1)) :: o 64 (.load true 2 (t 6)) :: o 65 (.build [(.int .i64 0), (.string ⟨#[]⟩), (.int .i64 0)] [(0, 1, (t 63)), (1, 2, (t 64))]) ::
  o 12 (.alloc 99 [(.int .i64 0), (.string ⟨#[]⟩), (.int .i64 0)]) :: s (.store 3 (t 12) (t 65)) :: []) [] []) ( .seq ( .region (o 66 (.mov (t 0)) :: o 67 (.mkfn 87 [(t 12)]) :: o 68 (.call (.func 86) [(t 66), (t 67)]) ::
  o 13 (.mov (t 68)) :: []) [] []) ( .seq ( .seq ( .region (o 69 (.mov (t 13)) :: o 70 (.bin .lss (t 69) (i 0)) :: []) [] []) ( .cond (t 70) ( .region (o 71 (.mov (t 0)) :: o 72 (.len (t 71)) :: o 13 (.mov (t 72)) :: []) [] []) (
  .skip))) ( .seq ( .region (o 73 (.mov (t 10)) :: o 74 (.mov (t 13)) :: o 75 (.mov (t 1)) :: o 76 (.load true 2 (t 6)) :: o 77 (.mov (t 3)) ::
  o 78 (.build [(.int .i64 0), (.string ⟨#[]⟩), (.int .i64 0), (.int .i64 0), (.int .i64 0)] [(0, 1, (t 75)), (1, 2, (t 76)), (4, 1, (t 77))]) ::
  o 79 (.bslice 46 5 1 [(.int .i64 0), (.string ⟨#[]⟩), (.int .i64 0), (.int .i64 0), (.int .i64 0)] [(0, (t 78))]) :: o 80 (.call (.func 88) [(t 73), (t 74), (t 79)]) :: o 8 (.mov (t 80)) :: o 9 (.mov (i 0)) :: []) [] []) (
  .ret))))) ( .seq ( .region (o 82 (.mov (t 3)) :: o 83 (.mov (t 0)) :: o 84 (.mov (t 11)) :: o 85 (.iaddr 5 (t 83) (t 84)) :: o 86 (.faddr 3 (t 85)) :: o 87 (.load false 1 (t 86)) :: o 88 (.bin .lss (t 82) (t 87)) ::
  o 81 (.mov (t 88)) :: []) [] []) ( .cond (t 81) ( .seq ( .region (o 8 (.mov (.const (.slice none 0 0))) :: o 9 (.mov (i 70)) :: []) [] []) ( .ret)) ( .seq ( .region (o 90 (.mov (t 3)) :: o 91 (.bin .eql (t 90) (i 0)) ::
  o 92 (.mov (t 91)) :: g 93 (.mov (t 0)) 92 true :: g 94 (.mov (t 11)) 92 true :: g 95 (.iaddr 5 (t 93) (t 94)) 92 true :: g 96 (.faddr 3 (t 95)) 92 true :: g 97 (.load false 1 (t 96)) 92 true ::
  g 98 (.bin .eql (t 97) (i 0)) 92 true :: o 99 (.pick (t 92) (t 98) (b false)) :: o 89 (.mov (t 99)) :: []) [] []) ( .cond (t 89) ( .seq ( .region (o 100 (.mov (t 10)) :: o 101 (.mov (t 11)) :: o 102 (.mov (t 11)) ::
  o 103 (.bin .add (t 102) (i 1)) :: o 104 (.call (.func 89) [(t 100), (t 101), (t 103)]) :: o 8 (.mov (t 104)) :: o 9 (.mov (i 0)) :: []) [] []) ( .ret)) ( .skip)))))))))))) ( .seq ( .region (o 105 (.mov (t 10)) ::
  o 106 (.mov (t 11)) :: o 107 (.mov (t 3)) :: o 108 (.iaddr 5 (t 105) (t 106)) :: o 109 (.faddr 4 (t 108)) :: s (.store 1 (t 109) (t 107)) :: []) [] []) ( .seq ( .region (o 110 (.mov (t 10)) :: o 8 (.mov (t 110)) ::
  o 9 (.mov (i 0)) :: []) [] []) ( .ret)))))))
theorem i_trustlines_Limit : Fn PP n_trustlines_Limit c_trustlines_Limit 111 [.t 8, .t 9] := ⟨Try.f45, Try.func45, ⟨_, rfl, by kernel_rfl⟩, by kernel_rfl, by kernel_rfl, Try.ntmps45⟩

def c_mk_Small : CC :=
  .seq ( .region (o 1 (.box 30 7 (t 0)) :: o 2 (.mov (b false)) :: []) [] []) ( .seq ( .region (o 3 (.faddr 1 (t 1)) :: o 4 (.load false 1 (t 3)) :: o 5 (.len (t 4)) :: o 6 (.bin .leq (t 5) (i 10)) :: o 7 (.mov (t 6)) ::
  g 8 (.faddr 2 (t 1)) 7 true :: g 9 (.load false 1 (t 8)) 7 true :: g 10 (.len (t 9)) 7 true :: g 11 (.bin .leq (t 10) (i 10)) 7 true :: o 12 (.pick (t 7) (t 11) (b false)) :: o 13 (.mov (t 12)) ::
  g 14 (.faddr 3 (t 1)) 13 true :: g 15 (.load false 1 (t 14)) 13 true :: g 16 (.len (t 15)) 13 true :: g 17 (.bin .leq (t 16) (i 8)) 13 true :: o 18 (.pick (t 13) (t 17) (b false)) :: o 2 (.mov (t 18)) :: []) [] []) ( .ret))
theorem i_mk_Small : Fn PP n_mk_Small c_mk_Small 19 [.t 2] := ⟨Try.f46, Try.func46, ⟨_, rfl, by kernel_rfl⟩, by kernel_rfl, by kernel_rfl, Try.ntmps46⟩

def c_Src_BentLedger : CC :=
  .seq ( .region (o 3 (.box 30 7 (t 1)) :: o 4 (.alloc 30 [(.int .i64 0), (.slice none 0 0), (.slice none 0 0), (.slice none 0 0), (.int .i64 0), (.int .i64 0), (.int .u64 0)]) :: []) [] []) ( .seq ( .region
  (o 6 (.faddr 1 (t 3)) :: o 7 (.load false 1 (t 6)) :: o 8 (.append 34 3 24 (.const (.slice none 0 0)) (t 7)) :: o 9 (.faddr 1 (t 3)) :: s (.store 1 (t 9) (t 8)) :: []) [] []) ( .seq ( .region (o 10 (.faddr 2 (t 3)) ::
  o 11 (.load false 1 (t 10)) :: o 12 (.append 46 5 48 (.const (.slice none 0 0)) (t 11)) :: o 13 (.faddr 2 (t 3)) :: s (.store 1 (t 13) (t 12)) :: []) [] []) ( .seq ( .region (o 14 (.faddr 3 (t 3)) ::
  o 15 (.load false 1 (t 14)) :: o 16 (.append 96 9 88 (.const (.slice none 0 0)) (t 15)) :: o 17 (.faddr 3 (t 3)) :: s (.store 1 (t 17) (t 16)) :: []) [] []) ( .seq ( .seq ( .region (o 18 (.mov (t 0)) ::
  o 19 (.call (.func 31) [(t 18), (i 8)]) :: []) [] []) ( .block 0 ( .seq ( .region (o 24 (.bin .eql (t 19) (i 0)) :: o 23 (.mov (t 24)) :: []) [] []) ( .cond (t 23) ( .region (o 25 (.faddr 1 (t 3)) ::
  o 26 (.load false 1 (t 25)) :: o 27 (.mov (t 0)) :: o 28 (.faddr 1 (t 3)) :: o 29 (.load false 1 (t 28)) :: o 30 (.len (t 29)) :: o 31 (.call (.func 31) [(t 27), (t 30)]) :: o 32 (.mov (t 0)) ::
  o 33 (.call (.func 33) [(t 32)]) :: o 34 (.iaddr 3 (t 26) (t 31)) :: o 35 (.faddr 1 (t 34)) :: s (.store 1 (t 35) (t 33)) :: []) [(1, 6), (1, 8)] []) ( .seq ( .region (o 37 (.bin .eql (t 19) (i 1)) ::
  o 36 (.mov (t 37)) :: []) [] []) ( .cond (t 36) ( .region (o 38 (.faddr 1 (t 3)) :: o 39 (.load false 1 (t 38)) :: o 40 (.faddr 1 (t 3)) :: o 41 (.load false 1 (t 40)) :: o 42 (.iaddr 3 (t 41) (i 0)) ::
  o 43 (.load true 3 (t 42)) :: o 44 (.bslice 34 3 1 [(.int .i64 0), (.int .i64 0), (.int .i64 0)] [(0, (t 43))]) :: o 45 (.append 34 3 24 (t 39) (t 44)) :: o 46 (.faddr 1 (t 3)) ::
  s (.store 1 (t 46) (t 45)) :: []) [(1, 6)] []) ( .seq ( .region (o 48 (.bin .eql (t 19) (i 2)) :: o 47 (.mov (t 48)) :: []) [] []) ( .cond (t 47) ( .region (o 49 (.mov (t 0)) ::
  o 50 (.bslice 3 1 3 [(.int .i64 0)] [(0, (i 0)), (1, (i 1)), (2, (i 1000001))]) :: o 51 (.call (.func 58) [(t 49), (t 50)]) :: o 52 (.faddr 4 (t 3)) :: s (.store 1 (t 52) (t 51)) :: []) [] []) ( .seq ( .region
  (o 54 (.bin .eql (t 19) (i 3)) :: o 53 (.mov (t 54)) :: []) [] []) ( .cond (t 53) ( .region (o 55 (.mov (t 0)) :: o 56 (.call (.func 33) [(t 55)]) :: o 57 (.faddr 5 (t 3)) :: s (.store 1 (t 57) (t 56)) :: []) [] []) ( .seq (
  .region (o 59 (.bin .eql (t 19) (i 4)) :: o 58 (.mov (t 59)) :: []) [] []) ( .cond (t 58) ( .seq ( .region (o 60 (.faddr 2 (t 3)) :: o 61 (.load false 1 (t 60)) :: o 62 (.len (t 61)) ::
  o 63 (.bin .gtr (t 62) (i 0)) :: []) [] []) ( .cond (t 63) ( .region (o 64 (.faddr 2 (t 3)) :: o 65 (.load false 1 (t 64)) :: o 66 (.mov (t 0)) :: o 67 (.faddr 2 (t 3)) :: o 68 (.load false 1 (t 67)) :: o 69 (.len (t 68)) ::
  o 70 (.call (.func 31) [(t 66), (t 69)]) :: o 71 (.mov (t 0)) :: o 72 (.call (.func 33) [(t 71)]) :: o 73 (.iaddr 5 (t 65) (t 70)) :: o 74 (.faddr 3 (t 73)) :: s (.store 1 (t 74) (t 72)) :: []) [(1, 6), (1, 8)] []) ( .skip))) (
  .seq ( .region (o 76 (.bin .eql (t 19) (i 5)) :: o 75 (.mov (t 76)) :: []) [] []) ( .cond (t 75) ( .seq ( .region (o 77 (.faddr 2 (t 3)) :: o 78 (.load false 1 (t 77)) :: o 79 (.len (t 78)) ::
  o 80 (.bin .gtr (t 79) (i 0)) :: []) [] []) ( .cond (t 80) ( .region (o 81 (.faddr 2 (t 3)) :: o 82 (.load false 1 (t 81)) :: o 83 (.mov (t 0)) :: o 84 (.faddr 2 (t 3)) :: o 85 (.load false 1 (t 84)) :: o 86 (.len (t 85)) ::
  o 87 (.call (.func 31) [(t 83), (t 86)]) :: o 88 (.mov (t 0)) :: o 89 (.call (.func 49) [(t 88)]) :: o 90 (.iaddr 5 (t 82) (t 87)) :: o 91 (.faddr 1 (t 90)) :: s (.store 2 (t 91) (t 89)) :: []) [(1, 6), (1, 8)] []) ( .skip))) (
  .seq ( .region (o 93 (.bin .eql (t 19) (i 6)) :: o 92 (.mov (t 93)) :: []) [] []) ( .cond (t 92) ( .seq ( .region (o 94 (.faddr 3 (t 3)) :: o 95 (.load false 1 (t 94)) :: o 96 (.len (t 95)) ::
  o 97 (.bin .gtr (t 96) (i 0)) :: []) [] []) ( .cond (t 97) ( .seq ( .region (o 98 (.faddr 3 (t 3)) :: o 99 (.load false 1 (t 98)) :: o 100 (.mov (t 0)) :: o 101 (.faddr 3 (t 3)) :: o 102 (.load false 1 (t 101)) ::
  o 103 (.len (t 102)) :: o 104 (.call (.func 31) [(t 100), (t 103)]) :: o 105 (.iaddr 9 (t 99) (t 104)) :: o 5 (.mov (t 105)) :: []) [(1, 6)] []) ( .region (o 106 (.mov (t 5)) :: o 107 (.mov (t 5)) :: o 108 (.mov (t 0)) ::
  o 109 (.bslice 3 1 3 [(.int .i64 0)] [(0, (i 0)), (1, (i 2)), (2, (i 4))]) :: o 110 (.call (.func 58) [(t 108), (t 109)]) :: o 111 (.mov (t 0)) :: o 112 (.bslice 3 1 2 [(.int .i64 0)] [(0, (i 2)), (1, (i 6))]) ::
  o 113 (.call (.func 58) [(t 111), (t 112)]) :: o 114 (.nilck (t 106)) :: o 115 (.faddr 7 (t 114)) :: s (.store 1 (t 115) (t 110)) :: o 116 (.nilck (t 107)) :: o 117 (.faddr 8 (t 116)) ::
  s (.store 1 (t 117) (t 113)) :: []) [] [])) ( .skip))) ( .region (o 20 (.mov (t 0)) :: o 21 (.call (.func 33) [(t 20)]) :: o 22 (.faddr 0 (t 3)) :: s (.store 1 (t 22) (t 21)) :: []) [] []))))))))))))))))) ( .seq ( .region
  (o 118 (.load true 7 (t 3)) :: s (.store 7 (t 4) (t 118)) :: []) [] []) ( .ret))))))
theorem i_Src_BentLedger : Fn PP n_Src_BentLedger c_Src_BentLedger 119 [.c 4 true 7] := ⟨Try.f47, Try.func47, ⟨_, rfl, by kernel_rfl⟩, by kernel_rfl, by kernel_rfl, Try.ntmps47⟩

def l_r37_Check_0 : CC :=
   .seq ( .region (o 21 (.bin .lss (t 20) (t 19)) :: []) [] []) ( .seq ( .cond (t 21) ( .skip) ( .exit 0)) ( .seq ( .block 1 ( .seq ( .region (o 22 (.mov (t 20)) :: o 23 (.iaddr 5 (t 18) (t 20)) :: o 24 (.load true 5 (t 23)) ::
  o 7 (.alloc 46 [(.int .i64 0), (.string ⟨#[]⟩), (.int .i64 0), (.int .i64 0), (.int .i64 0)]) :: o 6 (.mov (t 22)) :: s (.store 5 (t 7) (t 24)) :: []) [] []) ( .seq ( .region (o 26 (.mov (t 1)) :: o 27 (.faddr 0 (t 7)) ::
  o 28 (.load false 1 (t 27)) :: o 29 (.call (.func 37) [(t 26), (t 28)]) :: o 25 (.mov (t 29)) :: o 30 (.ext (t 25) 0) :: o 31 (.ext (t 25) 1) :: o 8 (.alloc 34 [(.int .i64 0), (.int .i64 0), (.int .i64 0)]) ::
  s (.store 3 (t 8) (t 30)) :: o 9 (.mov (t 31)) :: []) [] []) ( .seq ( .region (o 32 (.mov (t 9)) :: o 33 (.un .not (t 32)) :: o 34 (.mov (t 33)) :: g 35 (.faddr 1 (t 7)) 34 false :: g 36 (.load true 2 (t 35)) 34 false ::
  g 37 (.call (.func 90) [(t 36)]) 34 false :: g 38 (.un .not (t 37)) 34 false :: o 39 (.pick (t 34) (b true) (t 38)) :: o 40 (.mov (t 39)) :: g 41 (.faddr 1 (t 7)) 40 false :: g 42 (.load true 2 (t 41)) 40 false ::
  g 43 (.call (.func 91) [(t 42)]) 40 false :: o 44 (.pick (t 40) (b true) (t 43)) :: o 45 (.mov (t 44)) :: g 46 (.faddr 1 (t 7)) 45 false :: g 47 (.faddr 1 (t 46)) 45 false :: g 48 (.load false 1 (t 47)) 45 false ::
  g 49 (.faddr 0 (t 7)) 45 false :: g 50 (.load false 1 (t 49)) 45 false :: g 51 (.bin .eql (t 48) (t 50)) 45 false :: o 52 (.pick (t 45) (b true) (t 51)) :: o 53 (.mov (t 52)) :: g 54 (.faddr 4 (t 7)) 53 false ::
  g 55 (.load false 1 (t 54)) 53 false :: g 56 (.call (.func 79) [(t 55)]) 53 false :: g 57 (.un .not (t 56)) 53 false :: o 58 (.pick (t 53) (b true) (t 57)) :: o 59 (.mov (t 58)) :: g 60 (.faddr 3 (t 7)) 59 false ::
  g 61 (.load false 1 (t 60)) 59 false :: g 62 (.bin .lss (t 61) (i 0)) 59 false :: o 63 (.pick (t 59) (b true) (t 62)) :: o 64 (.mov (t 63)) :: g 65 (.faddr 3 (t 7)) 64 false :: g 66 (.load false 1 (t 65)) 64 false ::
  g 67 (.faddr 4 (t 7)) 64 false :: g 68 (.load false 1 (t 67)) 64 false :: g 69 (.bin .gtr (t 66) (t 68)) 64 false :: o 70 (.pick (t 64) (b true) (t 69)) :: o 71 (.mov (t 70)) :: g 72 (.mov (t 6)) 71 false ::
  g 73 (.bin .gtr (t 72) (i 0)) 71 false :: g 74 (.mov (t 73)) 71 false :: g 75 (.mov (t 0)) 74 true :: g 76 (.mov (t 6)) 74 true :: g 77 (.bin .sub (t 76) (i 1)) 74 true :: g 78 (.iaddr 5 (t 75) (t 77)) 74 true ::
  g 79 (.load true 5 (t 78)) 74 true :: g 80 (.faddr 0 (t 7)) 74 true :: g 81 (.load false 1 (t 80)) 74 true :: g 82 (.faddr 1 (t 7)) 74 true :: g 83 (.load true 2 (t 82)) 74 true ::
  g 84 (.call (.func 92) [(t 79), (t 81), (t 83)]) 74 true :: g 85 (.un .not (t 84)) 74 true :: g 86 (.pick (t 74) (t 85) (b false)) 71 false :: o 87 (.pick (t 71) (b true) (t 86)) :: []) [] []) ( .cond (t 87) ( .seq ( .region
  (o 4 (.mov (i 74)) :: []) [] []) ( .ret)) ( .skip)))))) ( .region (o 88 (.bin .add (t 20) (i 1)) :: o 20 (.mov (t 88)) :: []) [] [])))
def c_r37_Check : CC :=
  .seq ( .region (o 4 (.mov (i 0)) :: []) [] []) ( .seq ( .seq ( .region (o 10 (.mov (t 1)) :: o 11 (.call (.func 35) [(t 10)]) :: o 5 (.mov (t 11)) :: []) [] []) ( .seq ( .region (o 12 (.mov (t 5)) ::
  o 13 (.bin .neq (t 12) (i 0)) :: []) [] []) ( .cond (t 13) ( .seq ( .region (o 14 (.mov (t 5)) :: o 4 (.mov (t 14)) :: []) [] []) ( .ret)) ( .skip)))) ( .seq ( .seq ( .region (o 15 (.mov (t 0)) :: o 16 (.len (t 15)) ::
  o 17 (.bin .gtr (t 16) (i 60)) :: []) [] []) ( .cond (t 17) ( .seq ( .region (o 4 (.mov (i 3)) :: []) [] []) ( .ret)) ( .skip))) ( .seq ( .seq ( .region (o 18 (.mov (t 0)) :: o 19 (.len (t 18)) ::
  o 20 (.mov (i 0)) :: []) [] []) ( .block 0 ( .loop l_r37_Check_0))) ( .seq ( .region (o 4 (.mov (i 0)) :: []) [] []) ( .ret)))))
theorem i_r37_Check : Fn PP n_r37_Check c_r37_Check 89 [.t 4] := ⟨Try.f48, Try.func48, ⟨_, rfl, by kernel_rfl⟩, by kernel_rfl, by kernel_rfl, Try.ntmps48⟩

def c_Src_OddAsset : CC :=
  .seq ( .region (o 2 (.alloc 44 [(.string ⟨#[]⟩), (.int .i64 0)]) :: []) [] []) ( .seq ( .region (o 3 (.build [(.string ⟨#[]⟩), (.int .i64 0)] [(0, 1, (.const (.string ⟨#[117, 115, 100]⟩))), (1, 1, (i 1))]) ::
  o 4 (.build [(.string ⟨#[]⟩), (.int .i64 0)] [(0, 1, (.const (.string ⟨#[76, 79, 78, 71, 69, 82]⟩))), (1, 1, (i 1))]) :: o 5 (.build [(.string ⟨#[]⟩), (.int .i64 0)] [(0, 1, (.const (.string ⟨#[85, 83, 68]⟩)))]) ::
  o 6 (.build [(.string ⟨#[]⟩), (.int .i64 0)] [(1, 1, (i 3))]) :: o 7 (.build [(.string ⟨#[]⟩), (.int .i64 0)] [(0, 1, (.const (.string ⟨#[85, 83, 68]⟩))), (1, 1, (i 1001))]) ::
  o 8 (.build [(.string ⟨#[]⟩), (.int .i64 0)] [(0, 1, (.const (.string ⟨#[88, 65, 85]⟩))), (1, 1, (i 9))]) ::
  o 9 (.bslice 44 2 6 [(.string ⟨#[]⟩), (.int .i64 0)] [(0, (t 3)), (1, (t 4)), (2, (t 5)), (3, (t 6)), (4, (t 7)), (5, (t 8))]) :: o 10 (.mov (t 0)) :: o 11 (.call (.func 31) [(t 10), (i 6)]) :: o 12 (.iaddr 2 (t 9) (t 11)) ::
  o 13 (.load true 2 (t 12)) :: s (.store 2 (t 2) (t 13)) :: []) [] []) ( .ret))
theorem i_Src_OddAsset : Fn PP n_Src_OddAsset c_Src_OddAsset 14 [.c 2 true 2] := ⟨Try.f49, Try.func49, ⟨_, rfl, by kernel_rfl⟩, by kernel_rfl, by kernel_rfl, Try.ntmps49⟩

def l_r37_Issued_0 : CC :=
   .seq ( .region (o 11 (.bin .lss (t 10) (t 9)) :: []) [] []) ( .seq ( .cond (t 11) ( .skip) ( .exit 0)) ( .seq ( .block 1 ( .seq ( .region (o 12 (.iaddr 5 (t 8) (t 10)) :: o 13 (.load true 5 (t 12)) ::
  o 7 (.alloc 46 [(.int .i64 0), (.string ⟨#[]⟩), (.int .i64 0), (.int .i64 0), (.int .i64 0)]) :: s (.store 5 (t 7) (t 13)) :: []) [] []) ( .seq ( .region (o 14 (.faddr 1 (t 7)) :: o 15 (.load true 2 (t 14)) ::
  o 16 (.load true 2 (t 3)) :: o 17 (.eqs false [(0, true), (1, false)] (t 15) (t 16)) :: []) [] []) ( .cond (t 17) ( .region (o 18 (.mov (t 5)) :: o 19 (.faddr 3 (t 7)) :: o 20 (.load false 1 (t 19)) ::
  o 21 (.bin .add (t 18) (t 20)) :: o 5 (.mov (t 21)) :: []) [] []) ( .skip))))) ( .region (o 22 (.bin .add (t 10) (i 1)) :: o 10 (.mov (t 22)) :: []) [] [])))
def c_r37_Issued : CC :=
  .seq ( .region (o 3 (.box 44 2 (t 1)) :: o 4 (.mov (i 0)) :: []) [] []) ( .seq ( .region (o 5 (.mov (i 0)) :: []) [] []) ( .seq ( .seq ( .region (o 8 (.mov (t 0)) :: o 9 (.len (t 8)) :: o 10 (.mov (i 0)) :: []) [] []) (
  .block 0 ( .loop l_r37_Issued_0))) ( .seq ( .region (o 23 (.mov (t 5)) :: o 4 (.mov (t 23)) :: []) [] []) ( .ret))))
theorem i_r37_Issued : Fn PP n_r37_Issued c_r37_Issued 24 [.t 4] := ⟨Try.f50, Try.func50, ⟨_, rfl, by kernel_rfl⟩, by kernel_rfl, by kernel_rfl, Try.ntmps50⟩

def c_r37_Find : CC :=
  .seq ( .region (o 5 (.box 44 2 (t 2)) :: o 6 (.alloc 46 [(.int .i64 0), (.string ⟨#[]⟩), (.int .i64 0), (.int .i64 0), (.int .i64 0)]) :: o 7 (.mov (b false)) :: []) [] []) ( .seq ( .seq ( .region (o 9 (.mov (t 0)) ::
  o 10 (.mov (t 1)) :: o 11 (.load true 2 (t 5)) :: o 12 (.call (.func 93) [(t 9), (t 10), (t 11)]) :: o 8 (.mov (t 12)) :: []) [] []) ( .seq ( .region (o 13 (.mov (t 8)) :: o 14 (.bin .geq (t 13) (i 0)) :: []) [] []) (
  .cond (t 14) ( .seq ( .region (o 15 (.mov (t 0)) :: o 16 (.mov (t 8)) :: o 17 (.iaddr 5 (t 15) (t 16)) :: o 18 (.load true 5 (t 17)) :: s (.store 5 (t 6) (t 18)) :: o 7 (.mov (b true)) :: []) [] []) ( .ret)) ( .skip)))) (
  .seq ( .region (o 19 (.build [(.int .i64 0), (.string ⟨#[]⟩), (.int .i64 0), (.int .i64 0), (.int .i64 0)] []) :: s (.store 5 (t 6) (t 19)) :: o 7 (.mov (b false)) :: []) [] []) ( .ret)))
theorem i_r37_Find : Fn PP n_r37_Find c_r37_Find 20 [.c 6 true 5, .t 7] := ⟨Try.f51, Try.func51, ⟨_, rfl, by kernel_rfl⟩, by kernel_rfl, by kernel_rfl, Try.ntmps51⟩

def c_r37_Held : CC :=
  .seq ( .region (o 3 (.box 30 7 (t 0)) :: o 5 (.box 44 2 (t 2)) :: o 6 (.mov (i 0)) :: []) [] []) ( .seq ( .region (o 12 (.faddr 1 (t 3)) :: o 13 (.load false 1 (t 12)) :: o 14 (.mov (t 1)) ::
  o 15 (.call (.func 37) [(t 13), (t 14)]) :: o 11 (.mov (t 15)) :: o 16 (.ext (t 11) 0) :: o 17 (.ext (t 11) 1) :: o 7 (.alloc 34 [(.int .i64 0), (.int .i64 0), (.int .i64 0)]) :: s (.store 3 (t 7) (t 16)) ::
  o 8 (.mov (t 17)) :: []) [] []) ( .seq ( .block 0 ( .seq ( .region (o 19 (.load true 7 (t 3)) :: o 20 (.call (.func 94) [(t 19)]) :: o 21 (.un .not (t 20)) :: o 22 (.mov (t 21)) :: g 23 (.mov (t 8)) 22 false ::
  g 24 (.un .not (t 23)) 22 false :: o 25 (.pick (t 22) (b true) (t 24)) :: o 26 (.mov (t 25)) :: g 27 (.load true 2 (t 5)) 26 false :: g 28 (.call (.func 90) [(t 27)]) 26 false :: g 29 (.un .not (t 28)) 26 false ::
  o 30 (.pick (t 26) (b true) (t 29)) :: o 18 (.mov (t 30)) :: []) [] []) ( .cond (t 18) ( .seq ( .region (o 6 (.mov (i 0)) :: []) [] []) ( .ret)) ( .seq ( .region (o 32 (.load true 2 (t 5)) :: o 33 (.call (.func 91) [(t 32)]) ::
  o 31 (.mov (t 33)) :: []) [] []) ( .cond (t 31) ( .seq ( .region (o 34 (.faddr 1 (t 7)) :: o 35 (.load false 1 (t 34)) :: o 6 (.mov (t 35)) :: []) [] []) ( .ret)) ( .seq ( .region (o 37 (.faddr 1 (t 5)) ::
  o 38 (.load false 1 (t 37)) :: o 39 (.mov (t 1)) :: o 40 (.bin .eql (t 38) (t 39)) :: o 36 (.mov (t 40)) :: []) [] []) ( .cond (t 36) ( .seq ( .region (o 6 (.mov (i 1000000000000)) :: []) [] []) ( .ret)) ( .skip)))))))) (
  .seq ( .region (o 42 (.faddr 2 (t 3)) :: o 43 (.load false 1 (t 42)) :: o 44 (.mov (t 1)) :: o 45 (.load true 2 (t 5)) :: o 46 (.call (.func 51) [(t 43), (t 44), (t 45)]) :: o 41 (.mov (t 46)) :: o 47 (.ext (t 41) 0) ::
  o 48 (.ext (t 41) 1) :: o 9 (.alloc 46 [(.int .i64 0), (.string ⟨#[]⟩), (.int .i64 0), (.int .i64 0), (.int .i64 0)]) :: s (.store 5 (t 9) (t 47)) :: o 10 (.mov (t 48)) :: []) [] []) ( .seq ( .region (o 49 (.faddr 3 (t 9)) ::
  o 50 (.load false 1 (t 49)) :: o 6 (.mov (t 50)) :: []) [] []) ( .ret)))))
theorem i_r37_Held : Fn PP n_r37_Held c_r37_Held 51 [.t 6] := ⟨Try.f52, Try.func52, ⟨_, rfl, by kernel_rfl⟩, by kernel_rfl, by kernel_rfl, Try.ntmps52⟩

def c_r37_Room : CC :=
  .seq ( .region (o 3 (.box 30 7 (t 0)) :: o 5 (.box 44 2 (t 2)) :: o 6 (.mov (i 0)) :: []) [] []) ( .seq ( .region (o 12 (.faddr 1 (t 3)) :: o 13 (.load false 1 (t 12)) :: o 14 (.mov (t 1)) ::
  o 15 (.call (.func 37) [(t 13), (t 14)]) :: o 11 (.mov (t 15)) :: o 16 (.ext (t 11) 0) :: o 17 (.ext (t 11) 1) :: o 7 (.alloc 34 [(.int .i64 0), (.int .i64 0), (.int .i64 0)]) :: s (.store 3 (t 7) (t 16)) ::
  o 8 (.mov (t 17)) :: []) [] []) ( .seq ( .block 0 ( .seq ( .region (o 19 (.load true 7 (t 3)) :: o 20 (.call (.func 94) [(t 19)]) :: o 21 (.un .not (t 20)) :: o 22 (.mov (t 21)) :: g 23 (.mov (t 8)) 22 false ::
  g 24 (.un .not (t 23)) 22 false :: o 25 (.pick (t 22) (b true) (t 24)) :: o 26 (.mov (t 25)) :: g 27 (.load true 2 (t 5)) 26 false :: g 28 (.call (.func 90) [(t 27)]) 26 false :: g 29 (.un .not (t 28)) 26 false ::
  o 30 (.pick (t 26) (b true) (t 29)) :: o 18 (.mov (t 30)) :: []) [] []) ( .cond (t 18) ( .seq ( .region (o 6 (.mov (i 0)) :: []) [] []) ( .ret)) ( .seq ( .region (o 32 (.load true 2 (t 5)) :: o 33 (.call (.func 91) [(t 32)]) ::
  o 31 (.mov (t 33)) :: []) [] []) ( .cond (t 31) ( .seq ( .region (o 34 (.faddr 1 (t 7)) :: o 35 (.load false 1 (t 34)) :: o 36 (.bin .sub (i 1000000000000) (t 35)) :: o 6 (.mov (t 36)) :: []) [] []) ( .ret)) ( .seq ( .region
  (o 38 (.faddr 1 (t 5)) :: o 39 (.load false 1 (t 38)) :: o 40 (.mov (t 1)) :: o 41 (.bin .eql (t 39) (t 40)) :: o 37 (.mov (t 41)) :: []) [] []) ( .cond (t 37) ( .seq ( .region (o 6 (.mov (i 1000000000000)) :: []) [] []) (
  .ret)) ( .skip)))))))) ( .seq ( .region (o 43 (.faddr 2 (t 3)) :: o 44 (.load false 1 (t 43)) :: o 45 (.mov (t 1)) :: o 46 (.load true 2 (t 5)) :: o 47 (.call (.func 51) [(t 44), (t 45), (t 46)]) :: o 42 (.mov (t 47)) ::
  o 48 (.ext (t 42) 0) :: o 49 (.ext (t 42) 1) :: o 9 (.alloc 46 [(.int .i64 0), (.string ⟨#[]⟩), (.int .i64 0), (.int .i64 0), (.int .i64 0)]) :: s (.store 5 (t 9) (t 48)) :: o 10 (.mov (t 49)) :: []) [] []) ( .seq ( .region
  (o 50 (.faddr 4 (t 9)) :: o 51 (.load false 1 (t 50)) :: o 52 (.faddr 3 (t 9)) :: o 53 (.load false 1 (t 52)) :: o 54 (.bin .sub (t 51) (t 53)) :: o 6 (.mov (t 54)) :: []) [] []) ( .ret)))))
theorem i_r37_Room : Fn PP n_r37_Room c_r37_Room 55 [.t 6] := ⟨Try.f53, Try.func53, ⟨_, rfl, by kernel_rfl⟩, by kernel_rfl, by kernel_rfl, Try.ntmps53⟩

def l_r37_Limit_0 : CC :=
   .seq ( .seq ( .region (o 82 (.mov (t 12)) :: o 83 (.mov (t 0)) :: o 84 (.len (t 83)) :: o 85 (.bin .lss (t 82) (t 84)) :: o 86 (.mov (t 85)) :: g 87 (.mov (t 0)) 86 true :: g 88 (.mov (t 12)) 86 true ::
  g 89 (.iaddr 5 (t 87) (t 88)) 86 true :: g 90 (.load true 5 (t 89)) 86 true :: g 91 (.mov (t 1)) 86 true :: g 92 (.load true 2 (t 6)) 86 true :: g 93 (.call (.func 92) [(t 90), (t 91), (t 92)]) 86 true ::
  o 94 (.pick (t 86) (t 93) (b false)) :: []) [] []) ( .cond (t 94) ( .skip) ( .exit 0))) ( .block 1 ( .region (o 95 (.mov (t 12)) :: o 96 (.bin .add (t 95) (i 1)) :: o 12 (.mov (t 96)) :: []) [] []))
def c_r37_Limit : CC :=
  .seq ( .region (o 6 (.box 44 2 (t 2)) :: o 8 (.mov (.const (.slice none 0 0))) :: o 9 (.mov (i 0)) :: []) [] []) ( .seq ( .seq ( .region (o 13 (.load true 2 (t 6)) :: o 14 (.call (.func 90) [(t 13)]) ::
  o 15 (.un .not (t 14)) :: o 16 (.mov (t 15)) :: g 17 (.load true 2 (t 6)) 16 false :: g 18 (.call (.func 91) [(t 17)]) 16 false :: o 19 (.pick (t 16) (b true) (t 18)) :: o 20 (.mov (t 19)) :: g 21 (.faddr 1 (t 6)) 20 false ::
  g 22 (.load false 1 (t 21)) 20 false :: g 23 (.mov (t 1)) 20 false :: g 24 (.bin .eql (t 22) (t 23)) 20 false :: o 25 (.pick (t 20) (b true) (t 24)) :: o 26 (.mov (t 25)) :: g 27 (.mov (t 1)) 26 false ::
  g 28 (.bin .lss (t 27) (i 1)) 26 false :: o 29 (.pick (t 26) (b true) (t 28)) :: o 30 (.mov (t 29)) :: g 31 (.mov (t 1)) 30 false :: g 32 (.bin .gtr (t 31) (i 1000)) 30 false ::
  o 33 (.pick (t 30) (b true) (t 32)) :: []) [] []) ( .cond (t 33) ( .seq ( .region (o 8 (.mov (.const (.slice none 0 0))) :: o 9 (.mov (i 71)) :: []) [] []) ( .ret)) ( .skip))) ( .seq ( .seq ( .region (o 34 (.mov (t 3)) ::
  o 35 (.call (.func 79) [(t 34)]) :: o 36 (.un .not (t 35)) :: []) [] []) ( .cond (t 36) ( .seq ( .region (o 8 (.mov (.const (.slice none 0 0))) :: o 9 (.mov (i 65)) :: []) [] []) ( .ret)) ( .skip))) ( .seq ( .region
  (o 37 (.mov (t 0)) :: o 38 (.mov (t 1)) :: o 39 (.load true 2 (t 6)) :: o 40 (.call (.func 93) [(t 37), (t 38), (t 39)]) :: o 10 (.mov (t 40)) :: []) [] []) ( .seq ( .region (o 41 (.mov (t 0)) ::
  o 42 (.append 46 5 48 (.const (.slice none 0 0)) (t 41)) :: o 11 (.mov (t 42)) :: []) [] []) ( .seq ( .seq ( .region (o 43 (.mov (t 10)) :: o 44 (.bin .geq (t 43) (i 0)) :: []) [] []) ( .cond (t 44) ( .seq ( .seq ( .region
  (o 45 (.mov (t 3)) :: o 46 (.mov (t 0)) :: o 47 (.mov (t 10)) :: o 48 (.iaddr 5 (t 46) (t 47)) :: o 49 (.faddr 3 (t 48)) :: o 50 (.load false 1 (t 49)) :: o 51 (.bin .lss (t 45) (t 50)) :: []) [] []) ( .cond (t 51) ( .seq (
  .region (o 8 (.mov (.const (.slice none 0 0))) :: o 9 (.mov (i 70)) :: []) [] []) ( .ret)) ( .skip))) ( .seq ( .seq ( .region (o 52 (.mov (t 3)) :: o 53 (.bin .eql (t 52) (i 0)) :: o 54 (.mov (t 53)) ::
  g 55 (.mov (t 0)) 54 true :: g 56 (.mov (t 10)) 54 true :: g 57 (.iaddr 5 (t 55) (t 56)) 54 true :: g 58 (.faddr 3 (t 57)) 54 true :: g 59 (.load false 1 (t 58)) 54 true :: g 60 (.bin .eql (t 59) (i 0)) 54 true ::
  o 61 (.pick (t 54) (t 60) (b false)) :: []) [] []) ( .cond (t 61) ( .seq ( .region (o 62 (.mov (t 11)) :: o 63 (.mov (t 10)) :: o 64 (.slice 5 (t 62) none (some (t 63)) none) :: o 65 (.mov (t 11)) :: o 66 (.mov (t 10)) ::
  o 67 (.bin .add (t 66) (i 1)) :: o 68 (.slice 5 (t 65) (some (t 67)) none none) :: o 69 (.append 46 5 48 (t 64) (t 68)) :: o 8 (.mov (t 69)) :: o 9 (.mov (i 0)) :: []) [] []) ( .ret)) ( .skip))) ( .seq ( .region
  (o 70 (.mov (t 11)) :: o 71 (.mov (t 10)) :: o 72 (.mov (t 3)) :: o 73 (.iaddr 5 (t 70) (t 71)) :: o 74 (.faddr 4 (t 73)) :: s (.store 1 (t 74) (t 72)) :: []) [] []) ( .seq ( .region (o 75 (.mov (t 11)) :: o 8 (.mov (t 75)) ::
  o 9 (.mov (i 0)) :: []) [] []) ( .ret))))) ( .skip))) ( .seq ( .seq ( .region (o 76 (.mov (t 3)) :: o 77 (.bin .eql (t 76) (i 0)) :: []) [] []) ( .cond (t 77) ( .seq ( .region (o 78 (.mov (t 11)) :: o 8 (.mov (t 78)) ::
  o 9 (.mov (i 0)) :: []) [] []) ( .ret)) ( .skip))) ( .seq ( .seq ( .region (o 79 (.mov (t 0)) :: o 80 (.len (t 79)) :: o 81 (.bin .geq (t 80) (i 60)) :: []) [] []) ( .cond (t 81) ( .seq ( .region
  (o 8 (.mov (.const (.slice none 0 0))) :: o 9 (.mov (i 3)) :: []) [] []) ( .ret)) ( .skip))) ( .seq ( .region (o 12 (.mov (i 0)) :: []) [] []) ( .seq ( .block 0 ( .loop l_r37_Limit_0)) ( .seq ( .region (o 97 (.mov (t 0)) ::
  o 98 (.mov (t 12)) :: o 99 (.slice 5 (t 97) none (some (t 98)) none) :: o 100 (.append 46 5 48 (.const (.slice none 0 0)) (t 99)) :: o 101 (.mov (t 1)) :: o 102 (.load true 2 (t 6)) :: o 103 (.mov (t 3)) ::
  o 104 (.build [(.int .i64 0), (.string ⟨#[]⟩), (.int .i64 0), (.int .i64 0), (.int .i64 0)] [(0, 1, (t 101)), (1, 2, (t 102)), (4, 1, (t 103))]) ::
  o 105 (.bslice 46 5 1 [(.int .i64 0), (.string ⟨#[]⟩), (.int .i64 0), (.int .i64 0), (.int .i64 0)] [(0, (t 104))]) :: o 106 (.append 46 5 48 (t 100) (t 105)) :: o 107 (.mov (t 0)) :: o 108 (.mov (t 12)) ::
  o 109 (.slice 5 (t 107) (some (t 108)) none none) :: o 110 (.append 46 5 48 (t 106) (t 109)) :: o 8 (.mov (t 110)) :: o 9 (.mov (i 0)) :: []) [(3, 5), (2, 8), (3, 8)] []) ( .ret)))))))))))
theorem i_r37_Limit : Fn PP n_r37_Limit c_r37_Limit 111 [.t 8, .t 9] := ⟨Try.f54, Try.func54, ⟨_, rfl, by kernel_rfl⟩, by kernel_rfl, by kernel_rfl, Try.ntmps54⟩

def l_r37_Same_0 : CC :=
   .seq ( .region (o 14 (.bin .lss (t 13) (t 12)) :: []) [] []) ( .seq ( .cond (t 14) ( .skip) ( .exit 0)) ( .seq ( .block 1 ( .seq ( .region (o 15 (.mov (t 13)) :: o 5 (.mov (t 15)) :: []) [] []) ( .seq ( .region
  (o 16 (.mov (t 0)) :: o 17 (.mov (t 5)) :: o 18 (.iaddr 5 (t 16) (t 17)) :: o 19 (.load true 5 (t 18)) :: o 20 (.mov (t 1)) :: o 21 (.mov (t 5)) :: o 22 (.iaddr 5 (t 20) (t 21)) :: o 23 (.load true 5 (t 22)) ::
  o 24 (.eqs true [(0, false), (1, true), (2, false), (3, false), (4, false)] (t 19) (t 23)) :: []) [] []) ( .cond (t 24) ( .seq ( .region (o 4 (.mov (b false)) :: []) [] []) ( .ret)) ( .skip))))) ( .region
  (o 25 (.bin .add (t 13) (i 1)) :: o 13 (.mov (t 25)) :: []) [] [])))
def c_r37_Same : CC :=
  .seq ( .region (o 4 (.mov (b false)) :: []) [] []) ( .seq ( .seq ( .region (o 6 (.mov (t 0)) :: o 7 (.len (t 6)) :: o 8 (.mov (t 1)) :: o 9 (.len (t 8)) :: o 10 (.bin .neq (t 7) (t 9)) :: []) [] []) ( .cond (t 10) ( .seq (
  .region (o 4 (.mov (b false)) :: []) [] []) ( .ret)) ( .skip))) ( .seq ( .seq ( .region (o 11 (.mov (t 0)) :: o 12 (.len (t 11)) :: o 13 (.mov (i 0)) :: []) [] []) ( .block 0 ( .loop l_r37_Same_0))) ( .seq ( .region
  (o 4 (.mov (b true)) :: []) [] []) ( .ret))))
theorem i_r37_Same : Fn PP n_r37_Same c_r37_Same 26 [.t 4] := ⟨Try.f55, Try.func55, ⟨_, rfl, by kernel_rfl⟩, by kernel_rfl, by kernel_rfl, Try.ntmps55⟩

def c_r37_Credit : CC :=
  .seq ( .region (o 4 (.box 30 7 (t 0)) :: o 6 (.box 44 2 (t 2)) :: o 8 (.alloc 30 [(.int .i64 0), (.slice none 0 0), (.slice none 0 0), (.slice none 0 0), (.int .i64 0), (.int .i64 0), (.int .u64 0)]) ::
  o 9 (.mov (i 0)) :: []) [] []) ( .seq ( .seq ( .region (o 14 (.load true 7 (t 4)) :: o 15 (.mov (t 1)) :: o 16 (.load true 2 (t 6)) :: o 17 (.mov (t 3)) :: o 18 (.call (.func 95) [(t 14), (t 15), (t 16), (t 17)]) ::
  o 10 (.mov (t 18)) :: []) [] []) ( .seq ( .region (o 19 (.mov (t 10)) :: o 20 (.bin .neq (t 19) (i 0)) :: []) [] []) ( .cond (t 20) ( .seq ( .region
  (o 21 (.build [(.int .i64 0), (.slice none 0 0), (.slice none 0 0), (.slice none 0 0), (.int .i64 0), (.int .i64 0), (.int .u64 0)] []) :: o 22 (.mov (t 10)) :: s (.store 7 (t 8) (t 21)) :: o 9 (.mov (t 22)) :: []) [] []) (
  .ret)) ( .skip)))) ( .seq ( .seq ( .region (o 23 (.load true 2 (t 6)) :: o 24 (.call (.func 91) [(t 23)]) :: []) [] []) ( .cond (t 24) ( .seq ( .region (o 26 (.faddr 1 (t 4)) :: o 27 (.load false 1 (t 26)) ::
  o 28 (.mov (t 1)) :: o 29 (.mov (t 3)) :: o 30 (.call (.func 41) [(t 27), (t 28), (t 29)]) :: o 25 (.mov (t 30)) :: o 31 (.ext (t 25) 0) :: o 32 (.ext (t 25) 1) :: o 11 (.mov (t 31)) :: o 12 (.mov (t 32)) :: []) [] []) ( .seq (
  .seq ( .region (o 33 (.mov (t 12)) :: o 34 (.bin .neq (t 33) (i 0)) :: []) [] []) ( .cond (t 34) ( .seq ( .region
  (o 35 (.build [(.int .i64 0), (.slice none 0 0), (.slice none 0 0), (.slice none 0 0), (.int .i64 0), (.int .i64 0), (.int .u64 0)] []) :: o 36 (.mov (t 12)) :: s (.store 7 (t 8) (t 35)) :: o 9 (.mov (t 36)) :: []) [] []) (
  .ret)) ( .skip))) ( .seq ( .region (o 37 (.mov (t 11)) :: o 38 (.faddr 1 (t 4)) :: s (.store 1 (t 38) (t 37)) :: []) [] []) ( .seq ( .region (o 39 (.load true 7 (t 4)) :: s (.store 7 (t 8) (t 39)) ::
  o 9 (.mov (i 0)) :: []) [] []) ( .ret))))) ( .skip))) ( .seq ( .seq ( .region (o 40 (.faddr 1 (t 6)) :: o 41 (.load false 1 (t 40)) :: o 42 (.mov (t 1)) :: o 43 (.bin .eql (t 41) (t 42)) :: []) [] []) ( .cond (t 43) ( .seq (
  .region (o 44 (.load true 7 (t 4)) :: s (.store 7 (t 8) (t 44)) :: o 9 (.mov (i 0)) :: []) [] []) ( .ret)) ( .skip))) ( .seq ( .region (o 45 (.faddr 2 (t 4)) :: o 46 (.load false 1 (t 45)) :: o 47 (.mov (t 1)) ::
  o 48 (.load true 2 (t 6)) :: o 49 (.call (.func 93) [(t 46), (t 47), (t 48)]) :: o 13 (.mov (t 49)) :: []) [] []) ( .seq ( .seq ( .region (o 50 (.mov (t 13)) :: o 51 (.bin .lss (t 50) (i 0)) :: o 52 (.mov (t 51)) ::
  g 53 (.mov (t 3)) 52 false :: g 54 (.faddr 2 (t 4)) 52 false :: g 55 (.load false 1 (t 54)) 52 false :: g 56 (.mov (t 13)) 52 false :: g 57 (.iaddr 5 (t 55) (t 56)) 52 false :: g 58 (.faddr 4 (t 57)) 52 false ::
  g 59 (.load false 1 (t 58)) 52 false :: g 60 (.faddr 2 (t 4)) 52 false :: g 61 (.load false 1 (t 60)) 52 false :: g 62 (.mov (t 13)) 52 false :: g 63 (.iaddr 5 (t 61) (t 62)) 52 false :: g 64 (.faddr 3 (t 63)) 52 false ::
  g 65 (.load false 1 (t 64)) 52 false :: g 66 (.bin .sub (t 59) (t 65)) 52 false :: g 67 (.bin .gtr (t 53) (t 66)) 52 false :: o 68 (.pick (t 52) (b true) (t 67)) :: []) [] []) ( .cond (t 68) ( .seq ( .region
  (o 69 (.build [(.int .i64 0), (.slice none 0 0), (.slice none 0 0), (.slice none 0 0), (.int .i64 0), (.int .i64 0), (.int .u64 0)] []) :: s (.store 7 (t 8) (t 69)) :: o 9 (.mov (i 70)) :: []) [] []) ( .ret)) ( .skip))) (
  .seq ( .region (o 70 (.faddr 2 (t 4)) :: o 71 (.load false 1 (t 70)) :: o 72 (.append 46 5 48 (.const (.slice none 0 0)) (t 71)) :: o 73 (.faddr 2 (t 4)) :: s (.store 1 (t 73) (t 72)) :: []) [] []) ( .seq ( .region
  (o 74 (.faddr 2 (t 4)) :: o 75 (.load false 1 (t 74)) :: o 76 (.mov (t 13)) :: o 77 (.iaddr 5 (t 75) (t 76)) :: o 78 (.faddr 3 (t 77)) :: o 79 (.load false 1 (t 78)) :: o 80 (.mov (t 3)) :: o 81 (.bin .add (t 79) (t 80)) ::
  o 82 (.iaddr 5 (t 75) (t 76)) :: o 83 (.faddr 3 (t 82)) :: s (.store 1 (t 83) (t 81)) :: []) [] []) ( .seq ( .region (o 84 (.load true 7 (t 4)) :: s (.store 7 (t 8) (t 84)) :: o 9 (.mov (i 0)) :: []) [] []) ( .ret)))))))))
theorem i_r37_Credit : Fn PP n_r37_Credit c_r37_Credit 85 [.c 8 true 7, .t 9] := ⟨Try.f56, Try.func56, ⟨_, rfl, by kernel_rfl⟩, by kernel_rfl, by kernel_rfl, Try.ntmps56⟩

def c_r37_Debit : CC :=
  .seq ( .region (o 4 (.box 30 7 (t 0)) :: o 6 (.box 44 2 (t 2)) :: o 8 (.alloc 30 [(.int .i64 0), (.slice none 0 0), (.slice none 0 0), (.slice none 0 0), (.int .i64 0), (.int .i64 0), (.int .u64 0)]) ::
  o 9 (.mov (i 0)) :: []) [] []) ( .seq ( .seq ( .region (o 14 (.load true 7 (t 4)) :: o 15 (.mov (t 1)) :: o 16 (.load true 2 (t 6)) :: o 17 (.mov (t 3)) :: o 18 (.call (.func 95) [(t 14), (t 15), (t 16), (t 17)]) ::
  o 10 (.mov (t 18)) :: []) [] []) ( .seq ( .region (o 19 (.mov (t 10)) :: o 20 (.bin .neq (t 19) (i 0)) :: []) [] []) ( .cond (t 20) ( .seq ( .region
  (o 21 (.build [(.int .i64 0), (.slice none 0 0), (.slice none 0 0), (.slice none 0 0), (.int .i64 0), (.int .i64 0), (.int .u64 0)] []) :: o 22 (.mov (t 10)) :: s (.store 7 (t 8) (t 21)) :: o 9 (.mov (t 22)) :: []) [] []) (
  .ret)) ( .skip)))) ( .seq ( .seq ( .region (o 23 (.load true 2 (t 6)) :: o 24 (.call (.func 91) [(t 23)]) :: []) [] []) ( .cond (t 24) ( .seq ( .region (o 26 (.faddr 1 (t 4)) :: o 27 (.load false 1 (t 26)) ::
  o 28 (.mov (t 1)) :: o 29 (.mov (t 3)) :: o 30 (.call (.func 43) [(t 27), (t 28), (t 29)]) :: o 25 (.mov (t 30)) :: o 31 (.ext (t 25) 0) :: o 32 (.ext (t 25) 1) :: o 11 (.mov (t 31)) :: o 12 (.mov (t 32)) :: []) [] []) ( .seq (
  .seq ( .region (o 33 (.mov (t 12)) :: o 34 (.bin .neq (t 33) (i 0)) :: []) [] []) ( .cond (t 34) ( .seq ( .region
  (o 35 (.build [(.int .i64 0), (.slice none 0 0), (.slice none 0 0), (.slice none 0 0), (.int .i64 0), (.int .i64 0), (.int .u64 0)] []) :: o 36 (.mov (t 12)) :: s (.store 7 (t 8) (t 35)) :: o 9 (.mov (t 36)) :: []) [] []) (
  .ret)) ( .skip))) ( .seq ( .region (o 37 (.mov (t 11)) :: o 38 (.faddr 1 (t 4)) :: s (.store 1 (t 38) (t 37)) :: []) [] []) ( .seq ( .region (o 39 (.load true 7 (t 4)) :: s (.store 7 (t 8) (t 39)) ::
  o 9 (.mov (i 0)) :: []) [] []) ( .ret))))) ( .skip))) ( .seq ( .seq ( .region (o 40 (.faddr 1 (t 6)) :: o 41 (.load false 1 (t 40)) :: o 42 (.mov (t 1)) :: o 43 (.bin .eql (t 41) (t 42)) :: []) [] []) ( .cond (t 43) ( .seq (
  .region (o 44 (.load true 7 (t 4)) :: s (.store 7 (t 8) (t 44)) :: o 9 (.mov (i 0)) :: []) [] []) ( .ret)) ( .skip))) ( .seq ( .region (o 45 (.faddr 2 (t 4)) :: o 46 (.load false 1 (t 45)) :: o 47 (.mov (t 1)) ::
  o 48 (.load true 2 (t 6)) :: o 49 (.call (.func 93) [(t 46), (t 47), (t 48)]) :: o 13 (.mov (t 49)) :: []) [] []) ( .seq ( .seq ( .region (o 50 (.mov (t 13)) :: o 51 (.bin .lss (t 50) (i 0)) :: []) [] []) ( .cond (t 51) (
  .seq ( .region (o 52 (.build [(.int .i64 0), (.slice none 0 0), (.slice none 0 0), (.slice none 0 0), (.int .i64 0), (.int .i64 0), (.int .u64 0)] []) :: s (.store 7 (t 8) (t 52)) :: o 9 (.mov (i 70)) :: []) [] []) ( .ret)) (
  .skip))) ( .seq ( .seq ( .region (o 53 (.mov (t 3)) :: o 54 (.faddr 2 (t 4)) :: o 55 (.load false 1 (t 54)) :: o 56 (.mov (t 13)) :: o 57 (.iaddr 5 (t 55) (t 56)) :: o 58 (.faddr 3 (t 57)) :: o 59 (.load false 1 (t 58)) ::
  o 60 (.bin .gtr (t 53) (t 59)) :: []) [] []) ( .cond (t 60) ( .seq ( .region (o 61 (.build [(.int .i64 0), (.slice none 0 0), (.slice none 0 0), (.slice none 0 0), (.int .i64 0), (.int .i64 0), (.int .u64 0)] []) ::
  s (.store 7 (t 8) (t 61)) :: o 9 (.mov (i 66)) :: []) [] []) ( .ret)) ( .skip))) ( .seq ( .region (o 62 (.faddr 2 (t 4)) :: o 63 (.load false 1 (t 62)) :: o 64 (.append 46 5 48 (.const (.slice none 0 0)) (t 63)) ::
  o 65 (.faddr 2 (t 4)) :: s (.store 1 (t 65) (t 64)) :: []) [] []) ( .seq ( .region (o 66 (.faddr 2 (t 4)) :: o 67 (.load false 1 (t 66)) :: o 68 (.mov (t 13)) :: o 69 (.iaddr 5 (t 67) (t 68)) :: o 70 (.faddr 3 (t 69)) ::
  o 71 (.load false 1 (t 70)) :: o 72 (.mov (t 3)) :: o 73 (.bin .sub (t 71) (t 72)) :: o 74 (.iaddr 5 (t 67) (t 68)) :: o 75 (.faddr 3 (t 74)) :: s (.store 1 (t 75) (t 73)) :: []) [] []) ( .seq ( .region
  (o 76 (.load true 7 (t 4)) :: s (.store 7 (t 8) (t 76)) :: o 9 (.mov (i 0)) :: []) [] []) ( .ret))))))))))
theorem i_r37_Debit : Fn PP n_r37_Debit c_r37_Debit 77 [.c 8 true 7, .t 9] := ⟨Try.f57, Try.func57, ⟨_, rfl, by kernel_rfl⟩, by kernel_rfl, by kernel_rfl, Try.ntmps57⟩

def c_Src_Pick : CC :=
  .seq ( .region (o 4 (.mov (i 0)) :: []) [] []) ( .seq ( .region (o 5 (.mov (t 1)) :: o 6 (.mov (t 0)) :: o 7 (.mov (t 1)) :: o 8 (.len (t 7)) :: o 9 (.call (.func 31) [(t 6), (t 8)]) :: o 10 (.iaddr 1 (t 5) (t 9)) ::
  o 11 (.load false 1 (t 10)) :: o 4 (.mov (t 11)) :: []) [] []) ( .ret))
theorem i_Src_Pick : Fn PP n_Src_Pick c_Src_Pick 12 [.t 4] := ⟨Try.f58, Try.func58, ⟨_, rfl, by kernel_rfl⟩, by kernel_rfl, by kernel_rfl, Try.ntmps58⟩

def c_r38_Add : CC :=
  .seq ( .region (o 7 (.box 30 7 (t 0)) :: o 9 (.box 44 2 (t 2)) :: o 10 (.box 44 2 (t 3)) ::
  o 14 (.alloc 30 [(.int .i64 0), (.slice none 0 0), (.slice none 0 0), (.slice none 0 0), (.int .i64 0), (.int .i64 0), (.int .u64 0)]) :: o 15 (.mov (i 0)) :: o 16 (.mov (i 0)) :: []) [] []) ( .seq ( .seq ( .region
  (o 23 (.load true 7 (t 7)) :: o 24 (.call (.func 96) [(t 23)]) :: o 17 (.mov (t 24)) :: []) [] []) ( .seq ( .region (o 25 (.mov (t 17)) :: o 26 (.bin .neq (t 25) (i 0)) :: []) [] []) ( .cond (t 26) ( .seq ( .region
  (o 27 (.build [(.int .i64 0), (.slice none 0 0), (.slice none 0 0), (.slice none 0 0), (.int .i64 0), (.int .i64 0), (.int .u64 0)] []) :: o 28 (.mov (t 17)) :: s (.store 7 (t 14) (t 27)) :: o 15 (.mov (i 0)) ::
  o 16 (.mov (t 28)) :: []) [] []) ( .ret)) ( .skip)))) ( .seq ( .region (o 30 (.faddr 1 (t 7)) :: o 31 (.load false 1 (t 30)) :: o 32 (.mov (t 1)) :: o 33 (.call (.func 37) [(t 31), (t 32)]) :: o 29 (.mov (t 33)) ::
  o 34 (.ext (t 29) 0) :: o 35 (.ext (t 29) 1) :: o 18 (.alloc 34 [(.int .i64 0), (.int .i64 0), (.int .i64 0)]) :: s (.store 3 (t 18) (t 34)) :: o 19 (.mov (t 35)) :: []) [] []) ( .seq ( .block 0 ( .seq ( .region
  (o 37 (.mov (t 19)) :: o 38 (.un .not (t 37)) :: o 36 (.mov (t 38)) :: []) [] []) ( .cond (t 36) ( .seq ( .region
  (o 39 (.build [(.int .i64 0), (.slice none 0 0), (.slice none 0 0), (.slice none 0 0), (.int .i64 0), (.int .i64 0), (.int .u64 0)] []) :: s (.store 7 (t 14) (t 39)) :: o 15 (.mov (i 0)) :: o 16 (.mov (i 67)) :: []) [] []) (
  .ret)) ( .seq ( .region (o 41 (.load true 2 (t 9)) :: o 42 (.call (.func 90) [(t 41)]) :: o 43 (.un .not (t 42)) :: o 44 (.mov (t 43)) :: g 45 (.load true 2 (t 10)) 44 false :: g 46 (.call (.func 90) [(t 45)]) 44 false ::
  g 47 (.un .not (t 46)) 44 false :: o 48 (.pick (t 44) (b true) (t 47)) :: o 49 (.mov (t 48)) :: g 50 (.load true 2 (t 9)) 49 false :: g 51 (.load true 2 (t 10)) 49 false ::
  g 52 (.eqs false [(0, true), (1, false)] (t 50) (t 51)) 49 false :: o 53 (.pick (t 49) (b true) (t 52)) :: o 40 (.mov (t 53)) :: []) [] []) ( .cond (t 40) ( .seq ( .region
  (o 54 (.build [(.int .i64 0), (.slice none 0 0), (.slice none 0 0), (.slice none 0 0), (.int .i64 0), (.int .i64 0), (.int .u64 0)] []) :: s (.store 7 (t 14) (t 54)) :: o 15 (.mov (i 0)) :: o 16 (.mov (i 71)) :: []) [] []) (
  .ret)) ( .seq ( .region (o 56 (.mov (t 4)) :: o 57 (.bin .lss (t 56) (i 1)) :: o 58 (.mov (t 57)) :: g 59 (.mov (t 4)) 58 false :: g 60 (.call (.func 79) [(t 59)]) 58 false :: g 61 (.un .not (t 60)) 58 false ::
  o 62 (.pick (t 58) (b true) (t 61)) :: o 63 (.mov (t 62)) :: g 64 (.mov (t 5)) 63 false :: g 65 (.mov (t 6)) 63 false :: g 66 (.call (.func 97) [(t 64), (t 65)]) 63 false :: g 67 (.un .not (t 66)) 63 false ::
  o 68 (.pick (t 63) (b true) (t 67)) :: o 55 (.mov (t 68)) :: []) [] []) ( .cond (t 55) ( .seq ( .region
  (o 69 (.build [(.int .i64 0), (.slice none 0 0), (.slice none 0 0), (.slice none 0 0), (.int .i64 0), (.int .i64 0), (.int .u64 0)] []) :: s (.store 7 (t 14) (t 69)) :: o 15 (.mov (i 0)) :: o 16 (.mov (i 72)) :: []) [] []) (
  .ret)) ( .seq ( .region (o 71 (.load true 7 (t 7)) :: o 72 (.mov (t 1)) :: o 73 (.load true 2 (t 9)) :: o 74 (.call (.func 98) [(t 71), (t 72), (t 73)]) :: o 75 (.un .not (t 74)) :: o 76 (.mov (t 75)) ::
  g 77 (.load true 7 (t 7)) 76 false :: g 78 (.mov (t 1)) 76 false :: g 79 (.load true 2 (t 10)) 76 false :: g 80 (.call (.func 98) [(t 77), (t 78), (t 79)]) 76 false :: g 81 (.un .not (t 80)) 76 false ::
  o 82 (.pick (t 76) (b true) (t 81)) :: o 70 (.mov (t 82)) :: []) [] []) ( .cond (t 70) ( .seq ( .region
  (o 83 (.build [(.int .i64 0), (.slice none 0 0), (.slice none 0 0), (.slice none 0 0), (.int .i64 0), (.int .i64 0), (.int .u64 0)] []) :: s (.store 7 (t 14) (t 83)) :: o 15 (.mov (i 0)) :: o 16 (.mov (i 70)) :: []) [] []) (
  .ret)) ( .seq ( .region (o 85 (.load true 7 (t 7)) :: o 86 (.mov (t 1)) :: o 87 (.load true 2 (t 9)) :: o 88 (.call (.func 52) [(t 85), (t 86), (t 87)]) :: o 89 (.bin .eql (t 88) (i 0)) :: o 84 (.mov (t 89)) :: []) [] []) (
  .cond (t 84) ( .seq ( .region (o 90 (.build [(.int .i64 0), (.slice none 0 0), (.slice none 0 0), (.slice none 0 0), (.int .i64 0), (.int .i64 0), (.int .u64 0)] []) :: s (.store 7 (t 14) (t 90)) :: o 15 (.mov (i 0)) ::
  o 16 (.mov (i 66)) :: []) [] []) ( .ret)) ( .seq ( .region (o 92 (.faddr 3 (t 7)) :: o 93 (.load false 1 (t 92)) :: o 94 (.len (t 93)) :: o 95 (.bin .eql (t 94) (i 40)) :: o 96 (.mov (t 95)) :: g 97 (.faddr 4 (t 7)) 96 false ::
  g 98 (.load false 1 (t 97)) 96 false :: g 99 (.bin .eql (t 98) (i 1000000)) 96 false :: o 100 (.pick (t 96) (b true) (t 99)) :: o 91 (.mov (t 100)) :: []) [] []) ( .cond (t 91) ( .seq ( .region
  (o 101 (.build [(.int .i64 0), (.slice none 0 0), (.slice none 0 0), (.slice none 0 0), (.int .i64 0), (.int .i64 0), (.int .u64 0)] []) :: s (.store 7 (t 14) (t 101)) :: o 15 (.mov (i 0)) :: o 16 (.mov (i 3)) :: []) [] []) (
  .ret)) ( .skip)))))))))))))) ( .seq ( .region (o 103 (.mov (t 5)) :: o 104 (.mov (t 6)) :: o 105 (.call (.func 99) [(t 103), (t 104)]) :: o 102 (.mov (t 105)) :: o 106 (.ext (t 102) 0) :: o 107 (.ext (t 102) 1) ::
  o 20 (.mov (t 106)) :: o 21 (.mov (t 107)) :: []) [] []) ( .seq ( .region (o 108 (.faddr 4 (t 7)) :: o 109 (.load false 1 (t 108)) :: o 22 (.mov (t 109)) :: []) [] []) ( .seq ( .region (o 110 (.faddr 3 (t 7)) ::
  o 111 (.load false 1 (t 110)) :: o 112 (.append 96 9 88 (.const (.slice none 0 0)) (t 111)) :: o 113 (.mov (t 22)) :: o 114 (.mov (t 1)) :: o 115 (.load true 2 (t 9)) :: o 116 (.load true 2 (t 10)) :: o 117 (.mov (t 4)) ::
  o 118 (.mov (t 20)) :: o 119 (.mov (t 21)) ::
  o 120 (.build [(.int .i64 0), (.int .i64 0), (.string ⟨#[]⟩), (.int .i64 0), (.string ⟨#[]⟩), (.int .i64 0), (.int .i64 0), (.int .i64 0), (.int .i64 0)] [(0, 1, (t 113)), (1, 1, (t 114)), (2, 2, (t 115)), (4, 2, (t 116)), (6, 1, (t 117)), (7, 1, (t 118)), (8, 1, (t 119))]) ::
  o 121 (.bslice 96 9 1 [(.int .i64 0), (.int .i64 0), (.string ⟨#[]⟩), (.int .i64 0), (.string ⟨#[]⟩), (.int .i64 0), (.int .i64 0), (.int .i64 0), (.int .i64 0)] [(0, (t 120))]) :: o 122 (.append 96 9 88 (t 112) (t 121)) ::
  o 123 (.faddr 3 (t 7)) :: s (.store 1 (t 123) (t 122)) :: []) [(2, 5), (2, 6), (1, 11), (2, 11)] []) ( .seq ( .region (o 124 (.faddr 4 (t 7)) :: o 125 (.load false 1 (t 124)) :: o 126 (.bin .add (t 125) (i 1)) ::
  o 127 (.faddr 4 (t 7)) :: s (.store 1 (t 127) (t 126)) :: []) [] []) ( .seq ( .region (o 128 (.load true 7 (t 7)) :: o 129 (.mov (t 22)) :: s (.store 7 (t 14) (t 128)) :: o 15 (.mov (t 129)) :: o 16 (.mov (i 0)) :: []) [] []) (
  .ret)))))))))
theorem i_r38_Add : Fn PP n_r38_Add c_r38_Add 130 [.c 14 true 7, .t 15, .t 16] := ⟨Try.f59, Try.func59, ⟨_, rfl, by kernel_rfl⟩, by kernel_rfl, by kernel_rfl, Try.ntmps59⟩

def c_accounts_place : CC :=
  .seq ( .region (o 3 (.box 3 1 (t 1)) :: o 4 (.mov (i 0)) :: []) [] []) ( .seq ( .region (o 5 (.mov (t 0)) :: o 6 (.mkfn 101 [(t 3)]) :: o 7 (.call (.func 100) [(t 5), (t 6)]) :: o 4 (.mov (t 7)) :: []) [] []) ( .ret))
theorem i_accounts_place : Fn PP n_accounts_place c_accounts_place 8 [.t 4] := ⟨Try.f60, Try.func60, ⟨_, rfl, by kernel_rfl⟩, by kernel_rfl, by kernel_rfl, Try.ntmps60⟩

def c_accounts_change : CC :=
  .seq ( .region (o 6 (.mov (.const (.slice none 0 0))) :: o 7 (.mov (i 0)) :: []) [] []) ( .seq ( .seq ( .region (o 12 (.mov (t 0)) :: o 13 (.call (.func 73) [(t 12)]) :: o 8 (.mov (t 13)) :: []) [] []) ( .seq ( .region
  (o 14 (.mov (t 8)) :: o 15 (.bin .neq (t 14) (i 0)) :: []) [] []) ( .cond (t 15) ( .seq ( .region (o 16 (.mov (t 8)) :: o 6 (.mov (.const (.slice none 0 0))) :: o 7 (.mov (t 16)) :: []) [] []) ( .ret)) ( .skip)))) ( .seq (
  .region (o 17 (.mov (t 0)) :: o 18 (.mov (t 1)) :: o 19 (.call (.func 60) [(t 17), (t 18)]) :: o 9 (.mov (t 19)) :: []) [] []) ( .seq ( .seq ( .region (o 20 (.mov (t 9)) :: o 21 (.bin .lss (t 20) (i 0)) :: []) [] []) (
  .cond (t 21) ( .seq ( .region (o 6 (.mov (.const (.slice none 0 0))) :: o 7 (.mov (i 67)) :: []) [] []) ( .ret)) ( .skip))) ( .seq ( .region (o 22 (.mov (t 0)) :: o 23 (.call (.func 78) [(t 22)]) ::
  o 10 (.mov (t 23)) :: []) [] []) ( .seq ( .seq ( .region (o 24 (.mov (t 2)) :: o 25 (.mov (t 10)) :: o 26 (.mov (t 9)) :: o 27 (.iaddr 3 (t 25) (t 26)) :: o 28 (.call (t 24) [(t 27)]) :: o 11 (.mov (t 28)) :: []) [] []) (
  .seq ( .region (o 29 (.mov (t 11)) :: o 30 (.bin .neq (t 29) (i 0)) :: []) [] []) ( .cond (t 30) ( .seq ( .region (o 31 (.mov (t 11)) :: o 6 (.mov (.const (.slice none 0 0))) :: o 7 (.mov (t 31)) :: []) [] []) ( .ret)) (
  .skip)))) ( .seq ( .region (o 32 (.mov (t 10)) :: o 6 (.mov (t 32)) :: o 7 (.mov (i 0)) :: []) [] []) ( .ret)))))))
theorem i_accounts_change : Fn PP n_accounts_change c_accounts_change 33 [.t 6, .t 7] := ⟨Try.f61, Try.func61, ⟨_, rfl, by kernel_rfl⟩, by kernel_rfl, by kernel_rfl, Try.ntmps61⟩

def c_accounts_Begin_1 : CC :=
  .seq ( .region (o 4 (.mov (i 0)) :: []) [] []) ( .seq ( .block 0 ( .seq ( .region (o 6 (.load false 1 (t 1)) :: o 7 (.mov (t 0)) :: o 8 (.nilck (t 7)) :: o 9 (.faddr 2 (t 8)) :: o 10 (.load false 1 (t 9)) ::
  o 11 (.bin .add (t 10) (i 1)) :: o 12 (.bin .neq (t 6) (t 11)) :: o 13 (.mov (t 12)) :: g 14 (.load false 1 (t 1)) 13 false :: g 15 (.bin .gtr (t 14) (i 1000000)) 13 false :: o 16 (.pick (t 13) (b true) (t 15)) ::
  o 5 (.mov (t 16)) :: []) [] []) ( .cond (t 5) ( .seq ( .region (o 4 (.mov (i 68)) :: []) [] []) ( .ret)) ( .seq ( .region (o 18 (.load false 1 (t 2)) :: o 19 (.bin .lss (t 18) (i 1)) :: o 20 (.mov (t 19)) ::
  g 21 (.load false 1 (t 2)) 20 false :: g 22 (.bin .gtr (t 21) (i 100000)) 20 false :: o 23 (.pick (t 20) (b true) (t 22)) :: o 17 (.mov (t 23)) :: []) [] []) ( .cond (t 17) ( .seq ( .region (o 4 (.mov (i 69)) :: []) [] []) (
  .ret)) ( .seq ( .region (o 25 (.load false 1 (t 2)) :: o 26 (.mov (t 0)) :: o 27 (.nilck (t 26)) :: o 28 (.faddr 1 (t 27)) :: o 29 (.load false 1 (t 28)) :: o 30 (.bin .gtr (t 25) (t 29)) :: o 24 (.mov (t 30)) :: []) [] []) (
  .cond (t 24) ( .seq ( .region (o 4 (.mov (i 66)) :: []) [] []) ( .ret)) ( .skip)))))))) ( .seq ( .region (o 31 (.mov (t 0)) :: o 32 (.mov (t 0)) :: o 33 (.load false 1 (t 1)) :: o 34 (.mov (t 0)) :: o 35 (.nilck (t 34)) ::
  o 36 (.faddr 1 (t 35)) :: o 37 (.load false 1 (t 36)) :: o 38 (.load false 1 (t 2)) :: o 39 (.bin .sub (t 37) (t 38)) :: o 40 (.nilck (t 31)) :: o 41 (.faddr 2 (t 40)) :: s (.store 1 (t 41) (t 33)) :: o 42 (.nilck (t 32)) ::
  o 43 (.faddr 1 (t 42)) :: s (.store 1 (t 43) (t 39)) :: []) [(7, 11)] []) ( .seq ( .region (o 4 (.mov (i 0)) :: []) [] []) ( .ret))))
theorem i_accounts_Begin_1 : Fn PP n_accounts_Begin_1 c_accounts_Begin_1 44 [.t 4] := ⟨Try.f62, Try.func62, ⟨_, rfl, by kernel_rfl⟩, by kernel_rfl, by kernel_rfl, Try.ntmps62⟩

def c_trustlines_right : CC :=
  .seq ( .region (o 1 (.box 30 7 (t 0)) :: o 2 (.mov (b false)) :: []) [] []) ( .seq ( .region (o 3 (.faddr 2 (t 1)) :: o 4 (.load false 1 (t 3)) :: o 5 (.faddr 1 (t 1)) :: o 6 (.load false 1 (t 5)) ::
  o 7 (.call (.func 28) [(t 4), (t 6)]) :: o 8 (.bin .eql (t 7) (i 0)) :: o 2 (.mov (t 8)) :: []) [] []) ( .ret))
theorem i_trustlines_right : Fn PP n_trustlines_right c_trustlines_right 9 [.t 2] := ⟨Try.f63, Try.func63, ⟨_, rfl, by kernel_rfl⟩, by kernel_rfl, by kernel_rfl, Try.ntmps63⟩

def c_trustlines_look : CC :=
  .seq ( .region (o 3 (.box 30 7 (t 0)) :: o 5 (.box 44 2 (t 2)) :: o 6 (.alloc 88 [(.int .i64 0), (.int .i64 0)]) :: o 7 (.mov (b false)) :: []) [] []) ( .seq ( .region (o 13 (.faddr 1 (t 3)) :: o 14 (.load false 1 (t 13)) ::
  o 15 (.mov (t 1)) :: o 16 (.call (.func 15) [(t 14), (t 15)]) :: o 12 (.mov (t 16)) :: o 17 (.ext (t 12) 0) :: o 18 (.ext (t 12) 1) :: o 8 (.alloc 34 [(.int .i64 0), (.int .i64 0), (.int .i64 0)]) ::
  s (.store 3 (t 8) (t 17)) :: o 9 (.mov (t 18)) :: []) [] []) ( .seq ( .block 0 ( .seq ( .region (o 20 (.mov (t 9)) :: o 21 (.un .not (t 20)) :: o 22 (.mov (t 21)) :: g 23 (.load true 2 (t 5)) 22 false ::
  g 24 (.call (.func 69) [(t 23)]) 22 false :: g 25 (.un .not (t 24)) 22 false :: o 26 (.pick (t 22) (b true) (t 25)) :: o 19 (.mov (t 26)) :: []) [] []) ( .cond (t 19) ( .seq ( .region
  (o 27 (.build [(.int .i64 0), (.int .i64 0)] []) :: s (.store 2 (t 6) (t 27)) :: o 7 (.mov (b false)) :: []) [] []) ( .ret)) ( .seq ( .region (o 29 (.load true 2 (t 5)) :: o 30 (.call (.func 66) [(t 29)]) ::
  o 28 (.mov (t 30)) :: []) [] []) ( .cond (t 28) ( .seq ( .region (o 31 (.faddr 1 (t 8)) :: o 32 (.load false 1 (t 31)) :: o 33 (.faddr 1 (t 8)) :: o 34 (.load false 1 (t 33)) :: o 35 (.bin .sub (i 1000000000000) (t 34)) ::
  o 36 (.build [(.int .i64 0), (.int .i64 0)] [(0, 1, (t 32)), (1, 1, (t 35))]) :: s (.store 2 (t 6) (t 36)) :: o 7 (.mov (b true)) :: []) [] []) ( .ret)) ( .seq ( .region (o 38 (.faddr 1 (t 5)) :: o 39 (.load false 1 (t 38)) ::
  o 40 (.mov (t 1)) :: o 41 (.bin .eql (t 39) (t 40)) :: o 37 (.mov (t 41)) :: []) [] []) ( .cond (t 37) ( .seq ( .region (o 42 (.build [(.int .i64 0), (.int .i64 0)] [(0, 1, (i 1000000000000)), (1, 1, (i 1000000000000))]) ::
  s (.store 2 (t 6) (t 42)) :: o 7 (.mov (b true)) :: []) [] []) ( .ret)) ( .skip)))))))) ( .seq ( .region (o 44 (.faddr 2 (t 3)) :: o 45 (.load false 1 (t 44)) :: o 46 (.mov (t 1)) :: o 47 (.load true 2 (t 5)) ::
  o 48 (.call (.func 25) [(t 45), (t 46), (t 47)]) :: o 43 (.mov (t 48)) :: o 49 (.ext (t 43) 0) :: o 50 (.ext (t 43) 1) :: o 10 (.alloc 46 [(.int .i64 0), (.string ⟨#[]⟩), (.int .i64 0), (.int .i64 0), (.int .i64 0)]) ::
  s (.store 5 (t 10) (t 49)) :: o 11 (.mov (t 50)) :: []) [] []) ( .seq ( .region (o 51 (.faddr 3 (t 10)) :: o 52 (.load false 1 (t 51)) :: o 53 (.faddr 4 (t 10)) :: o 54 (.load false 1 (t 53)) :: o 55 (.faddr 3 (t 10)) ::
  o 56 (.load false 1 (t 55)) :: o 57 (.bin .sub (t 54) (t 56)) :: o 58 (.build [(.int .i64 0), (.int .i64 0)] [(0, 1, (t 52)), (1, 1, (t 57))]) :: o 59 (.mov (t 11)) :: s (.store 2 (t 6) (t 58)) ::
  o 7 (.mov (t 59)) :: []) [] []) ( .ret)))))
theorem i_trustlines_look : Fn PP n_trustlines_look c_trustlines_look 60 [.c 6 true 2, .t 7] := ⟨Try.f64, Try.func64, ⟨_, rfl, by kernel_rfl⟩, by kernel_rfl, by kernel_rfl, Try.ntmps64⟩

def c_trustlines_check : CC :=
  .seq ( .region (o 4 (.box 30 7 (t 0)) :: o 6 (.box 44 2 (t 2)) :: o 8 (.mov (i 0)) :: []) [] []) ( .seq ( .region (o 12 (.faddr 1 (t 4)) :: o 13 (.load false 1 (t 12)) :: o 14 (.mov (t 1)) ::
  o 15 (.call (.func 15) [(t 13), (t 14)]) :: o 11 (.mov (t 15)) :: o 16 (.ext (t 11) 0) :: o 17 (.ext (t 11) 1) :: o 9 (.alloc 34 [(.int .i64 0), (.int .i64 0), (.int .i64 0)]) :: s (.store 3 (t 9) (t 16)) ::
  o 10 (.mov (t 17)) :: []) [] []) ( .seq ( .block 0 ( .seq ( .region (o 19 (.load true 7 (t 4)) :: o 20 (.call (.func 63) [(t 19)]) :: o 21 (.un .not (t 20)) :: o 18 (.mov (t 21)) :: []) [] []) ( .cond (t 18) ( .seq ( .region
  (o 8 (.mov (i 74)) :: []) [] []) ( .ret)) ( .seq ( .region (o 23 (.load true 2 (t 6)) :: o 24 (.call (.func 69) [(t 23)]) :: o 25 (.un .not (t 24)) :: o 22 (.mov (t 25)) :: []) [] []) ( .cond (t 22) ( .seq ( .region
  (o 8 (.mov (i 71)) :: []) [] []) ( .ret)) ( .seq ( .region (o 27 (.mov (t 10)) :: o 28 (.un .not (t 27)) :: o 26 (.mov (t 28)) :: []) [] []) ( .cond (t 26) ( .seq ( .region (o 8 (.mov (i 67)) :: []) [] []) ( .ret)) ( .seq (
  .region (o 30 (.mov (t 3)) :: o 31 (.call (.func 70) [(t 30)]) :: o 32 (.un .not (t 31)) :: o 29 (.mov (t 32)) :: []) [] []) ( .cond (t 29) ( .seq ( .region (o 8 (.mov (i 65)) :: []) [] []) ( .ret)) ( .skip)))))))))) ( .seq (
  .region (o 8 (.mov (i 0)) :: []) [] []) ( .ret))))
theorem i_trustlines_check : Fn PP n_trustlines_check c_trustlines_check 33 [.t 8] := ⟨Try.f65, Try.func65, ⟨_, rfl, by kernel_rfl⟩, by kernel_rfl, by kernel_rfl, Try.ntmps65⟩

def c_amount_Native : CC :=
  .seq ( .region (o 1 (.box 44 2 (t 0)) :: o 2 (.mov (b false)) :: []) [] []) ( .seq ( .region (o 3 (.load true 2 (t 1)) :: o 4 (.build [(.string ⟨#[]⟩), (.int .i64 0)] []) ::
  o 5 (.eqs false [(0, true), (1, false)] (t 3) (t 4)) :: o 2 (.mov (t 5)) :: []) [] []) ( .ret))
theorem i_amount_Native : Fn PP n_amount_Native c_amount_Native 6 [.t 2] := ⟨Try.f66, Try.func66, ⟨_, rfl, by kernel_rfl⟩, by kernel_rfl, by kernel_rfl, Try.ntmps66⟩

def c_trustlines_add : CC :=
  .seq ( .region (o 4 (.box 30 7 (t 0)) :: o 5 (.box 3 1 (t 1)) :: o 6 (.box 44 2 (t 2)) ::
  o 8 (.alloc 30 [(.int .i64 0), (.slice none 0 0), (.slice none 0 0), (.slice none 0 0), (.int .i64 0), (.int .i64 0), (.int .u64 0)]) :: []) [] []) ( .seq ( .region (o 10 (.load true 7 (t 4)) ::
  o 11 (.call (.func 102) [(t 10)]) :: s (.store 7 (t 4) (t 11)) :: []) [] []) ( .seq ( .block 0 ( .seq ( .region (o 13 (.load true 2 (t 6)) :: o 14 (.call (.func 66) [(t 13)]) :: o 12 (.mov (t 14)) :: []) [] []) ( .cond (t 12) (
  .seq ( .region (o 15 (.faddr 1 (t 4)) :: o 16 (.load false 1 (t 15)) :: o 17 (.mkfn 103 [(t 5)]) :: o 18 (.call (.func 100) [(t 16), (t 17)]) :: o 9 (.mov (t 18)) :: []) [] []) ( .region (o 19 (.faddr 1 (t 4)) ::
  o 20 (.load false 1 (t 19)) :: o 21 (.mov (t 9)) :: o 22 (.iaddr 3 (t 20) (t 21)) :: o 23 (.faddr 1 (t 22)) :: o 24 (.load false 1 (t 23)) :: o 25 (.mov (t 3)) :: o 26 (.bin .add (t 24) (t 25)) ::
  o 27 (.iaddr 3 (t 20) (t 21)) :: o 28 (.faddr 1 (t 27)) :: s (.store 1 (t 28) (t 26)) :: []) [] [])) ( .seq ( .region (o 30 (.faddr 1 (t 6)) :: o 31 (.load false 1 (t 30)) :: o 32 (.load false 1 (t 5)) ::
  o 33 (.bin .neq (t 31) (t 32)) :: o 29 (.mov (t 33)) :: []) [] []) ( .cond (t 29) ( .region (o 34 (.faddr 2 (t 4)) :: o 35 (.load false 1 (t 34)) :: o 36 (.faddr 2 (t 4)) :: o 37 (.load false 1 (t 36)) ::
  o 38 (.load false 1 (t 5)) :: o 39 (.load true 2 (t 6)) :: o 40 (.call (.func 68) [(t 37), (t 38), (t 39)]) :: o 41 (.iaddr 5 (t 35) (t 40)) :: o 42 (.faddr 3 (t 41)) :: o 43 (.load false 1 (t 42)) :: o 44 (.mov (t 3)) ::
  o 45 (.bin .add (t 43) (t 44)) :: o 46 (.iaddr 5 (t 35) (t 40)) :: o 47 (.faddr 3 (t 46)) :: s (.store 1 (t 47) (t 45)) :: []) [(1, 6)] []) ( .skip)))))) ( .seq ( .region (o 48 (.load true 7 (t 4)) ::
  s (.store 7 (t 8) (t 48)) :: []) [] []) ( .ret))))
theorem i_trustlines_add : Fn PP n_trustlines_add c_trustlines_add 49 [.c 8 true 7] := ⟨Try.f67, Try.func67, ⟨_, rfl, by kernel_rfl⟩, by kernel_rfl, by kernel_rfl, Try.ntmps67⟩

def c_trustlines_place : CC :=
  .seq ( .region (o 4 (.box 3 1 (t 1)) :: o 5 (.box 44 2 (t 2)) :: o 6 (.mov (i 0)) :: []) [] []) ( .seq ( .region (o 7 (.mov (t 0)) :: o 8 (.mkfn 104 [(t 4), (t 5)]) :: o 9 (.call (.func 86) [(t 7), (t 8)]) ::
  o 6 (.mov (t 9)) :: []) [] []) ( .ret))
theorem i_trustlines_place : Fn PP n_trustlines_place c_trustlines_place 10 [.t 6] := ⟨Try.f68, Try.func68, ⟨_, rfl, by kernel_rfl⟩, by kernel_rfl, by kernel_rfl, Try.ntmps68⟩

def c_amount_Valid : CC :=
  .seq ( .region (o 2 (.mov (b false)) :: []) [] []) ( .seq ( .region (o 3 (.mov (t 0)) :: o 4 (.bin .geq (t 3) (i 0)) :: o 5 (.mov (t 4)) :: g 6 (.mov (t 0)) 5 true :: g 7 (.bin .leq (t 6) (i 1000000000000)) 5 true ::
  o 8 (.pick (t 5) (t 7) (b false)) :: o 2 (.mov (t 8)) :: []) [] []) ( .ret))
theorem i_amount_Valid : Fn PP n_amount_Valid c_amount_Valid 9 [.t 2] := ⟨Try.f70, Try.func70, ⟨_, rfl, by kernel_rfl⟩, by kernel_rfl, by kernel_rfl, Try.ntmps70⟩

def c_trustlines_of : CC :=
  .seq ( .region (o 1 (.box 46 5 (t 0)) :: o 2 (.alloc 99 [(.int .i64 0), (.string ⟨#[]⟩), (.int .i64 0)]) :: []) [] []) ( .seq ( .region (o 3 (.faddr 0 (t 1)) :: o 4 (.load false 1 (t 3)) :: o 5 (.faddr 1 (t 1)) ::
  o 6 (.load true 2 (t 5)) :: o 7 (.build [(.int .i64 0), (.string ⟨#[]⟩), (.int .i64 0)] [(0, 1, (t 4)), (1, 2, (t 6))]) :: s (.store 3 (t 2) (t 7)) :: []) [] []) ( .ret))
theorem i_trustlines_of : Fn PP n_trustlines_of c_trustlines_of 8 [.c 2 true 3] := ⟨Try.f71, Try.func71, ⟨_, rfl, by kernel_rfl⟩, by kernel_rfl, by kernel_rfl, Try.ntmps71⟩

def c_key_compare : CC :=
  .seq ( .region (o 2 (.box 99 3 (t 0)) :: o 3 (.box 99 3 (t 1)) :: o 4 (.mov (i 0)) :: []) [] []) ( .seq ( .region (o 5 (.faddr 0 (t 2)) :: o 6 (.load false 1 (t 5)) :: o 7 (.faddr 0 (t 3)) :: o 8 (.load false 1 (t 7)) ::
  o 9 (.call (.func 106) [(t 6), (t 8)]) :: o 10 (.faddr 1 (t 2)) :: o 11 (.load true 2 (t 10)) :: o 12 (.faddr 1 (t 3)) :: o 13 (.load true 2 (t 12)) :: o 14 (.call (.func 107) [(t 11), (t 13)]) ::
  o 15 (.bslice 3 1 2 [(.int .i64 0)] [(0, (t 9)), (1, (t 14))]) :: o 16 (.call (.func 105) [(t 15)]) :: o 4 (.mov (t 16)) :: []) [(4, 6), (4, 8)] []) ( .ret))
theorem i_key_compare : Fn PP n_key_compare c_key_compare 17 [.t 4] := ⟨Try.f72, Try.func72, ⟨_, rfl, by kernel_rfl⟩, by kernel_rfl, by kernel_rfl, Try.ntmps72⟩

def c_accounts_right : CC :=
  .seq ( .region (o 2 (.mov (i 0)) :: []) [] []) ( .seq ( .seq ( .region (o 3 (.mov (t 0)) :: o 4 (.call (.func 34) [(t 3)]) :: o 5 (.bin .neq (t 4) (i 0)) :: []) [] []) ( .cond (t 5) ( .seq ( .region
  (o 2 (.mov (i 74)) :: []) [] []) ( .ret)) ( .skip))) ( .seq ( .region (o 2 (.mov (i 0)) :: []) [] []) ( .ret)))
theorem i_accounts_right : Fn PP n_accounts_right c_accounts_right 6 [.t 2] := ⟨Try.f73, Try.func73, ⟨_, rfl, by kernel_rfl⟩, by kernel_rfl, by kernel_rfl, Try.ntmps73⟩

def c_accounts_id : CC :=
  .seq ( .region (o 2 (.mov (b false)) :: []) [] []) ( .seq ( .region (o 3 (.mov (t 0)) :: o 4 (.bin .geq (t 3) (i 1)) :: o 5 (.mov (t 4)) :: g 6 (.mov (t 0)) 5 true :: g 7 (.bin .leq (t 6) (i 1000)) 5 true ::
  o 8 (.pick (t 5) (t 7) (b false)) :: o 2 (.mov (t 8)) :: []) [] []) ( .ret))
theorem i_accounts_id : Fn PP n_accounts_id c_accounts_id 9 [.t 2] := ⟨Try.f74, Try.func74, ⟨_, rfl, by kernel_rfl⟩, by kernel_rfl, by kernel_rfl, Try.ntmps74⟩

def l_slices_BinarySearchFunc_Account_0 : CC :=
   .seq ( .seq ( .region (o 15 (.mov (t 9)) :: o 16 (.mov (t 10)) :: o 17 (.bin .lss (t 15) (t 16)) :: []) [] []) ( .cond (t 17) ( .skip) ( .exit 0))) ( .block 1 ( .seq ( .region (o 18 (.mov (t 9)) :: o 19 (.mov (t 10)) ::
  o 20 (.bin .add (t 18) (t 19)) :: o 21 (.conv .u64 (t 20)) :: o 22 (.bin .shr (t 21) (.const (.int .u64 1))) :: o 23 (.conv .i64 (t 22)) :: o 11 (.mov (t 23)) :: []) [] []) ( .seq ( .region (o 24 (.mov (t 2)) ::
  o 25 (.mov (t 0)) :: o 26 (.mov (t 11)) :: o 27 (.iaddr 3 (t 25) (t 26)) :: o 28 (.load true 3 (t 27)) :: o 29 (.mov (t 1)) :: o 30 (.call (t 24) [(t 28), (t 29)]) :: o 31 (.bin .lss (t 30) (i 0)) :: []) [] []) ( .cond (t 31) (
  .region (o 32 (.mov (t 11)) :: o 33 (.bin .add (t 32) (i 1)) :: o 9 (.mov (t 33)) :: []) [] []) ( .region (o 34 (.mov (t 11)) :: o 10 (.mov (t 34)) :: []) [] [])))))
def c_slices_BinarySearchFunc_Account : CC :=
  .seq ( .region (o 6 (.mov (i 0)) :: o 7 (.mov (b false)) :: []) [] []) ( .seq ( .region (o 12 (.mov (t 0)) :: o 13 (.len (t 12)) :: o 8 (.mov (t 13)) :: []) [] []) ( .seq ( .region (o 14 (.mov (t 8)) :: o 9 (.mov (i 0)) ::
  o 10 (.mov (t 14)) :: []) [] []) ( .seq ( .block 0 ( .loop l_slices_BinarySearchFunc_Account_0)) ( .seq ( .region (o 35 (.mov (t 9)) :: o 36 (.mov (t 9)) :: o 37 (.mov (t 8)) :: o 38 (.bin .lss (t 36) (t 37)) ::
  o 39 (.mov (t 38)) :: g 40 (.mov (t 2)) 39 true :: g 41 (.mov (t 0)) 39 true :: g 42 (.mov (t 9)) 39 true :: g 43 (.iaddr 3 (t 41) (t 42)) 39 true :: g 44 (.load true 3 (t 43)) 39 true :: g 45 (.mov (t 1)) 39 true ::
  g 46 (.call (t 40) [(t 44), (t 45)]) 39 true :: g 47 (.bin .eql (t 46) (i 0)) 39 true :: o 48 (.pick (t 39) (t 47) (b false)) :: o 6 (.mov (t 35)) :: o 7 (.mov (t 48)) :: []) [] []) ( .ret)))))
theorem i_slices_BinarySearchFunc_Account : Fn PP n_slices_BinarySearchFunc_Account c_slices_BinarySearchFunc_Account 49 [.t 6, .t 7] := ⟨Try.f75, Try.func75, ⟨_, rfl, by kernel_rfl⟩, by kernel_rfl, by kernel_rfl, Try.ntmps75⟩

end Go.Proofs.Ytneoeegpceompaa.AM
