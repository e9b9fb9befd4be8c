/-
The compact codes of the program's functions, part 3: printed by codes.py.
-/
import Derived.Test.YtneoeegpceompaaN
import Derived.KernelRfl
set_option linter.unusedVariables false
set_option linter.unusedSimpArgs false
namespace Go.Proofs.Ytneoeegpceompaa.AM
open Go Go.Proofs
open Go.Proofs.Ytneoeegpceompaa.AM.K

def c_accounts_Create_1 : CC :=
  .seq ( .region (o 2 (.box 34 3 (t 0)) :: o 4 (.mov (i 0)) :: []) [] []) ( .seq ( .region (o 5 (.faddr 0 (t 2)) :: o 6 (.load false 1 (t 5)) :: o 7 (.mov (t 1)) :: o 8 (.bin .sub (t 6) (t 7)) :: o 4 (.mov (t 8)) :: []) [] []) (
  .ret))
theorem i_accounts_Create_1 : Fn PP n_accounts_Create_1 c_accounts_Create_1 9 [.t 4] := ⟨Try.f76, Try.func76, ⟨_, rfl, by kernel_rfl⟩, by kernel_rfl, by kernel_rfl, Try.ntmps76⟩

def c_slices_Insert_Account : CC :=
  .seq ( .region (o 6 (.mov (.const (.slice none 0 0))) :: []) [] []) ( .seq ( .region (o 10 (.mov (t 0)) :: o 11 (.mov (t 1)) :: o 12 (.slice 3 (t 10) (some (t 11)) none none) :: []) [] []) ( .seq ( .region (o 13 (.mov (t 2)) ::
  o 14 (.len (t 13)) :: o 7 (.mov (t 14)) :: []) [] []) ( .seq ( .seq ( .region (o 15 (.mov (t 7)) :: o 16 (.bin .eql (t 15) (i 0)) :: []) [] []) ( .cond (t 16) ( .seq ( .region (o 17 (.mov (t 0)) ::
  o 6 (.mov (t 17)) :: []) [] []) ( .ret)) ( .skip))) ( .seq ( .region (o 18 (.mov (t 0)) :: o 19 (.len (t 18)) :: o 8 (.mov (t 19)) :: []) [] []) ( .seq ( .seq ( .region (o 20 (.mov (t 1)) :: o 21 (.mov (t 8)) ::
  o 22 (.bin .eql (t 20) (t 21)) :: []) [] []) ( .cond (t 22) ( .seq ( .region (o 23 (.mov (t 0)) :: o 24 (.mov (t 2)) :: o 25 (.append 34 3 24 (t 23) (t 24)) :: o 6 (.mov (t 25)) :: []) [] []) ( .ret)) ( .skip))) ( .seq ( .seq (
  .region (o 26 (.mov (t 8)) :: o 27 (.mov (t 7)) :: o 28 (.bin .add (t 26) (t 27)) :: o 29 (.mov (t 0)) :: o 30 (.cap (t 29)) :: o 31 (.bin .gtr (t 28) (t 30)) :: []) [] []) ( .cond (t 31) ( .seq ( .region (o 32 (.mov (t 0)) ::
  o 33 (.mov (t 1)) :: o 34 (.slice 3 (t 32) none (some (t 33)) none) :: o 35 (.mov (t 8)) :: o 36 (.mov (t 7)) :: o 37 (.bin .add (t 35) (t 36)) :: o 38 (.mov (t 1)) :: o 39 (.bin .sub (t 37) (t 38)) ::
  o 40 (.appendz 34 3 24 [(.int .i64 0), (.int .i64 0), (.int .i64 0)] (t 34) (t 39)) :: o 9 (.mov (t 40)) :: []) [] []) ( .seq ( .region (o 41 (.mov (t 9)) :: o 42 (.mov (t 1)) ::
  o 43 (.slice 3 (t 41) (some (t 42)) none none) :: o 44 (.mov (t 2)) :: o 45 (.copy 3 (t 43) (t 44)) :: []) [] []) ( .seq ( .region (o 46 (.mov (t 9)) :: o 47 (.mov (t 1)) :: o 48 (.mov (t 7)) ::
  o 49 (.bin .add (t 47) (t 48)) :: o 50 (.slice 3 (t 46) (some (t 49)) none none) :: o 51 (.mov (t 0)) :: o 52 (.mov (t 1)) :: o 53 (.slice 3 (t 51) (some (t 52)) none none) :: o 54 (.copy 3 (t 50) (t 53)) :: []) [] []) ( .seq (
  .region (o 55 (.mov (t 9)) :: o 6 (.mov (t 55)) :: []) [] []) ( .ret))))) ( .skip))) ( .seq ( .region (o 56 (.mov (t 0)) :: o 57 (.mov (t 8)) :: o 58 (.mov (t 7)) :: o 59 (.bin .add (t 57) (t 58)) ::
  o 60 (.slice 3 (t 56) none (some (t 59)) none) :: o 0 (.mov (t 60)) :: []) [] []) ( .seq ( .seq ( .region (o 61 (.mov (t 2)) :: o 62 (.mov (t 0)) :: o 63 (.mov (t 1)) :: o 64 (.mov (t 7)) :: o 65 (.bin .add (t 63) (t 64)) ::
  o 66 (.slice 3 (t 62) (some (t 65)) none none) :: o 67 (.call (.func 108) [(t 61), (t 66)]) :: o 68 (.un .not (t 67)) :: []) [] []) ( .cond (t 68) ( .seq ( .region (o 69 (.mov (t 0)) :: o 70 (.mov (t 1)) :: o 71 (.mov (t 7)) ::
  o 72 (.bin .add (t 70) (t 71)) :: o 73 (.slice 3 (t 69) (some (t 72)) none none) :: o 74 (.mov (t 0)) :: o 75 (.mov (t 1)) :: o 76 (.slice 3 (t 74) (some (t 75)) none none) :: o 77 (.copy 3 (t 73) (t 76)) :: []) [] []) ( .seq (
  .region (o 78 (.mov (t 0)) :: o 79 (.mov (t 1)) :: o 80 (.slice 3 (t 78) (some (t 79)) none none) :: o 81 (.mov (t 2)) :: o 82 (.copy 3 (t 80) (t 81)) :: []) [] []) ( .seq ( .region (o 83 (.mov (t 0)) ::
  o 6 (.mov (t 83)) :: []) [] []) ( .ret)))) ( .skip))) ( .seq ( .region (o 84 (.mov (t 0)) :: o 85 (.mov (t 8)) :: o 86 (.slice 3 (t 84) (some (t 85)) none none) :: o 87 (.mov (t 2)) ::
  o 88 (.copy 3 (t 86) (t 87)) :: []) [] []) ( .seq ( .region (o 89 (.mov (t 0)) :: o 90 (.mov (t 1)) :: o 91 (.slice 3 (t 89) (some (t 90)) none none) :: o 92 (.mov (t 7)) ::
  o 93 (.call (.func 109) [(t 91), (t 92)]) :: []) [] []) ( .seq ( .region (o 94 (.mov (t 0)) :: o 6 (.mov (t 94)) :: []) [] []) ( .ret))))))))))))
theorem i_slices_Insert_Account : Fn PP n_slices_Insert_Account c_slices_Insert_Account 95 [.t 6] := ⟨Try.f77, Try.func77, ⟨_, rfl, by kernel_rfl⟩, by kernel_rfl, by kernel_rfl, Try.ntmps77⟩

def c_slices_Clone_Account : CC :=
  .seq ( .region (o 2 (.mov (.const (.slice none 0 0))) :: []) [] []) ( .seq ( .seq ( .region (o 3 (.mov (t 0)) :: o 4 (.nilcmp false (t 3)) :: []) [] []) ( .cond (t 4) ( .seq ( .region
  (o 2 (.mov (.const (.slice none 0 0))) :: []) [] []) ( .ret)) ( .skip))) ( .seq ( .region (o 5 (.bslice 34 3 0 [(.int .i64 0), (.int .i64 0), (.int .i64 0)] []) :: o 6 (.mov (t 0)) :: o 7 (.append 34 3 24 (t 5) (t 6)) ::
  o 2 (.mov (t 7)) :: []) [] []) ( .ret)))
theorem i_slices_Clone_Account : Fn PP n_slices_Clone_Account c_slices_Clone_Account 8 [.t 2] := ⟨Try.f78, Try.func78, ⟨_, rfl, by kernel_rfl⟩, by kernel_rfl, by kernel_rfl, Try.ntmps78⟩

def c_r35_Valid : CC :=
  .seq ( .region (o 2 (.mov (b false)) :: []) [] []) ( .seq ( .region (o 3 (.mov (t 0)) :: o 4 (.bin .geq (t 3) (i 0)) :: o 5 (.mov (t 4)) :: g 6 (.mov (t 0)) 5 true :: g 7 (.bin .leq (t 6) (i 1000000000000)) 5 true ::
  o 8 (.pick (t 5) (t 7) (b false)) :: o 2 (.mov (t 8)) :: []) [] []) ( .ret))
theorem i_r35_Valid : Fn PP n_r35_Valid c_r35_Valid 9 [.t 2] := ⟨Try.f79, Try.func79, ⟨_, rfl, by kernel_rfl⟩, by kernel_rfl, by kernel_rfl, Try.ntmps79⟩

def l_r36_at_0 : CC :=
   .seq ( .region (o 10 (.bin .lss (t 9) (t 8)) :: []) [] []) ( .seq ( .cond (t 10) ( .skip) ( .exit 0)) ( .seq ( .block 1 ( .seq ( .region (o 11 (.mov (t 9)) :: o 12 (.iaddr 3 (t 7) (t 9)) :: o 13 (.load true 3 (t 12)) ::
  o 6 (.alloc 34 [(.int .i64 0), (.int .i64 0), (.int .i64 0)]) :: o 5 (.mov (t 11)) :: s (.store 3 (t 6) (t 13)) :: []) [] []) ( .seq ( .region (o 14 (.faddr 0 (t 6)) :: o 15 (.load false 1 (t 14)) :: o 16 (.mov (t 1)) ::
  o 17 (.bin .eql (t 15) (t 16)) :: []) [] []) ( .cond (t 17) ( .seq ( .region (o 18 (.mov (t 5)) :: o 4 (.mov (t 18)) :: []) [] []) ( .ret)) ( .skip))))) ( .region (o 19 (.bin .add (t 9) (i 1)) ::
  o 9 (.mov (t 19)) :: []) [] [])))
def c_r36_at : CC :=
  .seq ( .region (o 4 (.mov (i 0)) :: []) [] []) ( .seq ( .seq ( .region (o 7 (.mov (t 0)) :: o 8 (.len (t 7)) :: o 9 (.mov (i 0)) :: []) [] []) ( .block 0 ( .loop l_r36_at_0))) ( .seq ( .region
  (o 4 (.mov (i (-1))) :: []) [] []) ( .ret)))
theorem i_r36_at : Fn PP n_r36_at c_r36_at 20 [.t 4] := ⟨Try.f80, Try.func80, ⟨_, rfl, by kernel_rfl⟩, by kernel_rfl, by kernel_rfl, Try.ntmps80⟩

def c_accounts_Give_1 : CC :=
  .seq ( .region (o 3 (.mov (i 0)) :: []) [] []) ( .seq ( .region (o 5 (.mov (t 0)) :: o 6 (.mov (t 0)) :: o 7 (.nilck (t 6)) :: o 8 (.faddr 1 (t 7)) :: o 9 (.load false 1 (t 8)) :: o 10 (.load false 1 (t 1)) ::
  o 11 (.call (.func 82) [(t 9), (t 10)]) :: o 4 (.mov (t 11)) :: o 12 (.ext (t 4) 0) :: o 13 (.ext (t 4) 1) :: o 14 (.nilck (t 5)) :: o 15 (.faddr 1 (t 14)) :: s (.store 1 (t 15) (t 12)) :: o 3 (.mov (t 13)) :: []) [] []) (
  .seq ( .region (o 16 (.mov (t 3)) :: o 3 (.mov (t 16)) :: []) [] []) ( .ret)))
theorem i_accounts_Give_1 : Fn PP n_accounts_Give_1 c_accounts_Give_1 17 [.t 3] := ⟨Try.f81, Try.func81, ⟨_, rfl, by kernel_rfl⟩, by kernel_rfl, by kernel_rfl, Try.ntmps81⟩

def c_amount_Add : CC :=
  .seq ( .region (o 4 (.mov (i 0)) :: o 5 (.mov (i 0)) :: []) [] []) ( .seq ( .region (o 6 (.mov (t 0)) :: o 7 (.mov (t 1)) :: o 8 (.bin .add (t 6) (t 7)) :: o 9 (.mov (t 0)) :: o 10 (.mov (t 1)) ::
  o 11 (.bslice 3 1 2 [(.int .i64 0)] [(0, (t 9)), (1, (t 10))]) :: o 12 (.call (.func 110) [(t 8), (t 11)]) :: o 13 (.ext (t 12) 0) :: o 14 (.ext (t 12) 1) :: o 4 (.mov (t 13)) :: o 5 (.mov (t 14)) :: []) [] []) ( .ret))
theorem i_amount_Add : Fn PP n_amount_Add c_amount_Add 15 [.t 4, .t 5] := ⟨Try.f82, Try.func82, ⟨_, rfl, by kernel_rfl⟩, by kernel_rfl, by kernel_rfl, Try.ntmps82⟩

def c_r36_change : CC :=
  .seq ( .region (o 8 (.mov (.const (.slice none 0 0))) :: o 9 (.mov (i 0)) :: []) [] []) ( .seq ( .seq ( .region (o 12 (.mov (t 0)) :: o 13 (.call (.func 35) [(t 12)]) :: o 14 (.bin .neq (t 13) (i 0)) :: []) [] []) (
  .cond (t 14) ( .seq ( .region (o 8 (.mov (.const (.slice none 0 0))) :: o 9 (.mov (i 74)) :: []) [] []) ( .ret)) ( .skip))) ( .seq ( .region (o 15 (.mov (t 0)) :: o 16 (.mov (t 1)) :: o 17 (.call (.func 80) [(t 15), (t 16)]) ::
  o 10 (.mov (t 17)) :: []) [] []) ( .seq ( .seq ( .region (o 18 (.mov (t 10)) :: o 19 (.bin .lss (t 18) (i 0)) :: []) [] []) ( .cond (t 19) ( .seq ( .region (o 8 (.mov (.const (.slice none 0 0))) ::
  o 9 (.mov (i 67)) :: []) [] []) ( .ret)) ( .skip))) ( .seq ( .seq ( .region (o 20 (.mov (t 2)) :: o 21 (.call (.func 79) [(t 20)]) :: o 22 (.un .not (t 21)) :: o 23 (.mov (t 22)) :: g 24 (.mov (t 3)) 23 false ::
  g 25 (.bin .gtr (t 24) (i 0)) 23 false :: g 26 (.mov (t 25)) 23 false :: g 27 (.mov (t 0)) 26 true :: g 28 (.mov (t 10)) 26 true :: g 29 (.iaddr 3 (t 27) (t 28)) 26 true :: g 30 (.faddr 1 (t 29)) 26 true ::
  g 31 (.load false 1 (t 30)) 26 true :: g 32 (.mov (t 2)) 26 true :: g 33 (.bin .add (t 31) (t 32)) 26 true :: g 34 (.call (.func 79) [(t 33)]) 26 true :: g 35 (.un .not (t 34)) 26 true ::
  g 36 (.pick (t 26) (t 35) (b false)) 23 false :: o 37 (.pick (t 23) (b true) (t 36)) :: []) [] []) ( .cond (t 37) ( .seq ( .region (o 8 (.mov (.const (.slice none 0 0))) :: o 9 (.mov (i 65)) :: []) [] []) ( .ret)) ( .skip))) (
  .seq ( .seq ( .region (o 38 (.mov (t 3)) :: o 39 (.bin .lss (t 38) (i 0)) :: o 40 (.mov (t 39)) :: g 41 (.mov (t 0)) 40 true :: g 42 (.mov (t 10)) 40 true :: g 43 (.iaddr 3 (t 41) (t 42)) 40 true ::
  g 44 (.faddr 1 (t 43)) 40 true :: g 45 (.load false 1 (t 44)) 40 true :: g 46 (.mov (t 2)) 40 true :: g 47 (.bin .lss (t 45) (t 46)) 40 true :: o 48 (.pick (t 40) (t 47) (b false)) :: []) [] []) ( .cond (t 48) ( .seq ( .region
  (o 8 (.mov (.const (.slice none 0 0))) :: o 9 (.mov (i 66)) :: []) [] []) ( .ret)) ( .skip))) ( .seq ( .region (o 49 (.mov (t 0)) :: o 50 (.append 34 3 24 (.const (.slice none 0 0)) (t 49)) :: o 11 (.mov (t 50)) :: []) [] []) (
  .seq ( .region (o 51 (.mov (t 11)) :: o 52 (.mov (t 10)) :: o 53 (.iaddr 3 (t 51) (t 52)) :: o 54 (.faddr 1 (t 53)) :: o 55 (.load false 1 (t 54)) :: o 56 (.mov (t 3)) :: o 57 (.mov (t 2)) :: o 58 (.bin .mul (t 56) (t 57)) ::
  o 59 (.bin .add (t 55) (t 58)) :: o 60 (.iaddr 3 (t 51) (t 52)) :: o 61 (.faddr 1 (t 60)) :: s (.store 1 (t 61) (t 59)) :: []) [] []) ( .seq ( .region (o 62 (.mov (t 11)) :: o 8 (.mov (t 62)) :: o 9 (.mov (i 0)) :: []) [] []) (
  .ret)))))))))
theorem i_r36_change : Fn PP n_r36_change c_r36_change 63 [.t 8, .t 9] := ⟨Try.f83, Try.func83, ⟨_, rfl, by kernel_rfl⟩, by kernel_rfl, by kernel_rfl, Try.ntmps83⟩

def c_accounts_Take_1 : CC :=
  .seq ( .region (o 3 (.mov (i 0)) :: []) [] []) ( .seq ( .block 0 ( .seq ( .region (o 5 (.load false 1 (t 1)) :: o 6 (.call (.func 70) [(t 5)]) :: o 7 (.un .not (t 6)) :: o 4 (.mov (t 7)) :: []) [] []) ( .cond (t 4) ( .seq (
  .region (o 3 (.mov (i 65)) :: []) [] []) ( .ret)) ( .seq ( .region (o 9 (.load false 1 (t 1)) :: o 10 (.mov (t 0)) :: o 11 (.nilck (t 10)) :: o 12 (.faddr 1 (t 11)) :: o 13 (.load false 1 (t 12)) ::
  o 14 (.bin .gtr (t 9) (t 13)) :: o 8 (.mov (t 14)) :: []) [] []) ( .cond (t 8) ( .seq ( .region (o 3 (.mov (i 66)) :: []) [] []) ( .ret)) ( .skip)))))) ( .seq ( .region (o 15 (.mov (t 0)) :: o 16 (.nilck (t 15)) ::
  o 17 (.faddr 1 (t 16)) :: o 18 (.load false 1 (t 17)) :: o 19 (.load false 1 (t 1)) :: o 20 (.bin .sub (t 18) (t 19)) :: o 21 (.nilck (t 15)) :: o 22 (.faddr 1 (t 21)) :: s (.store 1 (t 22) (t 20)) :: []) [] []) ( .seq (
  .region (o 3 (.mov (i 0)) :: []) [] []) ( .ret))))
theorem i_accounts_Take_1 : Fn PP n_accounts_Take_1 c_accounts_Take_1 23 [.t 3] := ⟨Try.f84, Try.func84, ⟨_, rfl, by kernel_rfl⟩, by kernel_rfl, by kernel_rfl, Try.ntmps84⟩

def c_slices_Clone_Line : CC :=
  .seq ( .region (o 2 (.mov (.const (.slice none 0 0))) :: []) [] []) ( .seq ( .seq ( .region (o 3 (.mov (t 0)) :: o 4 (.nilcmp false (t 3)) :: []) [] []) ( .cond (t 4) ( .seq ( .region
  (o 2 (.mov (.const (.slice none 0 0))) :: []) [] []) ( .ret)) ( .skip))) ( .seq ( .region (o 5 (.bslice 46 5 0 [(.int .i64 0), (.string ⟨#[]⟩), (.int .i64 0), (.int .i64 0), (.int .i64 0)] []) :: o 6 (.mov (t 0)) ::
  o 7 (.append 46 5 48 (t 5) (t 6)) :: o 2 (.mov (t 7)) :: []) [] []) ( .ret)))
theorem i_slices_Clone_Line : Fn PP n_slices_Clone_Line c_slices_Clone_Line 8 [.t 2] := ⟨Try.f85, Try.func85, ⟨_, rfl, by kernel_rfl⟩, by kernel_rfl, by kernel_rfl, Try.ntmps85⟩

def l_slices_IndexFunc_Line_0 : CC :=
   .seq ( .region (o 9 (.bin .lss (t 8) (t 7)) :: []) [] []) ( .seq ( .cond (t 9) ( .skip) ( .exit 0)) ( .seq ( .block 1 ( .seq ( .region (o 10 (.mov (t 8)) :: o 5 (.mov (t 10)) :: []) [] []) ( .seq ( .region
  (o 11 (.mov (t 1)) :: o 12 (.mov (t 0)) :: o 13 (.mov (t 5)) :: o 14 (.iaddr 5 (t 12) (t 13)) :: o 15 (.load true 5 (t 14)) :: o 16 (.call (t 11) [(t 15)]) :: []) [] []) ( .cond (t 16) ( .seq ( .region (o 17 (.mov (t 5)) ::
  o 4 (.mov (t 17)) :: []) [] []) ( .ret)) ( .skip))))) ( .region (o 18 (.bin .add (t 8) (i 1)) :: o 8 (.mov (t 18)) :: []) [] [])))
def c_slices_IndexFunc_Line : CC :=
  .seq ( .region (o 4 (.mov (i 0)) :: []) [] []) ( .seq ( .seq ( .region (o 6 (.mov (t 0)) :: o 7 (.len (t 6)) :: o 8 (.mov (i 0)) :: []) [] []) ( .block 0 ( .loop l_slices_IndexFunc_Line_0))) ( .seq ( .region
  (o 4 (.mov (i (-1))) :: []) [] []) ( .ret)))
theorem i_slices_IndexFunc_Line : Fn PP n_slices_IndexFunc_Line c_slices_IndexFunc_Line 19 [.t 4] := ⟨Try.f86, Try.func86, ⟨_, rfl, by kernel_rfl⟩, by kernel_rfl, by kernel_rfl, Try.ntmps86⟩

def c_trustlines_Limit_1 : CC :=
  .seq ( .region (o 2 (.box 46 5 (t 0)) :: o 3 (.mov (b false)) :: []) [] []) ( .seq ( .region (o 4 (.load true 5 (t 2)) :: o 5 (.call (.func 71) [(t 4)]) :: o 6 (.load true 3 (t 1)) :: o 7 (.call (.func 72) [(t 5), (t 6)]) ::
  o 8 (.bin .gtr (t 7) (i 0)) :: o 3 (.mov (t 8)) :: []) [(1, 2)] []) ( .ret))
theorem i_trustlines_Limit_1 : Fn PP n_trustlines_Limit_1 c_trustlines_Limit_1 9 [.t 3] := ⟨Try.f87, Try.func87, ⟨_, rfl, by kernel_rfl⟩, by kernel_rfl, by kernel_rfl, Try.ntmps87⟩

def c_slices_Insert_Line : CC :=
  .seq ( .region (o 6 (.mov (.const (.slice none 0 0))) :: []) [] []) ( .seq ( .region (o 10 (.mov (t 0)) :: o 11 (.mov (t 1)) :: o 12 (.slice 5 (t 10) (some (t 11)) none none) :: []) [] []) ( .seq ( .region (o 13 (.mov (t 2)) ::
  o 14 (.len (t 13)) :: o 7 (.mov (t 14)) :: []) [] []) ( .seq ( .seq ( .region (o 15 (.mov (t 7)) :: o 16 (.bin .eql (t 15) (i 0)) :: []) [] []) ( .cond (t 16) ( .seq ( .region (o 17 (.mov (t 0)) ::
  o 6 (.mov (t 17)) :: []) [] []) ( .ret)) ( .skip))) ( .seq ( .region (o 18 (.mov (t 0)) :: o 19 (.len (t 18)) :: o 8 (.mov (t 19)) :: []) [] []) ( .seq ( .seq ( .region (o 20 (.mov (t 1)) :: o 21 (.mov (t 8)) ::
  o 22 (.bin .eql (t 20) (t 21)) :: []) [] []) ( .cond (t 22) ( .seq ( .region (o 23 (.mov (t 0)) :: o 24 (.mov (t 2)) :: o 25 (.append 46 5 48 (t 23) (t 24)) :: o 6 (.mov (t 25)) :: []) [] []) ( .ret)) ( .skip))) ( .seq ( .seq (
  .region (o 26 (.mov (t 8)) :: o 27 (.mov (t 7)) :: o 28 (.bin .add (t 26) (t 27)) :: o 29 (.mov (t 0)) :: o 30 (.cap (t 29)) :: o 31 (.bin .gtr (t 28) (t 30)) :: []) [] []) ( .cond (t 31) ( .seq ( .region (o 32 (.mov (t 0)) ::
  o 33 (.mov (t 1)) :: o 34 (.slice 5 (t 32) none (some (t 33)) none) :: o 35 (.mov (t 8)) :: o 36 (.mov (t 7)) :: o 37 (.bin .add (t 35) (t 36)) :: o 38 (.mov (t 1)) :: o 39 (.bin .sub (t 37) (t 38)) ::
  o 40 (.appendz 46 5 48 [(.int .i64 0), (.string ⟨#[]⟩), (.int .i64 0), (.int .i64 0), (.int .i64 0)] (t 34) (t 39)) :: o 9 (.mov (t 40)) :: []) [] []) ( .seq ( .region (o 41 (.mov (t 9)) :: o 42 (.mov (t 1)) ::
  o 43 (.slice 5 (t 41) (some (t 42)) none none) :: o 44 (.mov (t 2)) :: o 45 (.copy 5 (t 43) (t 44)) :: []) [] []) ( .seq ( .region (o 46 (.mov (t 9)) :: o 47 (.mov (t 1)) :: o 48 (.mov (t 7)) ::
  o 49 (.bin .add (t 47) (t 48)) :: o 50 (.slice 5 (t 46) (some (t 49)) none none) :: o 51 (.mov (t 0)) :: o 52 (.mov (t 1)) :: o 53 (.slice 5 (t 51) (some (t 52)) none none) :: o 54 (.copy 5 (t 50) (t 53)) :: []) [] []) ( .seq (
  .region (o 55 (.mov (t 9)) :: o 6 (.mov (t 55)) :: []) [] []) ( .ret))))) ( .skip))) ( .seq ( .region (o 56 (.mov (t 0)) :: o 57 (.mov (t 8)) :: o 58 (.mov (t 7)) :: o 59 (.bin .add (t 57) (t 58)) ::
  o 60 (.slice 5 (t 56) none (some (t 59)) none) :: o 0 (.mov (t 60)) :: []) [] []) ( .seq ( .seq ( .region (o 61 (.mov (t 2)) :: o 62 (.mov (t 0)) :: o 63 (.mov (t 1)) :: o 64 (.mov (t 7)) :: o 65 (.bin .add (t 63) (t 64)) ::
  o 66 (.slice 5 (t 62) (some (t 65)) none none) :: o 67 (.call (.func 111) [(t 61), (t 66)]) :: o 68 (.un .not (t 67)) :: []) [] []) ( .cond (t 68) ( .seq ( .region (o 69 (.mov (t 0)) :: o 70 (.mov (t 1)) :: o 71 (.mov (t 7)) ::
  o 72 (.bin .add (t 70) (t 71)) :: o 73 (.slice 5 (t 69) (some (t 72)) none none) :: o 74 (.mov (t 0)) :: o 75 (.mov (t 1)) :: o 76 (.slice 5 (t 74) (some (t 75)) none none) :: o 77 (.copy 5 (t 73) (t 76)) :: []) [] []) ( .seq (
  .region (o 78 (.mov (t 0)) :: o 79 (.mov (t 1)) :: o 80 (.slice 5 (t 78) (some (t 79)) none none) :: o 81 (.mov (t 2)) :: o 82 (.copy 5 (t 80) (t 81)) :: []) [] []) ( .seq ( .region (o 83 (.mov (t 0)) ::
  o 6 (.mov (t 83)) :: []) [] []) ( .ret)))) ( .skip))) ( .seq ( .region (o 84 (.mov (t 0)) :: o 85 (.mov (t 8)) :: o 86 (.slice 5 (t 84) (some (t 85)) none none) :: o 87 (.mov (t 2)) ::
  o 88 (.copy 5 (t 86) (t 87)) :: []) [] []) ( .seq ( .region (o 89 (.mov (t 0)) :: o 90 (.mov (t 1)) :: o 91 (.slice 5 (t 89) (some (t 90)) none none) :: o 92 (.mov (t 7)) ::
  o 93 (.call (.func 112) [(t 91), (t 92)]) :: []) [] []) ( .seq ( .region (o 94 (.mov (t 0)) :: o 6 (.mov (t 94)) :: []) [] []) ( .ret))))))))))))
theorem i_slices_Insert_Line : Fn PP n_slices_Insert_Line c_slices_Insert_Line 95 [.t 6] := ⟨Try.f88, Try.func88, ⟨_, rfl, by kernel_rfl⟩, by kernel_rfl, by kernel_rfl, Try.ntmps88⟩

def c_slices_Delete_Line : CC :=
  .seq ( .region (o 6 (.mov (.const (.slice none 0 0))) :: []) [] []) ( .seq ( .region (o 8 (.mov (t 0)) :: o 9 (.mov (t 1)) :: o 10 (.mov (t 2)) :: o 11 (.mov (t 0)) :: o 12 (.len (t 11)) ::
  o 13 (.slice 5 (t 8) (some (t 9)) (some (t 10)) (some (t 12))) :: []) [] []) ( .seq ( .seq ( .region (o 14 (.mov (t 1)) :: o 15 (.mov (t 2)) :: o 16 (.bin .eql (t 14) (t 15)) :: []) [] []) ( .cond (t 16) ( .seq ( .region
  (o 17 (.mov (t 0)) :: o 6 (.mov (t 17)) :: []) [] []) ( .ret)) ( .skip))) ( .seq ( .region (o 18 (.mov (t 0)) :: o 19 (.len (t 18)) :: o 7 (.mov (t 19)) :: []) [] []) ( .seq ( .region (o 20 (.mov (t 0)) :: o 21 (.mov (t 1)) ::
  o 22 (.slice 5 (t 20) none (some (t 21)) none) :: o 23 (.mov (t 0)) :: o 24 (.mov (t 2)) :: o 25 (.slice 5 (t 23) (some (t 24)) none none) :: o 26 (.append 46 5 48 (t 22) (t 25)) :: o 0 (.mov (t 26)) :: []) [] []) ( .seq (
  .region (o 27 (.mov (t 0)) :: o 28 (.mov (t 0)) :: o 29 (.len (t 28)) :: o 30 (.mov (t 7)) :: o 31 (.slice 5 (t 27) (some (t 29)) (some (t 30)) none) ::
  s (.clear 5 [(.int .i64 0), (.string ⟨#[]⟩), (.int .i64 0), (.int .i64 0), (.int .i64 0)] (t 31)) :: []) [] []) ( .seq ( .region (o 32 (.mov (t 0)) :: o 6 (.mov (t 32)) :: []) [] []) ( .ret)))))))
theorem i_slices_Delete_Line : Fn PP n_slices_Delete_Line c_slices_Delete_Line 33 [.t 6] := ⟨Try.f89, Try.func89, ⟨_, rfl, by kernel_rfl⟩, by kernel_rfl, by kernel_rfl, Try.ntmps89⟩

def l_r35_Asset_0 : CC :=
   .seq ( .seq ( .region (o 26 (.mov (t 3)) :: o 27 (.faddr 0 (t 1)) :: o 28 (.load false 1 (t 27)) :: o 29 (.slen (t 28)) :: o 30 (.bin .lss (t 26) (t 29)) :: []) [] []) ( .cond (t 30) ( .skip) ( .exit 0))) ( .seq ( .block 1 (
  .seq ( .region (o 33 (.faddr 0 (t 1)) :: o 34 (.load false 1 (t 33)) :: o 35 (.mov (t 3)) :: o 36 (.sindex (t 34) (t 35)) :: o 37 (.bin .lss (t 36) (.const (.int .u8 65))) :: o 38 (.mov (t 37)) ::
  g 39 (.faddr 0 (t 1)) 38 false :: g 40 (.load false 1 (t 39)) 38 false :: g 41 (.mov (t 3)) 38 false :: g 42 (.sindex (t 40) (t 41)) 38 false :: g 43 (.bin .gtr (t 42) (.const (.int .u8 90))) 38 false ::
  o 44 (.pick (t 38) (b true) (t 43)) :: []) [] []) ( .cond (t 44) ( .seq ( .region (o 2 (.mov (b false)) :: []) [] []) ( .ret)) ( .skip)))) ( .region (o 31 (.mov (t 3)) :: o 32 (.bin .add (t 31) (i 1)) ::
  o 3 (.mov (t 32)) :: []) [] []))
def c_r35_Asset : CC :=
  .seq ( .region (o 1 (.box 44 2 (t 0)) :: o 2 (.mov (b false)) :: []) [] []) ( .seq ( .seq ( .region (o 4 (.load true 2 (t 1)) :: o 5 (.call (.func 91) [(t 4)]) :: []) [] []) ( .cond (t 5) ( .seq ( .region
  (o 2 (.mov (b true)) :: []) [] []) ( .ret)) ( .skip))) ( .seq ( .seq ( .region (o 6 (.faddr 0 (t 1)) :: o 7 (.load false 1 (t 6)) :: o 8 (.slen (t 7)) :: o 9 (.bin .lss (t 8) (i 1)) :: o 10 (.mov (t 9)) ::
  g 11 (.faddr 0 (t 1)) 10 false :: g 12 (.load false 1 (t 11)) 10 false :: g 13 (.slen (t 12)) 10 false :: g 14 (.bin .gtr (t 13) (i 4)) 10 false :: o 15 (.pick (t 10) (b true) (t 14)) :: o 16 (.mov (t 15)) ::
  g 17 (.faddr 1 (t 1)) 16 false :: g 18 (.load false 1 (t 17)) 16 false :: g 19 (.bin .lss (t 18) (i 1)) 16 false :: o 20 (.pick (t 16) (b true) (t 19)) :: o 21 (.mov (t 20)) :: g 22 (.faddr 1 (t 1)) 21 false ::
  g 23 (.load false 1 (t 22)) 21 false :: g 24 (.bin .gtr (t 23) (i 1000)) 21 false :: o 25 (.pick (t 21) (b true) (t 24)) :: []) [] []) ( .cond (t 25) ( .seq ( .region (o 2 (.mov (b false)) :: []) [] []) ( .ret)) ( .skip))) (
  .seq ( .seq ( .region (o 3 (.mov (i 0)) :: []) [] []) ( .block 0 ( .loop l_r35_Asset_0))) ( .seq ( .region (o 2 (.mov (b true)) :: []) [] []) ( .ret)))))
theorem i_r35_Asset : Fn PP n_r35_Asset c_r35_Asset 45 [.t 2] := ⟨Try.f90, Try.func90, ⟨_, rfl, by kernel_rfl⟩, by kernel_rfl, by kernel_rfl, Try.ntmps90⟩

def c_r35_Native : CC :=
  .seq ( .region (o 1 (.box 44 2 (t 0)) :: o 2 (.mov (b false)) :: []) [] []) ( .seq ( .region (o 3 (.load true 2 (t 1)) :: o 4 (.build [(.string ⟨#[]⟩), (.int .i64 0)] []) ::
  o 5 (.eqs false [(0, true), (1, false)] (t 3) (t 4)) :: o 2 (.mov (t 5)) :: []) [] []) ( .ret))
theorem i_r35_Native : Fn PP n_r35_Native c_r35_Native 6 [.t 2] := ⟨Try.f91, Try.func91, ⟨_, rfl, by kernel_rfl⟩, by kernel_rfl, by kernel_rfl, Try.ntmps91⟩

def c_r37_before : CC :=
  .seq ( .region (o 3 (.box 46 5 (t 0)) :: o 5 (.box 44 2 (t 2)) :: o 6 (.mov (b false)) :: []) [] []) ( .seq ( .region (o 7 (.faddr 0 (t 3)) :: o 8 (.load false 1 (t 7)) :: o 9 (.mov (t 1)) :: o 10 (.bin .lss (t 8) (t 9)) ::
  o 11 (.mov (t 10)) :: g 12 (.faddr 0 (t 3)) 11 false :: g 13 (.load false 1 (t 12)) 11 false :: g 14 (.mov (t 1)) 11 false :: g 15 (.bin .eql (t 13) (t 14)) 11 false :: g 16 (.mov (t 15)) 11 false ::
  g 17 (.faddr 1 (t 3)) 16 true :: g 18 (.load true 2 (t 17)) 16 true :: g 19 (.load true 2 (t 5)) 16 true :: g 20 (.call (.func 113) [(t 18), (t 19)]) 16 true :: g 21 (.pick (t 16) (t 20) (b false)) 11 false ::
  o 22 (.pick (t 11) (b true) (t 21)) :: o 6 (.mov (t 22)) :: []) [] []) ( .ret))
theorem i_r37_before : Fn PP n_r37_before c_r37_before 23 [.t 6] := ⟨Try.f92, Try.func92, ⟨_, rfl, by kernel_rfl⟩, by kernel_rfl, by kernel_rfl, Try.ntmps92⟩

def l_r37_at_0 : CC :=
   .seq ( .region (o 12 (.bin .lss (t 11) (t 10)) :: []) [] []) ( .seq ( .cond (t 12) ( .skip) ( .exit 0)) ( .seq ( .block 1 ( .seq ( .region (o 13 (.mov (t 11)) :: o 14 (.iaddr 5 (t 9) (t 11)) :: o 15 (.load true 5 (t 14)) ::
  o 8 (.alloc 46 [(.int .i64 0), (.string ⟨#[]⟩), (.int .i64 0), (.int .i64 0), (.int .i64 0)]) :: o 7 (.mov (t 13)) :: s (.store 5 (t 8) (t 15)) :: []) [] []) ( .seq ( .region (o 16 (.faddr 0 (t 8)) ::
  o 17 (.load false 1 (t 16)) :: o 18 (.mov (t 1)) :: o 19 (.bin .eql (t 17) (t 18)) :: o 20 (.mov (t 19)) :: g 21 (.faddr 1 (t 8)) 20 true :: g 22 (.load true 2 (t 21)) 20 true :: g 23 (.load true 2 (t 5)) 20 true ::
  g 24 (.eqs false [(0, true), (1, false)] (t 22) (t 23)) 20 true :: o 25 (.pick (t 20) (t 24) (b false)) :: []) [] []) ( .cond (t 25) ( .seq ( .region (o 26 (.mov (t 7)) :: o 6 (.mov (t 26)) :: []) [] []) ( .ret)) ( .skip))))) (
  .region (o 27 (.bin .add (t 11) (i 1)) :: o 11 (.mov (t 27)) :: []) [] [])))
def c_r37_at : CC :=
  .seq ( .region (o 5 (.box 44 2 (t 2)) :: o 6 (.mov (i 0)) :: []) [] []) ( .seq ( .seq ( .region (o 9 (.mov (t 0)) :: o 10 (.len (t 9)) :: o 11 (.mov (i 0)) :: []) [] []) ( .block 0 ( .loop l_r37_at_0))) ( .seq ( .region
  (o 6 (.mov (i (-1))) :: []) [] []) ( .ret)))
theorem i_r37_at : Fn PP n_r37_at c_r37_at 28 [.t 6] := ⟨Try.f93, Try.func93, ⟨_, rfl, by kernel_rfl⟩, by kernel_rfl, by kernel_rfl, Try.ntmps93⟩

def c_r37_right : CC :=
  .seq ( .region (o 1 (.box 30 7 (t 0)) :: o 2 (.mov (b false)) :: []) [] []) ( .seq ( .region (o 3 (.faddr 2 (t 1)) :: o 4 (.load false 1 (t 3)) :: o 5 (.faddr 1 (t 1)) :: o 6 (.load false 1 (t 5)) ::
  o 7 (.call (.func 48) [(t 4), (t 6)]) :: o 8 (.bin .eql (t 7) (i 0)) :: o 2 (.mov (t 8)) :: []) [] []) ( .ret))
theorem i_r37_right : Fn PP n_r37_right c_r37_right 9 [.t 2] := ⟨Try.f94, Try.func94, ⟨_, rfl, by kernel_rfl⟩, by kernel_rfl, by kernel_rfl, Try.ntmps94⟩

def c_r37_first : CC :=
  .seq ( .region (o 4 (.box 30 7 (t 0)) :: o 6 (.box 44 2 (t 2)) :: o 8 (.mov (i 0)) :: []) [] []) ( .seq ( .region (o 12 (.faddr 1 (t 4)) :: o 13 (.load false 1 (t 12)) :: o 14 (.mov (t 1)) ::
  o 15 (.call (.func 37) [(t 13), (t 14)]) :: o 11 (.mov (t 15)) :: o 16 (.ext (t 11) 0) :: o 17 (.ext (t 11) 1) :: o 9 (.alloc 34 [(.int .i64 0), (.int .i64 0), (.int .i64 0)]) :: s (.store 3 (t 9) (t 16)) ::
  o 10 (.mov (t 17)) :: []) [] []) ( .seq ( .block 0 ( .seq ( .region (o 19 (.load true 7 (t 4)) :: o 20 (.call (.func 94) [(t 19)]) :: o 21 (.un .not (t 20)) :: o 18 (.mov (t 21)) :: []) [] []) ( .cond (t 18) ( .seq ( .region
  (o 8 (.mov (i 74)) :: []) [] []) ( .ret)) ( .seq ( .region (o 23 (.load true 2 (t 6)) :: o 24 (.call (.func 90) [(t 23)]) :: o 25 (.un .not (t 24)) :: o 22 (.mov (t 25)) :: []) [] []) ( .cond (t 22) ( .seq ( .region
  (o 8 (.mov (i 71)) :: []) [] []) ( .ret)) ( .seq ( .region (o 27 (.mov (t 10)) :: o 28 (.un .not (t 27)) :: o 26 (.mov (t 28)) :: []) [] []) ( .cond (t 26) ( .seq ( .region (o 8 (.mov (i 67)) :: []) [] []) ( .ret)) ( .seq (
  .region (o 30 (.mov (t 3)) :: o 31 (.call (.func 79) [(t 30)]) :: o 32 (.un .not (t 31)) :: o 29 (.mov (t 32)) :: []) [] []) ( .cond (t 29) ( .seq ( .region (o 8 (.mov (i 65)) :: []) [] []) ( .ret)) ( .skip)))))))))) ( .seq (
  .region (o 8 (.mov (i 0)) :: []) [] []) ( .ret))))
theorem i_r37_first : Fn PP n_r37_first c_r37_first 33 [.t 8] := ⟨Try.f95, Try.func95, ⟨_, rfl, by kernel_rfl⟩, by kernel_rfl, by kernel_rfl, Try.ntmps95⟩

def l_r38_Check_0 : CC :=
   .seq ( .region (o 50 (.bin .lss (t 49) (t 48)) :: []) [] []) ( .seq ( .cond (t 50) ( .skip) ( .exit 0)) ( .seq ( .block 1 ( .seq ( .region (o 51 (.mov (t 49)) :: o 52 (.iaddr 9 (t 47) (t 49)) :: o 53 (.load true 9 (t 52)) ::
  o 5 (.alloc 96 [(.int .i64 0), (.int .i64 0), (.string ⟨#[]⟩), (.int .i64 0), (.string ⟨#[]⟩), (.int .i64 0), (.int .i64 0), (.int .i64 0), (.int .i64 0)]) :: o 4 (.mov (t 51)) :: s (.store 9 (t 5) (t 53)) :: []) [] []) (
  .seq ( .region (o 55 (.faddr 1 (t 1)) :: o 56 (.load false 1 (t 55)) :: o 57 (.faddr 1 (t 5)) :: o 58 (.load false 1 (t 57)) :: o 59 (.call (.func 37) [(t 56), (t 58)]) :: o 54 (.mov (t 59)) :: o 60 (.ext (t 54) 0) ::
  o 61 (.ext (t 54) 1) :: o 6 (.alloc 34 [(.int .i64 0), (.int .i64 0), (.int .i64 0)]) :: s (.store 3 (t 6) (t 60)) :: o 7 (.mov (t 61)) :: []) [] []) ( .seq ( .region (o 63 (.faddr 7 (t 5)) :: o 64 (.load false 1 (t 63)) ::
  o 65 (.faddr 8 (t 5)) :: o 66 (.load false 1 (t 65)) :: o 67 (.call (.func 99) [(t 64), (t 66)]) :: o 62 (.mov (t 67)) :: o 68 (.ext (t 62) 0) :: o 69 (.ext (t 62) 1) :: o 8 (.mov (t 68)) :: o 9 (.mov (t 69)) :: []) [] []) (
  .seq ( .region (o 70 (.mov (t 7)) :: o 71 (.un .not (t 70)) :: o 72 (.mov (t 71)) :: g 73 (.faddr 0 (t 5)) 72 false :: g 74 (.load false 1 (t 73)) 72 false :: g 75 (.bin .lss (t 74) (i 1)) 72 false ::
  o 76 (.pick (t 72) (b true) (t 75)) :: o 77 (.mov (t 76)) :: g 78 (.faddr 0 (t 5)) 77 false :: g 79 (.load false 1 (t 78)) 77 false :: g 80 (.faddr 4 (t 1)) 77 false :: g 81 (.load false 1 (t 80)) 77 false ::
  g 82 (.bin .geq (t 79) (t 81)) 77 false :: o 83 (.pick (t 77) (b true) (t 82)) :: o 84 (.mov (t 83)) :: g 85 (.mov (t 4)) 84 false :: g 86 (.bin .gtr (t 85) (i 0)) 84 false :: g 87 (.mov (t 86)) 84 false ::
  g 88 (.faddr 3 (t 1)) 87 true :: g 89 (.load false 1 (t 88)) 87 true :: g 90 (.mov (t 4)) 87 true :: g 91 (.bin .sub (t 90) (i 1)) 87 true :: g 92 (.iaddr 9 (t 89) (t 91)) 87 true :: g 93 (.faddr 0 (t 92)) 87 true ::
  g 94 (.load false 1 (t 93)) 87 true :: g 95 (.faddr 0 (t 5)) 87 true :: g 96 (.load false 1 (t 95)) 87 true :: g 97 (.bin .geq (t 94) (t 96)) 87 true :: g 98 (.pick (t 87) (t 97) (b false)) 84 false ::
  o 99 (.pick (t 84) (b true) (t 98)) :: o 100 (.mov (t 99)) :: g 101 (.faddr 2 (t 5)) 100 false :: g 102 (.load true 2 (t 101)) 100 false :: g 103 (.call (.func 90) [(t 102)]) 100 false :: g 104 (.un .not (t 103)) 100 false ::
  o 105 (.pick (t 100) (b true) (t 104)) :: o 106 (.mov (t 105)) :: g 107 (.faddr 4 (t 5)) 106 false :: g 108 (.load true 2 (t 107)) 106 false :: g 109 (.call (.func 90) [(t 108)]) 106 false ::
  g 110 (.un .not (t 109)) 106 false :: o 111 (.pick (t 106) (b true) (t 110)) :: o 112 (.mov (t 111)) :: g 113 (.faddr 2 (t 5)) 112 false :: g 114 (.load true 2 (t 113)) 112 false :: g 115 (.faddr 4 (t 5)) 112 false ::
  g 116 (.load true 2 (t 115)) 112 false :: g 117 (.eqs false [(0, true), (1, false)] (t 114) (t 116)) 112 false :: o 118 (.pick (t 112) (b true) (t 117)) :: o 119 (.mov (t 118)) :: g 120 (.faddr 6 (t 5)) 119 false ::
  g 121 (.load false 1 (t 120)) 119 false :: g 122 (.bin .lss (t 121) (i 1)) 119 false :: o 123 (.pick (t 119) (b true) (t 122)) :: o 124 (.mov (t 123)) :: g 125 (.faddr 6 (t 5)) 124 false ::
  g 126 (.load false 1 (t 125)) 124 false :: g 127 (.call (.func 79) [(t 126)]) 124 false :: g 128 (.un .not (t 127)) 124 false :: o 129 (.pick (t 124) (b true) (t 128)) :: o 130 (.mov (t 129)) :: g 131 (.mov (t 8)) 130 false ::
  g 132 (.bin .eql (t 131) (i 0)) 130 false :: o 133 (.pick (t 130) (b true) (t 132)) :: o 134 (.mov (t 133)) :: g 135 (.mov (t 8)) 134 false :: g 136 (.faddr 7 (t 5)) 134 false :: g 137 (.load false 1 (t 136)) 134 false ::
  g 138 (.bin .neq (t 135) (t 137)) 134 false :: o 139 (.pick (t 134) (b true) (t 138)) :: o 140 (.mov (t 139)) :: g 141 (.mov (t 9)) 140 false :: g 142 (.faddr 8 (t 5)) 140 false :: g 143 (.load false 1 (t 142)) 140 false ::
  g 144 (.bin .neq (t 141) (t 143)) 140 false :: o 145 (.pick (t 140) (b true) (t 144)) :: []) [] []) ( .cond (t 145) ( .seq ( .region (o 2 (.mov (i 74)) :: []) [] []) ( .ret)) ( .skip))))))) ( .region
  (o 146 (.bin .add (t 49) (i 1)) :: o 49 (.mov (t 146)) :: []) [] [])))
def c_r38_Check : CC :=
  .seq ( .region (o 1 (.box 30 7 (t 0)) :: o 2 (.mov (i 0)) :: []) [] []) ( .seq ( .seq ( .region (o 10 (.faddr 2 (t 1)) :: o 11 (.load false 1 (t 10)) :: o 12 (.faddr 1 (t 1)) :: o 13 (.load false 1 (t 12)) ::
  o 14 (.call (.func 48) [(t 11), (t 13)]) :: o 3 (.mov (t 14)) :: []) [] []) ( .seq ( .region (o 15 (.mov (t 3)) :: o 16 (.bin .neq (t 15) (i 0)) :: []) [] []) ( .cond (t 16) ( .seq ( .region (o 17 (.mov (t 3)) ::
  o 2 (.mov (t 17)) :: []) [] []) ( .ret)) ( .skip)))) ( .seq ( .seq ( .region (o 18 (.faddr 3 (t 1)) :: o 19 (.load false 1 (t 18)) :: o 20 (.len (t 19)) :: o 21 (.bin .gtr (t 20) (i 40)) :: []) [] []) ( .cond (t 21) ( .seq (
  .region (o 2 (.mov (i 3)) :: []) [] []) ( .ret)) ( .skip))) ( .seq ( .seq ( .region (o 22 (.faddr 4 (t 1)) :: o 23 (.load false 1 (t 22)) :: o 24 (.bin .lss (t 23) (i 1)) :: o 25 (.mov (t 24)) ::
  g 26 (.faddr 4 (t 1)) 25 false :: g 27 (.load false 1 (t 26)) 25 false :: g 28 (.bin .gtr (t 27) (i 1000000)) 25 false :: o 29 (.pick (t 25) (b true) (t 28)) :: o 30 (.mov (t 29)) :: g 31 (.faddr 5 (t 1)) 30 false ::
  g 32 (.load false 1 (t 31)) 30 false :: g 33 (.call (.func 79) [(t 32)]) 30 false :: g 34 (.un .not (t 33)) 30 false :: o 35 (.pick (t 30) (b true) (t 34)) :: o 36 (.mov (t 35)) :: g 37 (.faddr 0 (t 1)) 36 false ::
  g 38 (.load false 1 (t 37)) 36 false :: g 39 (.bin .lss (t 38) (i 0)) 36 false :: o 40 (.pick (t 36) (b true) (t 39)) :: o 41 (.mov (t 40)) :: g 42 (.faddr 0 (t 1)) 41 false :: g 43 (.load false 1 (t 42)) 41 false ::
  g 44 (.bin .gtr (t 43) (i 1000000)) 41 false :: o 45 (.pick (t 41) (b true) (t 44)) :: []) [] []) ( .cond (t 45) ( .seq ( .region (o 2 (.mov (i 74)) :: []) [] []) ( .ret)) ( .skip))) ( .seq ( .seq ( .region
  (o 46 (.faddr 3 (t 1)) :: o 47 (.load false 1 (t 46)) :: o 48 (.len (t 47)) :: o 49 (.mov (i 0)) :: []) [] []) ( .block 0 ( .loop l_r38_Check_0))) ( .seq ( .region (o 2 (.mov (i 0)) :: []) [] []) ( .ret))))))
theorem i_r38_Check : Fn PP n_r38_Check c_r38_Check 147 [.t 2] := ⟨Try.f96, Try.func96, ⟨_, rfl, by kernel_rfl⟩, by kernel_rfl, by kernel_rfl, Try.ntmps96⟩

def c_r35_Price : CC :=
  .seq ( .region (o 4 (.mov (b false)) :: []) [] []) ( .seq ( .region (o 5 (.mov (t 0)) :: o 6 (.bin .geq (t 5) (i 1)) :: o 7 (.mov (t 6)) :: g 8 (.mov (t 0)) 7 true :: g 9 (.bin .leq (t 8) (i 1000000)) 7 true ::
  o 10 (.pick (t 7) (t 9) (b false)) :: o 11 (.mov (t 10)) :: g 12 (.mov (t 1)) 11 true :: g 13 (.bin .geq (t 12) (i 1)) 11 true :: o 14 (.pick (t 11) (t 13) (b false)) :: o 15 (.mov (t 14)) :: g 16 (.mov (t 1)) 15 true ::
  g 17 (.bin .leq (t 16) (i 1000000)) 15 true :: o 18 (.pick (t 15) (t 17) (b false)) :: o 4 (.mov (t 18)) :: []) [] []) ( .ret))
theorem i_r35_Price : Fn PP n_r35_Price c_r35_Price 19 [.t 4] := ⟨Try.f97, Try.func97, ⟨_, rfl, by kernel_rfl⟩, by kernel_rfl, by kernel_rfl, Try.ntmps97⟩

def c_r38_holds : CC :=
  .seq ( .region (o 3 (.box 30 7 (t 0)) :: o 5 (.box 44 2 (t 2)) :: o 6 (.mov (b false)) :: []) [] []) ( .seq ( .region (o 10 (.faddr 2 (t 3)) :: o 11 (.load false 1 (t 10)) :: o 12 (.mov (t 1)) :: o 13 (.load true 2 (t 5)) ::
  o 14 (.call (.func 51) [(t 11), (t 12), (t 13)]) :: o 9 (.mov (t 14)) :: o 15 (.ext (t 9) 0) :: o 16 (.ext (t 9) 1) :: o 7 (.alloc 46 [(.int .i64 0), (.string ⟨#[]⟩), (.int .i64 0), (.int .i64 0), (.int .i64 0)]) ::
  s (.store 5 (t 7) (t 15)) :: o 8 (.mov (t 16)) :: []) [] []) ( .seq ( .region (o 17 (.load true 2 (t 5)) :: o 18 (.call (.func 91) [(t 17)]) :: o 19 (.mov (t 18)) :: g 20 (.faddr 1 (t 5)) 19 false ::
  g 21 (.load false 1 (t 20)) 19 false :: g 22 (.mov (t 1)) 19 false :: g 23 (.bin .eql (t 21) (t 22)) 19 false :: o 24 (.pick (t 19) (b true) (t 23)) :: o 25 (.mov (t 24)) :: g 26 (.mov (t 8)) 25 false ::
  o 27 (.pick (t 25) (b true) (t 26)) :: o 6 (.mov (t 27)) :: []) [] []) ( .ret)))
theorem i_r38_holds : Fn PP n_r38_holds c_r38_holds 28 [.t 6] := ⟨Try.f98, Try.func98, ⟨_, rfl, by kernel_rfl⟩, by kernel_rfl, by kernel_rfl, Try.ntmps98⟩

def l_r35_Reduce_0 : CC :=
   .seq ( .seq ( .region (o 14 (.mov (t 7)) :: o 15 (.bin .neq (t 14) (i 0)) :: []) [] []) ( .cond (t 15) ( .skip) ( .exit 0))) ( .block 1 ( .region (o 16 (.mov (t 7)) :: o 17 (.mov (t 6)) :: o 18 (.mov (t 7)) ::
  o 19 (.bin .rem (t 17) (t 18)) :: o 6 (.mov (t 16)) :: o 7 (.mov (t 19)) :: []) [] []))
def c_r35_Reduce : CC :=
  .seq ( .region (o 4 (.mov (i 0)) :: o 5 (.mov (i 0)) :: []) [] []) ( .seq ( .seq ( .region (o 8 (.mov (t 0)) :: o 9 (.mov (t 1)) :: o 10 (.call (.func 97) [(t 8), (t 9)]) :: o 11 (.un .not (t 10)) :: []) [] []) ( .cond (t 11) (
  .seq ( .region (o 4 (.mov (i 0)) :: o 5 (.mov (i 0)) :: []) [] []) ( .ret)) ( .skip))) ( .seq ( .region (o 12 (.mov (t 0)) :: o 13 (.mov (t 1)) :: o 6 (.mov (t 12)) :: o 7 (.mov (t 13)) :: []) [] []) ( .seq ( .block 0 (
  .loop l_r35_Reduce_0)) ( .seq ( .region (o 20 (.mov (t 0)) :: o 21 (.mov (t 6)) :: o 22 (.bin .quo (t 20) (t 21)) :: o 23 (.mov (t 1)) :: o 24 (.mov (t 6)) :: o 25 (.bin .quo (t 23) (t 24)) :: o 4 (.mov (t 22)) ::
  o 5 (.mov (t 25)) :: []) [] []) ( .ret)))))
theorem i_r35_Reduce : Fn PP n_r35_Reduce c_r35_Reduce 26 [.t 4, .t 5] := ⟨Try.f99, Try.func99, ⟨_, rfl, by kernel_rfl⟩, by kernel_rfl, by kernel_rfl, Try.ntmps99⟩

def l_slices_IndexFunc_Account_0 : CC :=
   .seq ( .region (o 9 (.bin .lss (t 8) (t 7)) :: []) [] []) ( .seq ( .cond (t 9) ( .skip) ( .exit 0)) ( .seq ( .block 1 ( .seq ( .region (o 10 (.mov (t 8)) :: o 5 (.mov (t 10)) :: []) [] []) ( .seq ( .region
  (o 11 (.mov (t 1)) :: o 12 (.mov (t 0)) :: o 13 (.mov (t 5)) :: o 14 (.iaddr 3 (t 12) (t 13)) :: o 15 (.load true 3 (t 14)) :: o 16 (.call (t 11) [(t 15)]) :: []) [] []) ( .cond (t 16) ( .seq ( .region (o 17 (.mov (t 5)) ::
  o 4 (.mov (t 17)) :: []) [] []) ( .ret)) ( .skip))))) ( .region (o 18 (.bin .add (t 8) (i 1)) :: o 8 (.mov (t 18)) :: []) [] [])))
def c_slices_IndexFunc_Account : CC :=
  .seq ( .region (o 4 (.mov (i 0)) :: []) [] []) ( .seq ( .seq ( .region (o 6 (.mov (t 0)) :: o 7 (.len (t 6)) :: o 8 (.mov (i 0)) :: []) [] []) ( .block 0 ( .loop l_slices_IndexFunc_Account_0))) ( .seq ( .region
  (o 4 (.mov (i (-1))) :: []) [] []) ( .ret)))
theorem i_slices_IndexFunc_Account : Fn PP n_slices_IndexFunc_Account c_slices_IndexFunc_Account 19 [.t 4] := ⟨Try.f100, Try.func100, ⟨_, rfl, by kernel_rfl⟩, by kernel_rfl, by kernel_rfl, Try.ntmps100⟩

def c_accounts_place_1 : CC :=
  .seq ( .region (o 2 (.box 34 3 (t 0)) :: o 3 (.mov (b false)) :: []) [] []) ( .seq ( .region (o 4 (.faddr 0 (t 2)) :: o 5 (.load false 1 (t 4)) :: o 6 (.load false 1 (t 1)) :: o 7 (.bin .eql (t 5) (t 6)) ::
  o 3 (.mov (t 7)) :: []) [] []) ( .ret))
theorem i_accounts_place_1 : Fn PP n_accounts_place_1 c_accounts_place_1 8 [.t 3] := ⟨Try.f101, Try.func101, ⟨_, rfl, by kernel_rfl⟩, by kernel_rfl, by kernel_rfl, Try.ntmps101⟩

def c_trustlines_copied : CC :=
  .seq ( .region (o 1 (.box 30 7 (t 0)) :: o 2 (.alloc 30 [(.int .i64 0), (.slice none 0 0), (.slice none 0 0), (.slice none 0 0), (.int .i64 0), (.int .i64 0), (.int .u64 0)]) :: []) [] []) ( .seq ( .region
  (o 3 (.faddr 1 (t 1)) :: o 4 (.load false 1 (t 3)) :: o 5 (.call (.func 78) [(t 4)]) :: o 6 (.faddr 2 (t 1)) :: o 7 (.load false 1 (t 6)) :: o 8 (.call (.func 85) [(t 7)]) :: o 9 (.faddr 3 (t 1)) ::
  o 10 (.load false 1 (t 9)) :: o 11 (.call (.func 114) [(t 10)]) :: o 12 (.faddr 1 (t 1)) :: s (.store 1 (t 12) (t 5)) :: o 13 (.faddr 2 (t 1)) :: s (.store 1 (t 13) (t 8)) :: o 14 (.faddr 3 (t 1)) ::
  s (.store 1 (t 14) (t 11)) :: []) [(2, 4), (2, 7), (5, 7)] []) ( .seq ( .region (o 15 (.load true 7 (t 1)) :: s (.store 7 (t 2) (t 15)) :: []) [] []) ( .ret)))
theorem i_trustlines_copied : Fn PP n_trustlines_copied c_trustlines_copied 16 [.c 2 true 7] := ⟨Try.f102, Try.func102, ⟨_, rfl, by kernel_rfl⟩, by kernel_rfl, by kernel_rfl, Try.ntmps102⟩

def c_trustlines_add_1 : CC :=
  .seq ( .region (o 2 (.box 34 3 (t 0)) :: o 3 (.mov (b false)) :: []) [] []) ( .seq ( .region (o 4 (.faddr 0 (t 2)) :: o 5 (.load false 1 (t 4)) :: o 6 (.load false 1 (t 1)) :: o 7 (.bin .eql (t 5) (t 6)) ::
  o 3 (.mov (t 7)) :: []) [] []) ( .ret))
theorem i_trustlines_add_1 : Fn PP n_trustlines_add_1 c_trustlines_add_1 8 [.t 3] := ⟨Try.f103, Try.func103, ⟨_, rfl, by kernel_rfl⟩, by kernel_rfl, by kernel_rfl, Try.ntmps103⟩

def c_trustlines_place_1 : CC :=
  .seq ( .region (o 3 (.box 46 5 (t 0)) :: o 4 (.mov (b false)) :: []) [] []) ( .seq ( .region (o 5 (.load true 5 (t 3)) :: o 6 (.call (.func 71) [(t 5)]) :: o 7 (.load false 1 (t 1)) :: o 8 (.load true 2 (t 2)) ::
  o 9 (.build [(.int .i64 0), (.string ⟨#[]⟩), (.int .i64 0)] [(0, 1, (t 7)), (1, 2, (t 8))]) :: o 10 (.eqs false [(0, false), (1, true), (2, false)] (t 6) (t 9)) :: o 4 (.mov (t 10)) :: []) [(1, 2), (1, 3)] []) ( .ret))
theorem i_trustlines_place_1 : Fn PP n_trustlines_place_1 c_trustlines_place_1 11 [.t 4] := ⟨Try.f104, Try.func104, ⟨_, rfl, by kernel_rfl⟩, by kernel_rfl, by kernel_rfl, Try.ntmps104⟩

def l_cmp_Or_int_0 : CC :=
   .seq ( .region (o 9 (.bin .lss (t 8) (t 7)) :: []) [] []) ( .seq ( .cond (t 9) ( .skip) ( .exit 0)) ( .seq ( .block 1 ( .seq ( .region (o 10 (.iaddr 1 (t 6) (t 8)) :: o 11 (.load false 1 (t 10)) ::
  o 5 (.mov (t 11)) :: []) [] []) ( .seq ( .region (o 12 (.mov (t 5)) :: o 13 (.mov (t 3)) :: o 14 (.bin .neq (t 12) (t 13)) :: []) [] []) ( .cond (t 14) ( .seq ( .region (o 15 (.mov (t 5)) :: o 2 (.mov (t 15)) :: []) [] []) (
  .ret)) ( .skip))))) ( .region (o 16 (.bin .add (t 8) (i 1)) :: o 8 (.mov (t 16)) :: []) [] [])))
def c_cmp_Or_int : CC :=
  .seq ( .region (o 2 (.mov (i 0)) :: []) [] []) ( .seq ( .region (o 3 (.mov (i 0)) :: []) [] []) ( .seq ( .seq ( .region (o 6 (.mov (t 0)) :: o 7 (.len (t 6)) :: o 8 (.mov (i 0)) :: []) [] []) ( .block 0 (
  .loop l_cmp_Or_int_0))) ( .seq ( .region (o 17 (.mov (t 3)) :: o 2 (.mov (t 17)) :: []) [] []) ( .ret))))
theorem i_cmp_Or_int : Fn PP n_cmp_Or_int c_cmp_Or_int 18 [.t 2] := ⟨Try.f105, Try.func105, ⟨_, rfl, by kernel_rfl⟩, by kernel_rfl, by kernel_rfl, Try.ntmps105⟩

def c_cmp_Compare_int : CC :=
  .seq ( .region (o 4 (.mov (i 0)) :: []) [] []) ( .seq ( .region (o 7 (.mov (t 0)) :: o 8 (.call (.func 115) [(t 7)]) :: o 5 (.mov (t 8)) :: []) [] []) ( .seq ( .region (o 9 (.mov (t 1)) :: o 10 (.call (.func 115) [(t 9)]) ::
  o 6 (.mov (t 10)) :: []) [] []) ( .seq ( .seq ( .region (o 11 (.mov (t 5)) :: []) [] []) ( .cond (t 11) ( .seq ( .seq ( .region (o 12 (.mov (t 6)) :: []) [] []) ( .cond (t 12) ( .seq ( .region (o 4 (.mov (i 0)) :: []) [] []) (
  .ret)) ( .skip))) ( .seq ( .region (o 4 (.mov (i (-1))) :: []) [] []) ( .ret))) ( .skip))) ( .seq ( .seq ( .region (o 13 (.mov (t 6)) :: []) [] []) ( .cond (t 13) ( .seq ( .region (o 4 (.mov (i 1)) :: []) [] []) ( .ret)) (
  .skip))) ( .seq ( .seq ( .region (o 14 (.mov (t 0)) :: o 15 (.mov (t 1)) :: o 16 (.bin .lss (t 14) (t 15)) :: []) [] []) ( .cond (t 16) ( .seq ( .region (o 4 (.mov (i (-1))) :: []) [] []) ( .ret)) ( .skip))) ( .seq ( .seq (
  .region (o 17 (.mov (t 0)) :: o 18 (.mov (t 1)) :: o 19 (.bin .gtr (t 17) (t 18)) :: []) [] []) ( .cond (t 19) ( .seq ( .region (o 4 (.mov (i 1)) :: []) [] []) ( .ret)) ( .skip))) ( .seq ( .region
  (o 4 (.mov (i 0)) :: []) [] []) ( .ret))))))))
theorem i_cmp_Compare_int : Fn PP n_cmp_Compare_int c_cmp_Compare_int 20 [.t 4] := ⟨Try.f106, Try.func106, ⟨_, rfl, by kernel_rfl⟩, by kernel_rfl, by kernel_rfl, Try.ntmps106⟩

def c_amount_Order : CC :=
  .seq ( .region (o 2 (.box 44 2 (t 0)) :: o 3 (.box 44 2 (t 1)) :: o 4 (.mov (i 0)) :: []) [] []) ( .seq ( .region (o 5 (.faddr 0 (t 2)) :: o 6 (.load false 1 (t 5)) :: o 7 (.faddr 0 (t 3)) :: o 8 (.load false 1 (t 7)) ::
  o 9 (.call (.func 116) [(t 6), (t 8)]) :: o 10 (.faddr 1 (t 2)) :: o 11 (.load false 1 (t 10)) :: o 12 (.faddr 1 (t 3)) :: o 13 (.load false 1 (t 12)) :: o 14 (.call (.func 106) [(t 11), (t 13)]) ::
  o 15 (.bslice 3 1 2 [(.int .i64 0)] [(0, (t 9)), (1, (t 14))]) :: o 16 (.call (.func 105) [(t 15)]) :: o 4 (.mov (t 16)) :: []) [(4, 6), (4, 8)] []) ( .ret))
theorem i_amount_Order : Fn PP n_amount_Order c_amount_Order 17 [.t 4] := ⟨Try.f107, Try.func107, ⟨_, rfl, by kernel_rfl⟩, by kernel_rfl, by kernel_rfl, Try.ntmps107⟩

def c_slices_rotateRight_Account : CC :=
  .region (o 4 (.mov (t 0)) :: o 5 (.mov (t 0)) :: o 6 (.len (t 5)) :: o 7 (.mov (t 1)) :: o 8 (.bin .sub (t 6) (t 7)) :: o 9 (.call (.func 117) [(t 4), (t 8)]) :: []) [] []
theorem i_slices_rotateRight_Account : Fn PP n_slices_rotateRight_Account c_slices_rotateRight_Account 10 [] := ⟨Try.f109, Try.func109, ⟨_, rfl, by kernel_rfl⟩, by kernel_rfl, by kernel_rfl, Try.ntmps109⟩

def l_amount_checked_0 : CC :=
   .seq ( .region (o 14 (.bin .lss (t 13) (t 12)) :: []) [] []) ( .seq ( .cond (t 14) ( .skip) ( .exit 0)) ( .seq ( .block 1 ( .seq ( .region (o 15 (.iaddr 1 (t 11) (t 13)) :: o 16 (.load false 1 (t 15)) ::
  o 7 (.mov (t 16)) :: []) [] []) ( .seq ( .region (o 17 (.mov (t 7)) :: o 18 (.call (.func 70) [(t 17)]) :: o 19 (.un .not (t 18)) :: []) [] []) ( .cond (t 19) ( .seq ( .region (o 4 (.mov (i 0)) ::
  o 5 (.mov (i 65)) :: []) [] []) ( .ret)) ( .skip))))) ( .region (o 20 (.bin .add (t 13) (i 1)) :: o 13 (.mov (t 20)) :: []) [] [])))
def c_amount_checked : CC :=
  .seq ( .region (o 4 (.mov (i 0)) :: o 5 (.mov (i 0)) :: []) [] []) ( .seq ( .seq ( .region (o 8 (.mov (t 1)) :: o 9 (.mov (t 0)) :: o 10 (.bslice 3 1 1 [(.int .i64 0)] [(0, (t 9))]) :: o 11 (.append 3 1 8 (t 8) (t 10)) ::
  o 12 (.len (t 11)) :: o 13 (.mov (i 0)) :: []) [] []) ( .block 0 ( .loop l_amount_checked_0))) ( .seq ( .region (o 21 (.mov (t 0)) :: o 4 (.mov (t 21)) :: o 5 (.mov (i 0)) :: []) [] []) ( .ret)))
theorem i_amount_checked : Fn PP n_amount_checked c_amount_checked 22 [.t 4, .t 5] := ⟨Try.f110, Try.func110, ⟨_, rfl, by kernel_rfl⟩, by kernel_rfl, by kernel_rfl, Try.ntmps110⟩

def c_slices_rotateRight_Line : CC :=
  .region (o 4 (.mov (t 0)) :: o 5 (.mov (t 0)) :: o 6 (.len (t 5)) :: o 7 (.mov (t 1)) :: o 8 (.bin .sub (t 6) (t 7)) :: o 9 (.call (.func 118) [(t 4), (t 8)]) :: []) [] []
theorem i_slices_rotateRight_Line : Fn PP n_slices_rotateRight_Line c_slices_rotateRight_Line 10 [] := ⟨Try.f112, Try.func112, ⟨_, rfl, by kernel_rfl⟩, by kernel_rfl, by kernel_rfl, Try.ntmps112⟩

def c_r35_Less : CC :=
  .seq ( .region (o 2 (.box 44 2 (t 0)) :: o 3 (.box 44 2 (t 1)) :: o 4 (.mov (b false)) :: []) [] []) ( .seq ( .region (o 5 (.faddr 0 (t 2)) :: o 6 (.load false 1 (t 5)) :: o 7 (.faddr 0 (t 3)) :: o 8 (.load false 1 (t 7)) ::
  o 9 (.bin .lss (t 6) (t 8)) :: o 10 (.mov (t 9)) :: g 11 (.faddr 0 (t 2)) 10 false :: g 12 (.load false 1 (t 11)) 10 false :: g 13 (.faddr 0 (t 3)) 10 false :: g 14 (.load false 1 (t 13)) 10 false ::
  g 15 (.bin .eql (t 12) (t 14)) 10 false :: g 16 (.mov (t 15)) 10 false :: g 17 (.faddr 1 (t 2)) 16 true :: g 18 (.load false 1 (t 17)) 16 true :: g 19 (.faddr 1 (t 3)) 16 true :: g 20 (.load false 1 (t 19)) 16 true ::
  g 21 (.bin .lss (t 18) (t 20)) 16 true :: g 22 (.pick (t 16) (t 21) (b false)) 10 false :: o 23 (.pick (t 10) (b true) (t 22)) :: o 4 (.mov (t 23)) :: []) [] []) ( .ret))
theorem i_r35_Less : Fn PP n_r35_Less c_r35_Less 24 [.t 4] := ⟨Try.f113, Try.func113, ⟨_, rfl, by kernel_rfl⟩, by kernel_rfl, by kernel_rfl, Try.ntmps113⟩

def c_slices_Clone_Offer : CC :=
  .seq ( .region (o 2 (.mov (.const (.slice none 0 0))) :: []) [] []) ( .seq ( .seq ( .region (o 3 (.mov (t 0)) :: o 4 (.nilcmp false (t 3)) :: []) [] []) ( .cond (t 4) ( .seq ( .region
  (o 2 (.mov (.const (.slice none 0 0))) :: []) [] []) ( .ret)) ( .skip))) ( .seq ( .region
  (o 5 (.bslice 96 9 0 [(.int .i64 0), (.int .i64 0), (.string ⟨#[]⟩), (.int .i64 0), (.string ⟨#[]⟩), (.int .i64 0), (.int .i64 0), (.int .i64 0), (.int .i64 0)] []) :: o 6 (.mov (t 0)) :: o 7 (.append 96 9 88 (t 5) (t 6)) ::
  o 2 (.mov (t 7)) :: []) [] []) ( .ret)))
theorem i_slices_Clone_Offer : Fn PP n_slices_Clone_Offer c_slices_Clone_Offer 8 [.t 2] := ⟨Try.f114, Try.func114, ⟨_, rfl, by kernel_rfl⟩, by kernel_rfl, by kernel_rfl, Try.ntmps114⟩

def c_cmp_isNaN_int : CC :=
  .seq ( .region (o 2 (.mov (b false)) :: []) [] []) ( .seq ( .region (o 3 (.mov (t 0)) :: o 4 (.mov (t 0)) :: o 5 (.bin .neq (t 3) (t 4)) :: o 2 (.mov (t 5)) :: []) [] []) ( .ret))
theorem i_cmp_isNaN_int : Fn PP n_cmp_isNaN_int c_cmp_isNaN_int 6 [.t 2] := ⟨Try.f115, Try.func115, ⟨_, rfl, by kernel_rfl⟩, by kernel_rfl, by kernel_rfl, Try.ntmps115⟩

def c_cmp_Compare_string : CC :=
  .seq ( .region (o 4 (.mov (i 0)) :: []) [] []) ( .seq ( .region (o 7 (.mov (t 0)) :: o 8 (.call (.func 119) [(t 7)]) :: o 5 (.mov (t 8)) :: []) [] []) ( .seq ( .region (o 9 (.mov (t 1)) :: o 10 (.call (.func 119) [(t 9)]) ::
  o 6 (.mov (t 10)) :: []) [] []) ( .seq ( .seq ( .region (o 11 (.mov (t 5)) :: []) [] []) ( .cond (t 11) ( .seq ( .seq ( .region (o 12 (.mov (t 6)) :: []) [] []) ( .cond (t 12) ( .seq ( .region (o 4 (.mov (i 0)) :: []) [] []) (
  .ret)) ( .skip))) ( .seq ( .region (o 4 (.mov (i (-1))) :: []) [] []) ( .ret))) ( .skip))) ( .seq ( .seq ( .region (o 13 (.mov (t 6)) :: []) [] []) ( .cond (t 13) ( .seq ( .region (o 4 (.mov (i 1)) :: []) [] []) ( .ret)) (
  .skip))) ( .seq ( .seq ( .region (o 14 (.mov (t 0)) :: o 15 (.mov (t 1)) :: o 16 (.bin .lss (t 14) (t 15)) :: []) [] []) ( .cond (t 16) ( .seq ( .region (o 4 (.mov (i (-1))) :: []) [] []) ( .ret)) ( .skip))) ( .seq ( .seq (
  .region (o 17 (.mov (t 0)) :: o 18 (.mov (t 1)) :: o 19 (.bin .gtr (t 17) (t 18)) :: []) [] []) ( .cond (t 19) ( .seq ( .region (o 4 (.mov (i 1)) :: []) [] []) ( .ret)) ( .skip))) ( .seq ( .region
  (o 4 (.mov (i 0)) :: []) [] []) ( .ret))))))))
theorem i_cmp_Compare_string : Fn PP n_cmp_Compare_string c_cmp_Compare_string 20 [.t 4] := ⟨Try.f116, Try.func116, ⟨_, rfl, by kernel_rfl⟩, by kernel_rfl, by kernel_rfl, Try.ntmps116⟩

def c_slices_rotateLeft_Account : CC :=
  .seq ( .region (o 4 (.mov (t 0)) :: o 5 (.mov (t 1)) :: o 6 (.slice 3 (t 4) none (some (t 5)) none) :: o 7 (.call (.func 120) [(t 6)]) :: []) [] []) ( .seq ( .region (o 8 (.mov (t 0)) :: o 9 (.mov (t 1)) ::
  o 10 (.slice 3 (t 8) (some (t 9)) none none) :: o 11 (.call (.func 120) [(t 10)]) :: []) [] []) ( .region (o 12 (.mov (t 0)) :: o 13 (.call (.func 120) [(t 12)]) :: []) [] []))
theorem i_slices_rotateLeft_Account : Fn PP n_slices_rotateLeft_Account c_slices_rotateLeft_Account 14 [] := ⟨Try.f117, Try.func117, ⟨_, rfl, by kernel_rfl⟩, by kernel_rfl, by kernel_rfl, Try.ntmps117⟩

def c_slices_rotateLeft_Line : CC :=
  .seq ( .region (o 4 (.mov (t 0)) :: o 5 (.mov (t 1)) :: o 6 (.slice 5 (t 4) none (some (t 5)) none) :: o 7 (.call (.func 121) [(t 6)]) :: []) [] []) ( .seq ( .region (o 8 (.mov (t 0)) :: o 9 (.mov (t 1)) ::
  o 10 (.slice 5 (t 8) (some (t 9)) none none) :: o 11 (.call (.func 121) [(t 10)]) :: []) [] []) ( .region (o 12 (.mov (t 0)) :: o 13 (.call (.func 121) [(t 12)]) :: []) [] []))
theorem i_slices_rotateLeft_Line : Fn PP n_slices_rotateLeft_Line c_slices_rotateLeft_Line 14 [] := ⟨Try.f118, Try.func118, ⟨_, rfl, by kernel_rfl⟩, by kernel_rfl, by kernel_rfl, Try.ntmps118⟩

def c_cmp_isNaN_string : CC :=
  .seq ( .region (o 2 (.mov (b false)) :: []) [] []) ( .seq ( .region (o 3 (.mov (t 0)) :: o 4 (.mov (t 0)) :: o 5 (.bin .neq (t 3) (t 4)) :: o 2 (.mov (t 5)) :: []) [] []) ( .ret))
theorem i_cmp_isNaN_string : Fn PP n_cmp_isNaN_string c_cmp_isNaN_string 6 [.t 2] := ⟨Try.f119, Try.func119, ⟨_, rfl, by kernel_rfl⟩, by kernel_rfl, by kernel_rfl, Try.ntmps119⟩

def l_slices_Reverse_Account_0 : CC :=
   .seq ( .seq ( .region (o 7 (.mov (t 2)) :: o 8 (.mov (t 3)) :: o 9 (.bin .lss (t 7) (t 8)) :: []) [] []) ( .cond (t 9) ( .skip) ( .exit 0))) ( .seq ( .block 1 ( .region (o 14 (.mov (t 0)) :: o 15 (.mov (t 2)) ::
  o 16 (.mov (t 0)) :: o 17 (.mov (t 3)) :: o 18 (.mov (t 0)) :: o 19 (.mov (t 3)) :: o 20 (.iaddr 3 (t 18) (t 19)) :: o 21 (.load true 3 (t 20)) :: o 22 (.mov (t 0)) :: o 23 (.mov (t 2)) :: o 24 (.iaddr 3 (t 22) (t 23)) ::
  o 25 (.load true 3 (t 24)) :: o 26 (.iaddr 3 (t 14) (t 15)) :: s (.store 3 (t 26) (t 21)) :: o 27 (.iaddr 3 (t 16) (t 17)) :: s (.store 3 (t 27) (t 25)) :: []) [] [])) ( .region (o 10 (.mov (t 2)) ::
  o 11 (.bin .add (t 10) (i 1)) :: o 12 (.mov (t 3)) :: o 13 (.bin .sub (t 12) (i 1)) :: o 2 (.mov (t 11)) :: o 3 (.mov (t 13)) :: []) [] []))
def c_slices_Reverse_Account : CC :=
  .seq ( .region (o 4 (.mov (t 0)) :: o 5 (.len (t 4)) :: o 6 (.bin .sub (t 5) (i 1)) :: o 2 (.mov (i 0)) :: o 3 (.mov (t 6)) :: []) [] []) ( .block 0 ( .loop l_slices_Reverse_Account_0))
theorem i_slices_Reverse_Account : Fn PP n_slices_Reverse_Account c_slices_Reverse_Account 28 [] := ⟨Try.f120, Try.func120, ⟨_, rfl, by kernel_rfl⟩, by kernel_rfl, by kernel_rfl, Try.ntmps120⟩

def l_slices_Reverse_Line_0 : CC :=
   .seq ( .seq ( .region (o 7 (.mov (t 2)) :: o 8 (.mov (t 3)) :: o 9 (.bin .lss (t 7) (t 8)) :: []) [] []) ( .cond (t 9) ( .skip) ( .exit 0))) ( .seq ( .block 1 ( .region (o 14 (.mov (t 0)) :: o 15 (.mov (t 2)) ::
  o 16 (.mov (t 0)) :: o 17 (.mov (t 3)) :: o 18 (.mov (t 0)) :: o 19 (.mov (t 3)) :: o 20 (.iaddr 5 (t 18) (t 19)) :: o 21 (.load true 5 (t 20)) :: o 22 (.mov (t 0)) :: o 23 (.mov (t 2)) :: o 24 (.iaddr 5 (t 22) (t 23)) ::
  o 25 (.load true 5 (t 24)) :: o 26 (.iaddr 5 (t 14) (t 15)) :: s (.store 5 (t 26) (t 21)) :: o 27 (.iaddr 5 (t 16) (t 17)) :: s (.store 5 (t 27) (t 25)) :: []) [] [])) ( .region (o 10 (.mov (t 2)) ::
  o 11 (.bin .add (t 10) (i 1)) :: o 12 (.mov (t 3)) :: o 13 (.bin .sub (t 12) (i 1)) :: o 2 (.mov (t 11)) :: o 3 (.mov (t 13)) :: []) [] []))
def c_slices_Reverse_Line : CC :=
  .seq ( .region (o 4 (.mov (t 0)) :: o 5 (.len (t 4)) :: o 6 (.bin .sub (t 5) (i 1)) :: o 2 (.mov (i 0)) :: o 3 (.mov (t 6)) :: []) [] []) ( .block 0 ( .loop l_slices_Reverse_Line_0))
theorem i_slices_Reverse_Line : Fn PP n_slices_Reverse_Line c_slices_Reverse_Line 28 [] := ⟨Try.f121, Try.func121, ⟨_, rfl, by kernel_rfl⟩, by kernel_rfl, by kernel_rfl, Try.ntmps121⟩

end Go.Proofs.Ytneoeegpceompaa.AM
