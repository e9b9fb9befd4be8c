/-
The numbers of the program's functions and types: printed by codes.py.
-/
import Derived.Test.YtneoeegpceompaaMB
import Derived.Test.YtneoeegpceompaaProg
set_option linter.unusedVariables false
set_option linter.unusedSimpArgs false
namespace Go.Proofs.Ytneoeegpceompaa.AM
open Go Go.Proofs
noncomputable abbrev PP : Program := Try.prog
abbrev n_gosem_cut_init : Nat := 2
abbrev n_law36_AccountsBegin : Nat := 3
abbrev n_law37_TrustlinesRoom : Nat := 4
abbrev n_law37_TrustlinesKeep : Nat := 5
abbrev n_law37_TrustlinesMove : Nat := 6
abbrev n_law36_AccountsOrder : Nat := 7
abbrev n_law36_AccountsExact : Nat := 8
abbrev n_law36_AccountsKeep : Nat := 9
abbrev n_law37_TrustlinesLimits : Nat := 10
abbrev n_law37_TrustlinesExact : Nat := 11
abbrev n_mk_New : Nat := 12
abbrev n_Src_Ledger : Nat := 13
abbrev n_Src_Range : Nat := 14
abbrev n_accounts_Find : Nat := 15
abbrev n_accounts_Begin : Nat := 16
abbrev n_law36_sane : Nat := 17
abbrev n_accounts_Total : Nat := 18
abbrev n_trustlines_Held : Nat := 19
abbrev n_trustlines_Room : Nat := 20
abbrev n_mk_Usd : Nat := 21
abbrev n_law37_sane : Nat := 22
abbrev n_Src_Asset : Nat := 23
abbrev n_trustlines_Credit : Nat := 24
abbrev n_trustlines_Find : Nat := 25
abbrev n_trustlines_Debit : Nat := 26
abbrev n_r37_Ledgers : Nat := 27
abbrev n_trustlines_Check : Nat := 28
abbrev n_trustlines_Issued : Nat := 29
abbrev n_mk_Eur : Nat := 30
abbrev n_Src_N : Nat := 31
abbrev n_accounts_Create : Nat := 32
abbrev n_Src_Odd : Nat := 33
abbrev n_accounts_Check : Nat := 34
abbrev n_r36_Check : Nat := 35
abbrev n_r36_Total : Nat := 36
abbrev n_r36_Find : Nat := 37
abbrev n_r36_Create : Nat := 38
abbrev n_r36_Same : Nat := 39
abbrev n_accounts_Give : Nat := 40
abbrev n_r36_Give : Nat := 41
abbrev n_accounts_Take : Nat := 42
abbrev n_r36_Take : Nat := 43
abbrev n_r36_Begin : Nat := 44
abbrev n_trustlines_Limit : Nat := 45
abbrev n_mk_Small : Nat := 46
abbrev n_Src_BentLedger : Nat := 47
abbrev n_r37_Check : Nat := 48
abbrev n_Src_OddAsset : Nat := 49
abbrev n_r37_Issued : Nat := 50
abbrev n_r37_Find : Nat := 51
abbrev n_r37_Held : Nat := 52
abbrev n_r37_Room : Nat := 53
abbrev n_r37_Limit : Nat := 54
abbrev n_r37_Same : Nat := 55
abbrev n_r37_Credit : Nat := 56
abbrev n_r37_Debit : Nat := 57
abbrev n_Src_Pick : Nat := 58
abbrev n_r38_Add : Nat := 59
abbrev n_accounts_place : Nat := 60
abbrev n_accounts_change : Nat := 61
abbrev n_accounts_Begin_1 : Nat := 62
abbrev n_trustlines_right : Nat := 63
abbrev n_trustlines_look : Nat := 64
abbrev n_trustlines_check : Nat := 65
abbrev n_amount_Native : Nat := 66
abbrev n_trustlines_add : Nat := 67
abbrev n_trustlines_place : Nat := 68
abbrev n_amount_Asset : Nat := 69
abbrev n_amount_Valid : Nat := 70
abbrev n_trustlines_of : Nat := 71
abbrev n_key_compare : Nat := 72
abbrev n_accounts_right : Nat := 73
abbrev n_accounts_id : Nat := 74
abbrev n_slices_BinarySearchFunc_Account : Nat := 75
abbrev n_accounts_Create_1 : Nat := 76
abbrev n_slices_Insert_Account : Nat := 77
abbrev n_slices_Clone_Account : Nat := 78
abbrev n_r35_Valid : Nat := 79
abbrev n_r36_at : Nat := 80
abbrev n_accounts_Give_1 : Nat := 81
abbrev n_amount_Add : Nat := 82
abbrev n_r36_change : Nat := 83
abbrev n_accounts_Take_1 : Nat := 84
abbrev n_slices_Clone_Line : Nat := 85
abbrev n_slices_IndexFunc_Line : Nat := 86
abbrev n_trustlines_Limit_1 : Nat := 87
abbrev n_slices_Insert_Line : Nat := 88
abbrev n_slices_Delete_Line : Nat := 89
abbrev n_r35_Asset : Nat := 90
abbrev n_r35_Native : Nat := 91
abbrev n_r37_before : Nat := 92
abbrev n_r37_at : Nat := 93
abbrev n_r37_right : Nat := 94
abbrev n_r37_first : Nat := 95
abbrev n_r38_Check : Nat := 96
abbrev n_r35_Price : Nat := 97
abbrev n_r38_holds : Nat := 98
abbrev n_r35_Reduce : Nat := 99
abbrev n_slices_IndexFunc_Account : Nat := 100
abbrev n_accounts_place_1 : Nat := 101
abbrev n_trustlines_copied : Nat := 102
abbrev n_trustlines_add_1 : Nat := 103
abbrev n_trustlines_place_1 : Nat := 104
abbrev n_cmp_Or_int : Nat := 105
abbrev n_cmp_Compare_int : Nat := 106
abbrev n_amount_Order : Nat := 107
abbrev n_slices_rotateRight_Account : Nat := 109
abbrev n_amount_checked : Nat := 110
abbrev n_slices_rotateRight_Line : Nat := 112
abbrev n_r35_Less : Nat := 113
abbrev n_slices_Clone_Offer : Nat := 114
abbrev n_cmp_isNaN_int : Nat := 115
abbrev n_cmp_Compare_string : Nat := 116
abbrev n_slices_rotateLeft_Account : Nat := 117
abbrev n_slices_rotateLeft_Line : Nat := 118
abbrev n_cmp_isNaN_string : Nat := 119
abbrev n_slices_Reverse_Account : Nat := 120
abbrev n_slices_Reverse_Line : Nat := 121
abbrev n_slices_overlaps_Account : Nat := 108
theorem x_slices_overlaps_Account : PP.funcs[n_slices_overlaps_Account]? = some Try.f108 := Try.func108
abbrev n_slices_overlaps_Line : Nat := 111
theorem x_slices_overlaps_Line : PP.funcs[n_slices_overlaps_Line]? = some Try.f111 := Try.func111
abbrev t_int : Nat := 3
abbrev t_bool : Nat := 4
abbrev t_SAccount : Nat := 25
abbrev t_SLine : Nat := 26
abbrev t_SOffer : Nat := 27
abbrev t_Ledger : Nat := 30
abbrev t_Account : Nat := 34
abbrev t_Errno : Nat := 37
abbrev t_Asset : Nat := 44
abbrev t_Line : Nat := 46
abbrev t_SAsset : Nat := 59
abbrev t_Src : Nat := 78
abbrev t_stand : Nat := 88
abbrev t_Offer : Nat := 96
abbrev t_key : Nat := 99

namespace K
abbrev t (n : Nat) : Operand := .tmp n
abbrev i (n : Int) : Operand := .const (.int .i64 n)
abbrev b (x : Bool) : Operand := .const (.bool x)
abbrev o (d : Nat) (x : CO) : COper := ⟨some d, x, none⟩
abbrev g (d : Nat) (x : CO) (c : Nat) (w : Bool) : COper := ⟨some d, x, some (c, w)⟩
abbrev s (x : CO) : COper := ⟨none, x, none⟩
abbrev h (x : CO) (c : Nat) (w : Bool) : COper := ⟨none, x, some (c, w)⟩
end K
end Go.Proofs.Ytneoeegpceompaa.AM
