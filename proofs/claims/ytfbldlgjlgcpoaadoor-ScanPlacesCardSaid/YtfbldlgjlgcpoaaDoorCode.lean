/-
  The functions of the program as the abstract machine reads them, and that they are just that.
  Conditions: none.
-/
import Derived.Test.YtfbldlgjlgcpoaaDoorEx6
import Derived.Test.YtfbldlgjlgcpoaaDoorAb
import Derived.Test.YtfbldlgjlgcpoaaDoorProg
import Derived.KernelRfl
namespace Go.Proofs.YtfbldlgjlgcpoaaDoor.AM
open Go.RowKit
def n_belatedlaw4_ScanTokens : FuncId := 3
def n_belatedlaw4_ScanBack : FuncId := 4
def n_belatedlaw4_ScanPlaces : FuncId := 5
def n_belatedlaw4_able : FuncId := 6
def n_scan_Tokens : FuncId := 7
def n_belatedref4_Tokens : FuncId := 8
def n_belatedlaw4_tokens : FuncId := 9
def n_scan_New : FuncId := 10
def n_scan_Cursor_Left : FuncId := 11
def n_strings_HasPrefix : FuncId := 12
def n_strings_Index : FuncId := 13
def n_scan_digit : FuncId := 14
def n_scan_row : FuncId := 15
def n_scan_Tokens_1 : FuncId := 16
def n_scan_letter : FuncId := 17
def n_scan_number : FuncId := 18
def n_scan_Tokens_2 : FuncId := 19
def n_strings_IndexByte : FuncId := 20
def n_belatedref4_blank : FuncId := 21
def n_belatedref4_digit : FuncId := 22
def n_belatedref4_run : FuncId := 23
def n_belatedref4_Value : FuncId := 24
def n_belatedref4_letter : FuncId := 25
def n_belatedref4_mark : FuncId := 26
def n_slices_Clone_api_Token_api_Token : FuncId := 27
def n_internal_stringslite_HasPrefix : FuncId := 28
def n_internal_stringslite_Index : FuncId := 29
def n_strings_CutPrefix : FuncId := 30
def n_strings_Contains : FuncId := 31
def n_strconv_ParseUint : FuncId := 32
def n_internal_stringslite_IndexByte : FuncId := 33
def n_belatedref4_hex : FuncId := 34
def n_internal_bytealg_Cutover : FuncId := 36
def n_internal_bytealg_IndexRabinKarp_string : FuncId := 37
def n_internal_stringslite_CutPrefix : FuncId := 38
def n_internal_strconv_ParseUint : FuncId := 39
def n_strconv_toError : FuncId := 40
def n_internal_bytealg_hashStr_string : FuncId := 42
def n_internal_strconv_lower : FuncId := 43
def n_internal_strconv_underscoreOK : FuncId := 44
def n_strconv_syntaxError : FuncId := 45
def n_strconv_baseError : FuncId := 47
def n_strconv_bitSizeError : FuncId := 48
def n_internal_stringslite_Clone : FuncId := 49
def n_errors_New : FuncId := 50
def n_strconv_Itoa : FuncId := 51
def n_internal_strconv_Itoa : FuncId := 52
def n_internal_strconv_FormatInt : FuncId := 53
def n_internal_strconv_small : FuncId := 54
def n_internal_strconv_formatBase10 : FuncId := 56
def n_internal_strconv_log10Pow2 : FuncId := 58
def n_math_bits_Len64 : FuncId := 59
def n_internal_strconv_bool2_int : FuncId := 60
def n_internal_strconv_isPowerOfTwo : FuncId := 61
def n_math_bits_TrailingZeros : FuncId := 62
def n_math_bits_TrailingZeros32 : FuncId := 63
def n_math_bits_TrailingZeros64 : FuncId := 64
def g_internal_bytealg_MaxLen : Nat := 0
def g_strconv_ErrSyntax : Nat := 1
def s_200_10500 : ByteArray := ⟨#[48, 48, 48, 49, 48, 50, 48, 51, 48, 52, 48, 53, 48, 54, 48, 55, 48, 56, 48, 57, 49, 48, 49, 49, 49, 50, 49, 51, 49, 52, 49, 53, 49, 54, 49, 55, 49, 56, 49, 57, 50, 48, 50, 49, 50, 50, 50, 51, 50, 52, 50, 53, 50, 54, 50, 55, 50, 56, 50, 57, 51, 48, 51, 49, 51, 50, 51, 51, 51, 52, 51, 53, 51, 54, 51, 55, 51, 56, 51, 57, 52, 48, 52, 49, 52, 50, 52, 51, 52, 52, 52, 53, 52, 54, 52, 55, 52, 56, 52, 57, 53, 48, 53, 49, 53, 50, 53, 51, 53, 52, 53, 53, 53, 54, 53, 55, 53, 56, 53, 57, 54, 48, 54, 49, 54, 50, 54, 51, 54, 52, 54, 53, 54, 54, 54, 55, 54, 56, 54, 57, 55, 48, 55, 49, 55, 50, 55, 51, 55, 52, 55, 53, 55, 54, 55, 55, 55, 56, 55, 57, 56, 48, 56, 49, 56, 50, 56, 51, 56, 52, 56, 53, 56, 54, 56, 55, 56, 56, 56, 57, 57, 48, 57, 49, 57, 50, 57, 51, 57, 52, 57, 53, 57, 54, 57, 55, 57, 56, 57, 57]⟩
def s_256_1793 : ByteArray := ⟨#[0, 1, 2, 2, 3, 3, 3, 3, 4, 4, 4, 4, 4, 4, 4, 4, 5, 5, 5, 5, 5, 5, 5, 5, 5, 5, 5, 5, 5, 5, 5, 5, 6, 6, 6, 6, 6, 6, 6, 6, 6, 6, 6, 6, 6, 6, 6, 6, 6, 6, 6, 6, 6, 6, 6, 6, 6, 6, 6, 6, 6, 6, 6, 6, 7, 7, 7, 7, 7, 7, 7, 7, 7, 7, 7, 7, 7, 7, 7, 7, 7, 7, 7, 7, 7, 7, 7, 7, 7, 7, 7, 7, 7, 7, 7, 7, 7, 7, 7, 7, 7, 7, 7, 7, 7, 7, 7, 7, 7, 7, 7, 7, 7, 7, 7, 7, 7, 7, 7, 7, 7, 7, 7, 7, 7, 7, 7, 7, 8, 8, 8, 8, 8, 8, 8, 8, 8, 8, 8, 8, 8, 8, 8, 8, 8, 8, 8, 8, 8, 8, 8, 8, 8, 8, 8, 8, 8, 8, 8, 8, 8, 8, 8, 8, 8, 8, 8, 8, 8, 8, 8, 8, 8, 8, 8, 8, 8, 8, 8, 8, 8, 8, 8, 8, 8, 8, 8, 8, 8, 8, 8, 8, 8, 8, 8, 8, 8, 8, 8, 8, 8, 8, 8, 8, 8, 8, 8, 8, 8, 8, 8, 8, 8, 8, 8, 8, 8, 8, 8, 8, 8, 8, 8, 8, 8, 8, 8, 8, 8, 8, 8, 8, 8, 8, 8, 8, 8, 8, 8, 8, 8, 8, 8, 8, 8, 8, 8, 8, 8, 8, 8, 8, 8, 8, 8, 8]⟩
def c_belatedlaw4_ScanTokens : AFunc := ⟨39, [.tmp 2],
 (.seq (.ops [⟨(some 2), .mv (.const (.bool false)), none⟩])
 (.seq (.seq (.ops [⟨(some 9), .call n_belatedlaw4_able [], none⟩,
   ⟨(some 10), .un .not (.tmp 9), none⟩])
 (.cond (.tmp 10) (.seq (.ops [⟨(some 2), .mv (.const (.bool false)), none⟩])
 .ret) .skip))
 (.seq (.seq (.ops [⟨(some 11), .mv (.tmp 0), none⟩,
   ⟨(some 12), .lenStr (.tmp 11), none⟩,
   ⟨(some 13), .bin .gtr (.tmp 12) (.const (.int .i64 20000)), none⟩])
 (.cond (.tmp 13) (.seq (.ops [⟨(some 2), .mv (.const (.bool true)), none⟩])
 .ret) .skip))
 (.seq (.ops [⟨(some 15), .mv (.tmp 0), none⟩,
   ⟨(some 16), .call n_scan_Tokens [(.tmp 15)], none⟩,
   ⟨(some 14), .mv (.tmp 16), none⟩,
   ⟨(some 17), .extract (.tmp 14) 0, none⟩,
   ⟨(some 18), .extract (.tmp 14) 1, none⟩,
   ⟨(some 19), .extract (.tmp 14) 2, none⟩,
   ⟨(some 3), .mv (.tmp 17), none⟩,
   ⟨(some 4), .mv (.tmp 18), none⟩,
   ⟨(some 5), .mv (.tmp 19), none⟩])
 (.seq (.ops [⟨(some 21), .mv (.tmp 0), none⟩,
   ⟨(some 22), .call n_belatedref4_Tokens [(.tmp 21)], none⟩,
   ⟨(some 20), .mv (.tmp 22), none⟩,
   ⟨(some 23), .extract (.tmp 20) 0, none⟩,
   ⟨(some 24), .extract (.tmp 20) 1, none⟩,
   ⟨(some 25), .extract (.tmp 20) 2, none⟩,
   ⟨(some 6), .mv (.tmp 23), none⟩,
   ⟨(some 7), .mv (.tmp 24), none⟩,
   ⟨(some 8), .mv (.tmp 25), none⟩])
 (.seq (.ops [⟨(some 26), .mv (.tmp 3), none⟩,
   ⟨(some 27), .mv (.tmp 6), none⟩,
   ⟨(some 28), .call n_belatedlaw4_tokens [(.tmp 26), (.tmp 27)], none⟩,
   ⟨(some 29), .mv (.tmp 28), none⟩,
   ⟨(some 30), .mv (.tmp 4), (some (29, true))⟩,
   ⟨(some 31), .mv (.tmp 7), (some (29, true))⟩,
   ⟨(some 32), .bin .eql (.tmp 30) (.tmp 31), (some (29, true))⟩,
   ⟨(some 33), .pick (.tmp 29) (.tmp 32) (.const (.bool false)), none⟩,
   ⟨(some 34), .mv (.tmp 33), none⟩,
   ⟨(some 35), .mv (.tmp 5), (some (34, true))⟩,
   ⟨(some 36), .mv (.tmp 8), (some (34, true))⟩,
   ⟨(some 37), .bin .eql (.tmp 35) (.tmp 36), (some (34, true))⟩,
   ⟨(some 38), .pick (.tmp 34) (.tmp 37) (.const (.bool false)), none⟩,
   ⟨(some 2), .mv (.tmp 38), none⟩])
 .ret))))))⟩
def c_belatedlaw4_ScanBack : AFunc := ⟨100, [.tmp 2],
 (.seq (.ops [⟨(some 2), .mv (.const (.bool false)), none⟩])
 (.seq (.seq (.ops [⟨(some 12), .call n_belatedlaw4_able [], none⟩,
   ⟨(some 13), .un .not (.tmp 12), none⟩])
 (.cond (.tmp 13) (.seq (.ops [⟨(some 2), .mv (.const (.bool false)), none⟩])
 .ret) .skip))
 (.seq (.seq (.ops [⟨(some 14), .mv (.tmp 0), none⟩,
   ⟨(some 15), .lenStr (.tmp 14), none⟩,
   ⟨(some 16), .bin .gtr (.tmp 15) (.const (.int .i64 4000)), none⟩])
 (.cond (.tmp 16) (.seq (.ops [⟨(some 2), .mv (.const (.bool true)), none⟩])
 .ret) .skip))
 (.seq (.ops [⟨(some 18), .mv (.tmp 0), none⟩,
   ⟨(some 19), .call n_scan_Tokens [(.tmp 18)], none⟩,
   ⟨(some 17), .mv (.tmp 19), none⟩,
   ⟨(some 20), .extract (.tmp 17) 0, none⟩,
   ⟨(some 21), .extract (.tmp 17) 1, none⟩,
   ⟨(some 22), .extract (.tmp 17) 2, none⟩,
   ⟨(some 3), .mv (.tmp 20), none⟩,
   ⟨(some 4), .mv (.tmp 21), none⟩,
   ⟨(some 5), .mv (.tmp 22), none⟩])
 (.seq (.seq (.ops [⟨(some 23), .mv (.tmp 4), none⟩,
   ⟨(some 24), .bin .neq (.tmp 23) (.const (.int .i64 0)), none⟩])
 (.cond (.tmp 24) (.seq (.ops [⟨(some 25), .mv (.tmp 3), none⟩,
   ⟨(some 26), .len (.tmp 25), none⟩,
   ⟨(some 27), .bin .eql (.tmp 26) (.const (.int .i64 0)), none⟩,
   ⟨(some 2), .mv (.tmp 27), none⟩])
 .ret) .skip))
 (.seq (.ops [⟨(some 6), .mv (.const (.string ⟨#[]⟩)), none⟩])
 (.seq (.seq (.ops [⟨(some 7), .mv (.const (.int .i64 0)), none⟩])
 (.block 0 (.loop (.seq (.seq (.ops [⟨(some 28), .mv (.tmp 7), none⟩,
     ⟨(some 29), .mv (.tmp 3), none⟩,
     ⟨(some 30), .len (.tmp 29), none⟩,
     ⟨(some 31), .bin .lss (.tmp 28) (.tmp 30), none⟩])
   (.cond (.tmp 31) .skip (.exit 0)))
   (.seq (.block 1 (.ops [⟨(some 34), .mv (.tmp 6), none⟩,
      ⟨(some 35), .bin .add (.tmp 34) (.const (.string ⟨#[32]⟩)), none⟩,
      ⟨(some 36), .mv (.tmp 3), none⟩,
      ⟨(some 37), .mv (.tmp 7), none⟩,
      ⟨(some 38), .atRow 4 (.tmp 36) (.tmp 37), none⟩,
      ⟨(some 39), .off 1 (.tmp 38), none⟩,
      ⟨(some 40), .load1 (.tmp 39), none⟩,
      ⟨(some 41), .bin .add (.tmp 35) (.tmp 40), none⟩,
      ⟨(some 6), .mv (.tmp 41), none⟩]))
   (.ops [⟨(some 32), .mv (.tmp 7), none⟩,
     ⟨(some 33), .bin .add (.tmp 32) (.const (.int .i64 1)), none⟩,
     ⟨(some 7), .mv (.tmp 33), none⟩]))))))
 (.seq (.ops [⟨(some 43), .mv (.tmp 6), none⟩,
   ⟨(some 44), .call n_scan_Tokens [(.tmp 43)], none⟩,
   ⟨(some 42), .mv (.tmp 44), none⟩,
   ⟨(some 45), .extract (.tmp 42) 0, none⟩,
   ⟨(some 46), .extract (.tmp 42) 1, none⟩,
   ⟨(some 47), .extract (.tmp 42) 2, none⟩,
   ⟨(some 8), .mv (.tmp 45), none⟩,
   ⟨(some 9), .mv (.tmp 46), none⟩,
   ⟨(some 10), .mv (.tmp 47), none⟩])
 (.seq (.seq (.ops [⟨(some 48), .mv (.tmp 9), none⟩,
   ⟨(some 49), .bin .neq (.tmp 48) (.const (.int .i64 0)), none⟩,
   ⟨(some 50), .mv (.tmp 49), none⟩,
   ⟨(some 51), .mv (.tmp 8), (some (50, false))⟩,
   ⟨(some 52), .len (.tmp 51), (some (50, false))⟩,
   ⟨(some 53), .mv (.tmp 3), (some (50, false))⟩,
   ⟨(some 54), .len (.tmp 53), (some (50, false))⟩,
   ⟨(some 55), .bin .neq (.tmp 52) (.tmp 54), (some (50, false))⟩,
   ⟨(some 56), .pick (.tmp 50) (.const (.bool true)) (.tmp 55), none⟩])
 (.cond (.tmp 56) (.seq (.ops [⟨(some 2), .mv (.const (.bool false)), none⟩])
 .ret) .skip))
 (.seq (.seq (.ops [⟨(some 11), .mv (.const (.int .i64 0)), none⟩])
 (.block 2 (.loop (.seq (.seq (.ops [⟨(some 57), .mv (.tmp 11), none⟩,
     ⟨(some 58), .mv (.tmp 3), none⟩,
     ⟨(some 59), .len (.tmp 58), none⟩,
     ⟨(some 60), .bin .lss (.tmp 57) (.tmp 59), none⟩])
   (.cond (.tmp 60) .skip (.exit 2)))
   (.seq (.block 3 (.seq (.ops [⟨(some 63), .mv (.tmp 8), none⟩,
      ⟨(some 64), .mv (.tmp 11), none⟩,
      ⟨(some 65), .atRow 4 (.tmp 63) (.tmp 64), none⟩,
      ⟨(some 66), .off 0 (.tmp 65), none⟩,
      ⟨(some 67), .load1 (.tmp 66), none⟩,
      ⟨(some 68), .mv (.tmp 3), none⟩,
      ⟨(some 69), .mv (.tmp 11), none⟩,
      ⟨(some 70), .atRow 4 (.tmp 68) (.tmp 69), none⟩,
      ⟨(some 71), .off 0 (.tmp 70), none⟩,
      ⟨(some 72), .load1 (.tmp 71), none⟩,
      ⟨(some 73), .bin .neq (.tmp 67) (.tmp 72), none⟩,
      ⟨(some 74), .mv (.tmp 73), none⟩,
      ⟨(some 75), .mv (.tmp 8), (some (74, false))⟩,
      ⟨(some 76), .mv (.tmp 11), (some (74, false))⟩,
      ⟨(some 77), .atRow 4 (.tmp 75) (.tmp 76), (some (74, false))⟩,
      ⟨(some 78), .off 1 (.tmp 77), (some (74, false))⟩,
      ⟨(some 79), .load1 (.tmp 78), (some (74, false))⟩,
      ⟨(some 80), .mv (.tmp 3), (some (74, false))⟩,
      ⟨(some 81), .mv (.tmp 11), (some (74, false))⟩,
      ⟨(some 82), .atRow 4 (.tmp 80) (.tmp 81), (some (74, false))⟩,
      ⟨(some 83), .off 1 (.tmp 82), (some (74, false))⟩,
      ⟨(some 84), .load1 (.tmp 83), (some (74, false))⟩,
      ⟨(some 85), .bin .neq (.tmp 79) (.tmp 84), (some (74, false))⟩,
      ⟨(some 86), .pick (.tmp 74) (.const (.bool true)) (.tmp 85), none⟩,
      ⟨(some 87), .mv (.tmp 86), none⟩,
      ⟨(some 88), .mv (.tmp 8), (some (87, false))⟩,
      ⟨(some 89), .mv (.tmp 11), (some (87, false))⟩,
      ⟨(some 90), .atRow 4 (.tmp 88) (.tmp 89), (some (87, false))⟩,
      ⟨(some 91), .off 2 (.tmp 90), (some (87, false))⟩,
      ⟨(some 92), .load1 (.tmp 91), (some (87, false))⟩,
      ⟨(some 93), .mv (.tmp 3), (some (87, false))⟩,
      ⟨(some 94), .mv (.tmp 11), (some (87, false))⟩,
      ⟨(some 95), .atRow 4 (.tmp 93) (.tmp 94), (some (87, false))⟩,
      ⟨(some 96), .off 2 (.tmp 95), (some (87, false))⟩,
      ⟨(some 97), .load1 (.tmp 96), (some (87, false))⟩,
      ⟨(some 98), .bin .neq (.tmp 92) (.tmp 97), (some (87, false))⟩,
      ⟨(some 99), .pick (.tmp 87) (.const (.bool true)) (.tmp 98), none⟩])
    (.cond (.tmp 99) (.seq (.ops [⟨(some 2), .mv (.const (.bool false)), none⟩])
    .ret) .skip)))
   (.ops [⟨(some 61), .mv (.tmp 11), none⟩,
     ⟨(some 62), .bin .add (.tmp 61) (.const (.int .i64 1)), none⟩,
     ⟨(some 11), .mv (.tmp 62), none⟩]))))))
 (.seq (.ops [⟨(some 2), .mv (.const (.bool true)), none⟩])
 .ret)))))))))))⟩
def c_belatedlaw4_ScanPlaces : AFunc := ⟨127, [.tmp 2],
 (.seq (.ops [⟨(some 2), .mv (.const (.bool false)), none⟩])
 (.seq (.seq (.ops [⟨(some 15), .call n_belatedlaw4_able [], none⟩,
   ⟨(some 16), .un .not (.tmp 15), none⟩])
 (.cond (.tmp 16) (.seq (.ops [⟨(some 2), .mv (.const (.bool false)), none⟩])
 .ret) .skip))
 (.seq (.seq (.ops [⟨(some 17), .mv (.tmp 0), none⟩,
   ⟨(some 18), .lenStr (.tmp 17), none⟩,
   ⟨(some 19), .bin .gtr (.tmp 18) (.const (.int .i64 8192)), none⟩])
 (.cond (.tmp 19) (.seq (.ops [⟨(some 21), .mv (.tmp 0), none⟩,
   ⟨(some 22), .call n_scan_Tokens [(.tmp 21)], none⟩,
   ⟨(some 20), .mv (.tmp 22), none⟩,
   ⟨(some 23), .extract (.tmp 20) 0, none⟩,
   ⟨(some 24), .extract (.tmp 20) 1, none⟩,
   ⟨(some 25), .extract (.tmp 20) 2, none⟩,
   ⟨(some 3), .mv (.tmp 23), none⟩,
   ⟨(some 4), .mv (.tmp 24), none⟩,
   ⟨(some 5), .mv (.tmp 25), none⟩])
 (.seq (.ops [⟨(some 26), .mv (.tmp 3), none⟩,
   ⟨(some 27), .len (.tmp 26), none⟩,
   ⟨(some 28), .bin .eql (.tmp 27) (.const (.int .i64 0)), none⟩,
   ⟨(some 29), .mv (.tmp 28), none⟩,
   ⟨(some 30), .mv (.tmp 4), (some (29, true))⟩,
   ⟨(some 31), .bin .eql (.tmp 30) (.const (.int .i64 2)), (some (29, true))⟩,
   ⟨(some 32), .pick (.tmp 29) (.tmp 31) (.const (.bool false)), none⟩,
   ⟨(some 33), .mv (.tmp 32), none⟩,
   ⟨(some 34), .mv (.tmp 5), (some (33, true))⟩,
   ⟨(some 35), .bin .eql (.tmp 34) (.const (.int .i64 0)), (some (33, true))⟩,
   ⟨(some 36), .pick (.tmp 33) (.tmp 35) (.const (.bool false)), none⟩,
   ⟨(some 2), .mv (.tmp 36), none⟩])
 .ret)) .skip))
 (.seq (.ops [⟨(some 38), .mv (.tmp 0), none⟩,
   ⟨(some 39), .call n_scan_Tokens [(.tmp 38)], none⟩,
   ⟨(some 37), .mv (.tmp 39), none⟩,
   ⟨(some 40), .extract (.tmp 37) 0, none⟩,
   ⟨(some 41), .extract (.tmp 37) 1, none⟩,
   ⟨(some 42), .extract (.tmp 37) 2, none⟩,
   ⟨(some 6), .mv (.tmp 40), none⟩,
   ⟨(some 7), .mv (.tmp 41), none⟩,
   ⟨(some 8), .mv (.tmp 42), none⟩])
 (.seq (.seq (.ops [⟨(some 43), .mv (.tmp 7), none⟩,
   ⟨(some 44), .bin .neq (.tmp 43) (.const (.int .i64 0)), none⟩])
 (.cond (.tmp 44) (.seq (.ops [⟨(some 45), .mv (.tmp 8), none⟩,
   ⟨(some 46), .bin .geq (.tmp 45) (.const (.int .i64 0)), none⟩,
   ⟨(some 47), .mv (.tmp 46), none⟩,
   ⟨(some 48), .mv (.tmp 8), (some (47, true))⟩,
   ⟨(some 49), .mv (.tmp 0), (some (47, true))⟩,
   ⟨(some 50), .lenStr (.tmp 49), (some (47, true))⟩,
   ⟨(some 51), .bin .lss (.tmp 48) (.tmp 50), (some (47, true))⟩,
   ⟨(some 52), .pick (.tmp 47) (.tmp 51) (.const (.bool false)), none⟩,
   ⟨(some 53), .mv (.tmp 52), none⟩,
   ⟨(some 54), .mv (.tmp 6), (some (53, true))⟩,
   ⟨(some 55), .len (.tmp 54), (some (53, true))⟩,
   ⟨(some 56), .bin .eql (.tmp 55) (.const (.int .i64 0)), (some (53, true))⟩,
   ⟨(some 57), .pick (.tmp 53) (.tmp 56) (.const (.bool false)), none⟩,
   ⟨(some 2), .mv (.tmp 57), none⟩])
 .ret) .skip))
 (.seq (.ops [⟨(some 9), .mv (.const (.int .i64 0)), none⟩])
 (.seq (.seq (.ops [⟨(some 10), .mv (.const (.int .i64 0)), none⟩])
 (.block 0 (.loop (.seq (.seq (.ops [⟨(some 58), .mv (.tmp 10), none⟩,
     ⟨(some 59), .mv (.tmp 6), none⟩,
     ⟨(some 60), .len (.tmp 59), none⟩,
     ⟨(some 61), .bin .lss (.tmp 58) (.tmp 60), none⟩])
   (.cond (.tmp 61) .skip (.exit 0)))
   (.seq (.block 1 (.seq (.ops [⟨(some 64), .mv (.tmp 6), none⟩,
      ⟨(some 65), .mv (.tmp 10), none⟩,
      ⟨(some 66), .atRow 4 (.tmp 64) (.tmp 65), none⟩,
      ⟨(some 67), .load 4 (.tmp 66), none⟩,
      ⟨(some 11), .alloc [(.int .i64 0), (.string ⟨#[]⟩), (.int .i64 0), (.int .i64 0)], none⟩,
      ⟨none, .store 4 (.tmp 11) (.tmp 67), none⟩])
    (.seq (.seq (.ops [⟨(some 68), .off 3 (.tmp 11), none⟩,
      ⟨(some 69), .load1 (.tmp 68), none⟩,
      ⟨(some 70), .mv (.tmp 9), none⟩,
      ⟨(some 71), .bin .lss (.tmp 69) (.tmp 70), none⟩,
      ⟨(some 72), .mv (.tmp 71), none⟩,
      ⟨(some 73), .off 3 (.tmp 11), (some (72, false))⟩,
      ⟨(some 74), .load1 (.tmp 73), (some (72, false))⟩,
      ⟨(some 75), .off 1 (.tmp 11), (some (72, false))⟩,
      ⟨(some 76), .load1 (.tmp 75), (some (72, false))⟩,
      ⟨(some 77), .lenStr (.tmp 76), (some (72, false))⟩,
      ⟨(some 78), .bin .add (.tmp 74) (.tmp 77), (some (72, false))⟩,
      ⟨(some 79), .mv (.tmp 0), (some (72, false))⟩,
      ⟨(some 80), .lenStr (.tmp 79), (some (72, false))⟩,
      ⟨(some 81), .bin .gtr (.tmp 78) (.tmp 80), (some (72, false))⟩,
      ⟨(some 82), .pick (.tmp 72) (.const (.bool true)) (.tmp 81), none⟩,
      ⟨(some 83), .mv (.tmp 82), none⟩,
      ⟨(some 84), .mv (.tmp 0), (some (83, false))⟩,
      ⟨(some 85), .off 3 (.tmp 11), (some (83, false))⟩,
      ⟨(some 86), .load1 (.tmp 85), (some (83, false))⟩,
      ⟨(some 87), .off 3 (.tmp 11), (some (83, false))⟩,
      ⟨(some 88), .load1 (.tmp 87), (some (83, false))⟩,
      ⟨(some 89), .off 1 (.tmp 11), (some (83, false))⟩,
      ⟨(some 90), .load1 (.tmp 89), (some (83, false))⟩,
      ⟨(some 91), .lenStr (.tmp 90), (some (83, false))⟩,
      ⟨(some 92), .bin .add (.tmp 88) (.tmp 91), (some (83, false))⟩,
      ⟨(some 93), .sliceStr (.tmp 84) (some (.tmp 86)) (some (.tmp 92)), (some (83, false))⟩,
      ⟨(some 94), .off 1 (.tmp 11), (some (83, false))⟩,
      ⟨(some 95), .load1 (.tmp 94), (some (83, false))⟩,
      ⟨(some 96), .bin .neq (.tmp 93) (.tmp 95), (some (83, false))⟩,
      ⟨(some 97), .pick (.tmp 83) (.const (.bool true)) (.tmp 96), none⟩,
      ⟨(some 98), .mv (.tmp 97), none⟩,
      ⟨(some 99), .off 1 (.tmp 11), (some (98, false))⟩,
      ⟨(some 100), .load1 (.tmp 99), (some (98, false))⟩,
      ⟨(some 101), .lenStr (.tmp 100), (some (98, false))⟩,
      ⟨(some 102), .bin .eql (.tmp 101) (.const (.int .i64 0)), (some (98, false))⟩,
      ⟨(some 103), .pick (.tmp 98) (.const (.bool true)) (.tmp 102), none⟩])
    (.cond (.tmp 103) (.seq (.ops [⟨(some 2), .mv (.const (.bool false)), none⟩])
    .ret) .skip))
    (.seq (.ops [⟨(some 105), .mv (.tmp 0), none⟩,
      ⟨(some 106), .mv (.tmp 9), none⟩,
      ⟨(some 107), .off 3 (.tmp 11), none⟩,
      ⟨(some 108), .load1 (.tmp 107), none⟩,
      ⟨(some 109), .sliceStr (.tmp 105) (some (.tmp 106)) (some (.tmp 108)), none⟩,
      ⟨(some 110), .call n_scan_Tokens [(.tmp 109)], none⟩,
      ⟨(some 104), .mv (.tmp 110), none⟩,
      ⟨(some 111), .extract (.tmp 104) 0, none⟩,
      ⟨(some 112), .extract (.tmp 104) 1, none⟩,
      ⟨(some 113), .extract (.tmp 104) 2, none⟩,
      ⟨(some 12), .mv (.tmp 111), none⟩,
      ⟨(some 13), .mv (.tmp 112), none⟩,
      ⟨(some 14), .mv (.tmp 113), none⟩])
    (.seq (.seq (.ops [⟨(some 114), .mv (.tmp 13), none⟩,
      ⟨(some 115), .bin .neq (.tmp 114) (.const (.int .i64 0)), none⟩,
      ⟨(some 116), .mv (.tmp 115), none⟩,
      ⟨(some 117), .mv (.tmp 12), (some (116, false))⟩,
      ⟨(some 118), .len (.tmp 117), (some (116, false))⟩,
      ⟨(some 119), .bin .neq (.tmp 118) (.const (.int .i64 0)), (some (116, false))⟩,
      ⟨(some 120), .pick (.tmp 116) (.const (.bool true)) (.tmp 119), none⟩])
    (.cond (.tmp 120) (.seq (.ops [⟨(some 2), .mv (.const (.bool false)), none⟩])
    .ret) .skip))
    (.ops [⟨(some 121), .off 3 (.tmp 11), none⟩,
      ⟨(some 122), .load1 (.tmp 121), none⟩,
      ⟨(some 123), .off 1 (.tmp 11), none⟩,
      ⟨(some 124), .load1 (.tmp 123), none⟩,
      ⟨(some 125), .lenStr (.tmp 124), none⟩,
      ⟨(some 126), .bin .add (.tmp 122) (.tmp 125), none⟩,
      ⟨(some 9), .mv (.tmp 126), none⟩]))))))
   (.ops [⟨(some 62), .mv (.tmp 10), none⟩,
     ⟨(some 63), .bin .add (.tmp 62) (.const (.int .i64 1)), none⟩,
     ⟨(some 10), .mv (.tmp 63), none⟩]))))))
 (.seq (.ops [⟨(some 2), .mv (.const (.bool true)), none⟩])
 .ret))))))))⟩
def c_belatedlaw4_able : AFunc := ⟨50, [.tmp 0],
 (.seq (.ops [⟨(some 0), .mv (.const (.bool false)), none⟩])
 (.seq (.ops [⟨(some 9), .call n_scan_Tokens [(.const (.string ⟨#[77, 79, 86, 32, 91, 120, 93, 44, 36, 48, 120, 49, 48, 32, 40, 42, 32, 97, 32, 42, 41]⟩))], none⟩,
   ⟨(some 8), .mv (.tmp 9), none⟩,
   ⟨(some 10), .extract (.tmp 8) 0, none⟩,
   ⟨(some 11), .extract (.tmp 8) 1, none⟩,
   ⟨(some 12), .extract (.tmp 8) 2, none⟩,
   ⟨(some 1), .mv (.tmp 10), none⟩,
   ⟨(some 2), .mv (.tmp 11), none⟩,
   ⟨(some 3), .mv (.tmp 12), none⟩])
 (.seq (.ops [⟨(some 14), .call n_scan_Tokens [(.const (.string ⟨#[97, 64]⟩))], none⟩,
   ⟨(some 13), .mv (.tmp 14), none⟩,
   ⟨(some 15), .extract (.tmp 13) 0, none⟩,
   ⟨(some 16), .extract (.tmp 13) 1, none⟩,
   ⟨(some 17), .extract (.tmp 13) 2, none⟩,
   ⟨(some 4), .mv (.tmp 15), none⟩,
   ⟨(some 5), .mv (.tmp 16), none⟩,
   ⟨(some 6), .mv (.tmp 17), none⟩])
 (.seq (.ops [⟨(some 18), .call n_scan_New [(.const (.slice none 0 0))], none⟩,
   ⟨(some 7), .mv (.tmp 18), none⟩])
 (.seq (.ops [⟨(some 19), .mv (.tmp 2), none⟩,
   ⟨(some 20), .bin .eql (.tmp 19) (.const (.int .i64 0)), none⟩,
   ⟨(some 21), .mv (.tmp 20), none⟩,
   ⟨(some 22), .mv (.tmp 1), (some (21, true))⟩,
   ⟨(some 23), .len (.tmp 22), (some (21, true))⟩,
   ⟨(some 24), .bin .eql (.tmp 23) (.const (.int .i64 7)), (some (21, true))⟩,
   ⟨(some 25), .pick (.tmp 21) (.tmp 24) (.const (.bool false)), none⟩,
   ⟨(some 26), .mv (.tmp 25), none⟩,
   ⟨(some 27), .mv (.tmp 1), (some (26, true))⟩,
   ⟨(some 28), .atRow 4 (.tmp 27) (.const (.int .i64 6)), (some (26, true))⟩,
   ⟨(some 29), .off 2 (.tmp 28), (some (26, true))⟩,
   ⟨(some 30), .load1 (.tmp 29), (some (26, true))⟩,
   ⟨(some 31), .bin .eql (.tmp 30) (.const (.int .i64 16)), (some (26, true))⟩,
   ⟨(some 32), .pick (.tmp 26) (.tmp 31) (.const (.bool false)), none⟩,
   ⟨(some 33), .mv (.tmp 32), none⟩,
   ⟨(some 34), .mv (.tmp 5), (some (33, true))⟩,
   ⟨(some 35), .bin .eql (.tmp 34) (.const (.int .i64 20)), (some (33, true))⟩,
   ⟨(some 36), .pick (.tmp 33) (.tmp 35) (.const (.bool false)), none⟩,
   ⟨(some 37), .mv (.tmp 36), none⟩,
   ⟨(some 38), .mv (.tmp 6), (some (37, true))⟩,
   ⟨(some 39), .bin .eql (.tmp 38) (.const (.int .i64 1)), (some (37, true))⟩,
   ⟨(some 40), .pick (.tmp 37) (.tmp 39) (.const (.bool false)), none⟩,
   ⟨(some 41), .mv (.tmp 40), none⟩,
   ⟨(some 42), .mv (.tmp 7), (some (41, true))⟩,
   ⟨(some 43), .eqv true .ptr (.tmp 42) (.const (.pointer none)), (some (41, true))⟩,
   ⟨(some 44), .pick (.tmp 41) (.tmp 43) (.const (.bool false)), none⟩,
   ⟨(some 45), .mv (.tmp 44), none⟩,
   ⟨(some 46), .mv (.tmp 7), (some (45, true))⟩,
   ⟨(some 47), .call n_scan_Cursor_Left [(.tmp 46)], (some (45, true))⟩,
   ⟨(some 48), .bin .eql (.tmp 47) (.const (.int .i64 0)), (some (45, true))⟩,
   ⟨(some 49), .pick (.tmp 45) (.tmp 48) (.const (.bool false)), none⟩,
   ⟨(some 0), .mv (.tmp 49), none⟩])
 .ret)))))⟩
def c_scan_Tokens : AFunc := ⟨116, [.tmp 2, .tmp 3, .tmp 4],
 (.seq (.ops [⟨(some 2), .mv (.const (.slice none 0 0)), none⟩,
   ⟨(some 3), .mv (.const (.int .i64 0)), none⟩,
   ⟨(some 4), .mv (.const (.int .i64 0)), none⟩])
 (.seq (.seq (.ops [⟨(some 13), .mv (.tmp 0), none⟩,
   ⟨(some 14), .lenStr (.tmp 13), none⟩,
   ⟨(some 15), .bin .gtr (.tmp 14) (.const (.int .i64 8192)), none⟩])
 (.cond (.tmp 15) (.seq (.ops [⟨(some 2), .mv (.const (.slice none 0 0)), none⟩,
   ⟨(some 3), .mv (.const (.int .i64 2)), none⟩,
   ⟨(some 4), .mv (.const (.int .i64 0)), none⟩])
 .ret) .skip))
 (.seq (.ops [⟨(some 5), .mv (.const (.slice none 0 0)), none⟩])
 (.seq (.seq (.ops [⟨(some 6), .mv (.const (.int .i64 0)), none⟩])
 (.block 0 (.loop (.seq (.seq (.ops [⟨(some 16), .mv (.tmp 6), none⟩,
     ⟨(some 17), .mv (.tmp 0), none⟩,
     ⟨(some 18), .lenStr (.tmp 17), none⟩,
     ⟨(some 19), .bin .lss (.tmp 16) (.tmp 18), none⟩])
   (.cond (.tmp 19) .skip (.exit 0)))
   (.block 1 (.seq (.ops [⟨(some 20), .mv (.tmp 0), none⟩,
      ⟨(some 21), .mv (.tmp 6), none⟩,
      ⟨(some 22), .sliceStr (.tmp 20) (some (.tmp 21)) none, none⟩,
      ⟨(some 7), .mv (.tmp 22), none⟩])
    (.seq (.ops [⟨(some 23), .mv (.tmp 6), none⟩,
      ⟨(some 24), .build [(.int .i64 0), (.string ⟨#[]⟩), (.int .i64 0), (.int .i64 0)] [(3, 1, (.tmp 23))], none⟩,
      ⟨(some 8), .alloc [(.int .i64 0), (.string ⟨#[]⟩), (.int .i64 0), (.int .i64 0)], none⟩,
      ⟨none, .store 4 (.tmp 8) (.tmp 24), none⟩])
    (.seq (.seq (.ops [⟨(some 25), .mv (.tmp 7), none⟩,
      ⟨(some 26), .idxStr (.tmp 25) (.const (.int .i64 0)), none⟩,
      ⟨(some 9), .mv (.tmp 26), none⟩])
    (.block 2 (.seq (.ops [⟨(some 29), .mv (.tmp 9), none⟩,
       ⟨(some 30), .bin .eql (.tmp 29) (.const (.int .u8 32)), none⟩,
       ⟨(some 31), .mv (.tmp 30), none⟩,
       ⟨(some 32), .mv (.tmp 9), (some (31, false))⟩,
       ⟨(some 33), .bin .eql (.tmp 32) (.const (.int .u8 9)), (some (31, false))⟩,
       ⟨(some 34), .pick (.tmp 31) (.const (.bool true)) (.tmp 33), none⟩,
       ⟨(some 35), .mv (.tmp 34), none⟩,
       ⟨(some 36), .mv (.tmp 9), (some (35, false))⟩,
       ⟨(some 37), .bin .eql (.tmp 36) (.const (.int .u8 10)), (some (35, false))⟩,
       ⟨(some 38), .pick (.tmp 35) (.const (.bool true)) (.tmp 37), none⟩,
       ⟨(some 28), .mv (.tmp 38), none⟩])
     (.cond (.tmp 28) (.seq (.ops [⟨(some 39), .mv (.tmp 6), none⟩,
       ⟨(some 40), .bin .add (.tmp 39) (.const (.int .i64 1)), none⟩,
       ⟨(some 6), .mv (.tmp 40), none⟩])
     (.exit 1)) (.seq (.ops [⟨(some 42), .mv (.tmp 7), none⟩,
       ⟨(some 43), .call n_strings_HasPrefix [(.tmp 42), (.const (.string ⟨#[40, 42]⟩))], none⟩,
       ⟨(some 41), .mv (.tmp 43), none⟩])
     (.cond (.tmp 41) (.seq (.ops [⟨(some 44), .mv (.tmp 7), none⟩,
       ⟨(some 45), .sliceStr (.tmp 44) (some (.const (.int .i64 2))) none, none⟩,
       ⟨(some 46), .call n_strings_Index [(.tmp 45), (.const (.string ⟨#[42, 41]⟩))], none⟩,
       ⟨(some 10), .mv (.tmp 46), none⟩])
     (.seq (.seq (.ops [⟨(some 47), .mv (.tmp 10), none⟩,
       ⟨(some 48), .bin .lss (.tmp 47) (.const (.int .i64 0)), none⟩])
     (.cond (.tmp 48) (.seq (.ops [⟨(some 49), .mv (.tmp 6), none⟩,
       ⟨(some 2), .mv (.const (.slice none 0 0)), none⟩,
       ⟨(some 3), .mv (.const (.int .i64 24)), none⟩,
       ⟨(some 4), .mv (.tmp 49), none⟩])
     .ret) .skip))
     (.seq (.ops [⟨(some 50), .mv (.tmp 6), none⟩,
       ⟨(some 51), .mv (.tmp 10), none⟩,
       ⟨(some 52), .bin .add (.tmp 51) (.const (.int .i64 4)), none⟩,
       ⟨(some 53), .bin .add (.tmp 50) (.tmp 52), none⟩,
       ⟨(some 6), .mv (.tmp 53), none⟩])
     (.exit 1)))) (.seq (.ops [⟨(some 55), .mv (.tmp 9), none⟩,
       ⟨(some 56), .call n_scan_digit [(.tmp 55)], none⟩,
       ⟨(some 54), .mv (.tmp 56), none⟩])
     (.cond (.tmp 54) (.seq (.ops [⟨(some 57), .off 0 (.tmp 8), none⟩,
       ⟨none, .store1 (.tmp 57) (.const (.int .i64 2)), none⟩])
     (.seq (.ops [⟨(some 58), .mv (.tmp 7), none⟩,
       ⟨(some 59), .mv (.tmp 7), none⟩,
       ⟨(some 60), .call n_scan_row [(.tmp 59), (.func n_scan_Tokens_1)], none⟩,
       ⟨(some 61), .sliceStr (.tmp 58) none (some (.tmp 60)), none⟩,
       ⟨(some 62), .off 1 (.tmp 8), none⟩,
       ⟨none, .store1 (.tmp 62) (.tmp 61), none⟩])
     (.seq (.ops [⟨(some 64), .off 1 (.tmp 8), none⟩,
       ⟨(some 65), .load1 (.tmp 64), none⟩,
       ⟨(some 66), .call n_scan_number [(.tmp 65)], none⟩,
       ⟨(some 63), .mv (.tmp 66), none⟩,
       ⟨(some 67), .extract (.tmp 63) 0, none⟩,
       ⟨(some 68), .extract (.tmp 63) 1, none⟩,
       ⟨(some 11), .mv (.tmp 67), none⟩,
       ⟨(some 12), .mv (.tmp 68), none⟩])
     (.seq (.seq (.ops [⟨(some 69), .mv (.tmp 12), none⟩,
       ⟨(some 70), .un .not (.tmp 69), none⟩])
     (.cond (.tmp 70) (.seq (.ops [⟨(some 71), .mv (.tmp 6), none⟩,
       ⟨(some 2), .mv (.const (.slice none 0 0)), none⟩,
       ⟨(some 3), .mv (.const (.int .i64 23)), none⟩,
       ⟨(some 4), .mv (.tmp 71), none⟩])
     .ret) .skip))
     (.ops [⟨(some 72), .mv (.tmp 11), none⟩,
       ⟨(some 73), .off 2 (.tmp 8), none⟩,
       ⟨none, .store1 (.tmp 73) (.tmp 72), none⟩]))))) (.seq (.ops [⟨(some 75), .mv (.tmp 9), none⟩,
       ⟨(some 76), .call n_scan_letter [(.tmp 75)], none⟩,
       ⟨(some 77), .mv (.tmp 76), none⟩,
       ⟨(some 78), .mv (.tmp 9), (some (77, false))⟩,
       ⟨(some 79), .bin .eql (.tmp 78) (.const (.int .u8 95)), (some (77, false))⟩,
       ⟨(some 80), .pick (.tmp 77) (.const (.bool true)) (.tmp 79), none⟩,
       ⟨(some 74), .mv (.tmp 80), none⟩])
     (.cond (.tmp 74) (.seq (.ops [⟨(some 81), .off 0 (.tmp 8), none⟩,
       ⟨none, .store1 (.tmp 81) (.const (.int .i64 1)), none⟩])
     (.ops [⟨(some 82), .mv (.tmp 7), none⟩,
       ⟨(some 83), .mv (.tmp 7), none⟩,
       ⟨(some 84), .call n_scan_row [(.tmp 83), (.func n_scan_Tokens_2)], none⟩,
       ⟨(some 85), .sliceStr (.tmp 82) none (some (.tmp 84)), none⟩,
       ⟨(some 86), .off 1 (.tmp 8), none⟩,
       ⟨none, .store1 (.tmp 86) (.tmp 85), none⟩])) (.seq (.ops [⟨(some 88), .mv (.tmp 7), none⟩,
       ⟨(some 89), .call n_strings_HasPrefix [(.tmp 88), (.const (.string ⟨#[47, 92]⟩))], none⟩,
       ⟨(some 90), .mv (.tmp 89), none⟩,
       ⟨(some 91), .mv (.tmp 7), (some (90, false))⟩,
       ⟨(some 92), .call n_strings_HasPrefix [(.tmp 91), (.const (.string ⟨#[92, 47]⟩))], (some (90, false))⟩,
       ⟨(some 93), .pick (.tmp 90) (.const (.bool true)) (.tmp 92), none⟩,
       ⟨(some 87), .mv (.tmp 93), none⟩])
     (.cond (.tmp 87) (.ops [⟨(some 94), .mv (.tmp 7), none⟩,
       ⟨(some 95), .sliceStr (.tmp 94) none (some (.const (.int .i64 2))), none⟩,
       ⟨(some 96), .off 0 (.tmp 8), none⟩,
       ⟨none, .store1 (.tmp 96) (.const (.int .i64 3)), none⟩,
       ⟨(some 97), .off 1 (.tmp 8), none⟩,
       ⟨none, .store1 (.tmp 97) (.tmp 95), none⟩]) (.seq (.ops [⟨(some 99), .mv (.tmp 9), none⟩,
       ⟨(some 100), .call n_strings_IndexByte [(.const (.string ⟨#[123, 125, 40, 41, 91, 93, 59, 124, 44, 58, 61, 43, 45, 35, 36, 126, 42, 47, 92, 38, 63, 94]⟩)), (.tmp 99)], none⟩,
       ⟨(some 101), .bin .geq (.tmp 100) (.const (.int .i64 0)), none⟩,
       ⟨(some 98), .mv (.tmp 101), none⟩])
     (.cond (.tmp 98) (.ops [⟨(some 102), .mv (.tmp 7), none⟩,
       ⟨(some 103), .sliceStr (.tmp 102) none (some (.const (.int .i64 1))), none⟩,
       ⟨(some 104), .off 0 (.tmp 8), none⟩,
       ⟨none, .store1 (.tmp 104) (.const (.int .i64 3)), none⟩,
       ⟨(some 105), .off 1 (.tmp 8), none⟩,
       ⟨none, .store1 (.tmp 105) (.tmp 103), none⟩]) (.seq (.ops [⟨(some 27), .mv (.tmp 6), none⟩,
       ⟨(some 2), .mv (.const (.slice none 0 0)), none⟩,
       ⟨(some 3), .mv (.const (.int .i64 20)), none⟩,
       ⟨(some 4), .mv (.tmp 27), none⟩])
     .ret)))))))))))))))
    (.seq (.ops [⟨(some 106), .mv (.tmp 5), none⟩,
      ⟨(some 107), .load 4 (.tmp 8), none⟩,
      ⟨(some 108), .mkRow [(.int .i64 0), (.string ⟨#[]⟩), (.int .i64 0), (.int .i64 0)] 1 [(0, 4, (.tmp 107))], none⟩,
      ⟨(some 109), .append 4 40 (.tmp 106) (.tmp 108), none⟩,
      ⟨(some 5), .mv (.tmp 109), none⟩])
    (.ops [⟨(some 110), .mv (.tmp 6), none⟩,
      ⟨(some 111), .off 1 (.tmp 8), none⟩,
      ⟨(some 112), .load1 (.tmp 111), none⟩,
      ⟨(some 113), .lenStr (.tmp 112), none⟩,
      ⟨(some 114), .bin .add (.tmp 110) (.tmp 113), none⟩,
      ⟨(some 6), .mv (.tmp 114), none⟩]))))))))))
 (.seq (.ops [⟨(some 115), .mv (.tmp 5), none⟩,
   ⟨(some 2), .mv (.tmp 115), none⟩,
   ⟨(some 3), .mv (.const (.int .i64 0)), none⟩,
   ⟨(some 4), .mv (.const (.int .i64 0)), none⟩])
 .ret)))))⟩
def c_belatedref4_Tokens : AFunc := ⟨112, [.tmp 2, .tmp 3, .tmp 4],
 (.seq (.ops [⟨(some 2), .mv (.const (.slice none 0 0)), none⟩,
   ⟨(some 3), .mv (.const (.int .i64 0)), none⟩,
   ⟨(some 4), .mv (.const (.int .i64 0)), none⟩])
 (.seq (.seq (.ops [⟨(some 14), .mv (.tmp 0), none⟩,
   ⟨(some 15), .lenStr (.tmp 14), none⟩,
   ⟨(some 16), .bin .gtr (.tmp 15) (.const (.int .i64 8192)), none⟩])
 (.cond (.tmp 16) (.seq (.ops [⟨(some 2), .mv (.const (.slice none 0 0)), none⟩,
   ⟨(some 3), .mv (.const (.int .i64 2)), none⟩,
   ⟨(some 4), .mv (.const (.int .i64 0)), none⟩])
 .ret) .skip))
 (.seq (.ops [⟨(some 5), .mv (.const (.slice none 0 0)), none⟩])
 (.seq (.ops [⟨(some 6), .mv (.const (.int .i64 0)), none⟩])
 (.block 0 (.loop (.block 1 (.seq (.ops [⟨(some 18), .mv (.tmp 0), none⟩,
      ⟨(some 19), .mv (.tmp 6), none⟩,
      ⟨(some 20), .call n_belatedref4_blank [(.tmp 18), (.tmp 19)], none⟩,
      ⟨(some 17), .mv (.tmp 20), none⟩,
      ⟨(some 21), .extract (.tmp 17) 0, none⟩,
      ⟨(some 22), .extract (.tmp 17) 1, none⟩,
      ⟨(some 7), .mv (.tmp 21), none⟩,
      ⟨(some 8), .mv (.tmp 22), none⟩])
    (.seq (.seq (.ops [⟨(some 23), .mv (.tmp 8), none⟩,
      ⟨(some 24), .bin .neq (.tmp 23) (.const (.int .i64 0)), none⟩])
    (.cond (.tmp 24) (.seq (.ops [⟨(some 25), .mv (.tmp 8), none⟩,
      ⟨(some 26), .mv (.tmp 7), none⟩,
      ⟨(some 2), .mv (.const (.slice none 0 0)), none⟩,
      ⟨(some 3), .mv (.tmp 25), none⟩,
      ⟨(some 4), .mv (.tmp 26), none⟩])
    .ret) .skip))
    (.seq (.ops [⟨(some 27), .mv (.tmp 7), none⟩,
      ⟨(some 6), .mv (.tmp 27), none⟩])
    (.seq (.seq (.ops [⟨(some 28), .mv (.tmp 6), none⟩,
      ⟨(some 29), .mv (.tmp 0), none⟩,
      ⟨(some 30), .lenStr (.tmp 29), none⟩,
      ⟨(some 31), .bin .geq (.tmp 28) (.tmp 30), none⟩])
    (.cond (.tmp 31) (.seq (.ops [⟨(some 32), .mv (.tmp 5), none⟩,
      ⟨(some 2), .mv (.tmp 32), none⟩,
      ⟨(some 3), .mv (.const (.int .i64 0)), none⟩,
      ⟨(some 4), .mv (.const (.int .i64 0)), none⟩])
    .ret) .skip))
    (.seq (.ops [⟨(some 33), .mv (.tmp 0), none⟩,
      ⟨(some 34), .mv (.tmp 6), none⟩,
      ⟨(some 35), .idxStr (.tmp 33) (.tmp 34), none⟩,
      ⟨(some 9), .mv (.tmp 35), none⟩])
    (.seq (.ops [⟨(some 36), .mv (.tmp 6), none⟩,
      ⟨(some 37), .build [(.int .i64 0), (.string ⟨#[]⟩), (.int .i64 0), (.int .i64 0)] [(3, 1, (.tmp 36))], none⟩,
      ⟨(some 10), .alloc [(.int .i64 0), (.string ⟨#[]⟩), (.int .i64 0), (.int .i64 0)], none⟩,
      ⟨none, .store 4 (.tmp 10) (.tmp 37), none⟩])
    (.seq (.ops [⟨(some 38), .mv (.tmp 6), none⟩,
      ⟨(some 39), .bin .add (.tmp 38) (.const (.int .i64 1)), none⟩,
      ⟨(some 11), .mv (.tmp 39), none⟩])
    (.seq (.block 2 (.seq (.ops [⟨(some 42), .mv (.tmp 9), none⟩,
       ⟨(some 43), .call n_belatedref4_digit [(.tmp 42)], none⟩,
       ⟨(some 41), .mv (.tmp 43), none⟩])
     (.cond (.tmp 41) (.seq (.ops [⟨(some 44), .mv (.tmp 0), none⟩,
       ⟨(some 45), .mv (.tmp 6), none⟩,
       ⟨(some 46), .call n_belatedref4_run [(.tmp 44), (.tmp 45), (.const (.bool false))], none⟩,
       ⟨(some 11), .mv (.tmp 46), none⟩])
     (.seq (.ops [⟨(some 48), .mv (.tmp 0), none⟩,
       ⟨(some 49), .mv (.tmp 6), none⟩,
       ⟨(some 50), .mv (.tmp 11), none⟩,
       ⟨(some 51), .sliceStr (.tmp 48) (some (.tmp 49)) (some (.tmp 50)), none⟩,
       ⟨(some 52), .call n_belatedref4_Value [(.tmp 51)], none⟩,
       ⟨(some 47), .mv (.tmp 52), none⟩,
       ⟨(some 53), .extract (.tmp 47) 0, none⟩,
       ⟨(some 54), .extract (.tmp 47) 1, none⟩,
       ⟨(some 12), .mv (.tmp 53), none⟩,
       ⟨(some 13), .mv (.tmp 54), none⟩])
     (.seq (.seq (.ops [⟨(some 55), .mv (.tmp 13), none⟩,
       ⟨(some 56), .un .not (.tmp 55), none⟩])
     (.cond (.tmp 56) (.seq (.ops [⟨(some 57), .mv (.tmp 6), none⟩,
       ⟨(some 2), .mv (.const (.slice none 0 0)), none⟩,
       ⟨(some 3), .mv (.const (.int .i64 23)), none⟩,
       ⟨(some 4), .mv (.tmp 57), none⟩])
     .ret) .skip))
     (.seq (.ops [⟨(some 58), .off 0 (.tmp 10), none⟩,
       ⟨none, .store1 (.tmp 58) (.const (.int .i64 2)), none⟩])
     (.ops [⟨(some 59), .mv (.tmp 12), none⟩,
       ⟨(some 60), .off 2 (.tmp 10), none⟩,
       ⟨none, .store1 (.tmp 60) (.tmp 59), none⟩]))))) (.seq (.ops [⟨(some 62), .mv (.tmp 9), none⟩,
       ⟨(some 63), .call n_belatedref4_letter [(.tmp 62)], none⟩,
       ⟨(some 64), .mv (.tmp 63), none⟩,
       ⟨(some 65), .mv (.tmp 9), (some (64, false))⟩,
       ⟨(some 66), .bin .eql (.tmp 65) (.const (.int .u8 95)), (some (64, false))⟩,
       ⟨(some 67), .pick (.tmp 64) (.const (.bool true)) (.tmp 66), none⟩,
       ⟨(some 61), .mv (.tmp 67), none⟩])
     (.cond (.tmp 61) (.seq (.ops [⟨(some 68), .mv (.tmp 0), none⟩,
       ⟨(some 69), .mv (.tmp 6), none⟩,
       ⟨(some 70), .call n_belatedref4_run [(.tmp 68), (.tmp 69), (.const (.bool true))], none⟩,
       ⟨(some 11), .mv (.tmp 70), none⟩])
     (.ops [⟨(some 71), .off 0 (.tmp 10), none⟩,
       ⟨none, .store1 (.tmp 71) (.const (.int .i64 1)), none⟩])) (.seq (.ops [⟨(some 73), .mv (.tmp 9), none⟩,
       ⟨(some 74), .call n_belatedref4_mark [(.tmp 73)], none⟩,
       ⟨(some 72), .mv (.tmp 74), none⟩])
     (.cond (.tmp 72) (.seq (.seq (.ops [⟨(some 75), .mv (.tmp 11), none⟩,
       ⟨(some 76), .mv (.tmp 0), none⟩,
       ⟨(some 77), .lenStr (.tmp 76), none⟩,
       ⟨(some 78), .bin .lss (.tmp 75) (.tmp 77), none⟩,
       ⟨(some 79), .mv (.tmp 78), none⟩,
       ⟨(some 80), .mv (.tmp 9), (some (79, true))⟩,
       ⟨(some 81), .bin .eql (.tmp 80) (.const (.int .u8 47)), (some (79, true))⟩,
       ⟨(some 82), .mv (.tmp 81), (some (79, true))⟩,
       ⟨(some 83), .mv (.tmp 0), (some (82, true))⟩,
       ⟨(some 84), .mv (.tmp 11), (some (82, true))⟩,
       ⟨(some 85), .idxStr (.tmp 83) (.tmp 84), (some (82, true))⟩,
       ⟨(some 86), .bin .eql (.tmp 85) (.const (.int .u8 92)), (some (82, true))⟩,
       ⟨(some 87), .pick (.tmp 82) (.tmp 86) (.const (.bool false)), (some (79, true))⟩,
       ⟨(some 88), .mv (.tmp 87), (some (79, true))⟩,
       ⟨(some 89), .mv (.tmp 9), (some (88, false))⟩,
       ⟨(some 90), .bin .eql (.tmp 89) (.const (.int .u8 92)), (some (88, false))⟩,
       ⟨(some 91), .mv (.tmp 90), (some (88, false))⟩,
       ⟨(some 92), .mv (.tmp 0), (some (91, true))⟩,
       ⟨(some 93), .mv (.tmp 11), (some (91, true))⟩,
       ⟨(some 94), .idxStr (.tmp 92) (.tmp 93), (some (91, true))⟩,
       ⟨(some 95), .bin .eql (.tmp 94) (.const (.int .u8 47)), (some (91, true))⟩,
       ⟨(some 96), .pick (.tmp 91) (.tmp 95) (.const (.bool false)), (some (88, false))⟩,
       ⟨(some 97), .pick (.tmp 88) (.const (.bool true)) (.tmp 96), (some (79, true))⟩,
       ⟨(some 98), .pick (.tmp 79) (.tmp 97) (.const (.bool false)), none⟩])
     (.cond (.tmp 98) (.ops [⟨(some 99), .mv (.tmp 11), none⟩,
       ⟨(some 100), .bin .add (.tmp 99) (.const (.int .i64 1)), none⟩,
       ⟨(some 11), .mv (.tmp 100), none⟩]) .skip))
     (.ops [⟨(some 101), .off 0 (.tmp 10), none⟩,
       ⟨none, .store1 (.tmp 101) (.const (.int .i64 3)), none⟩])) (.seq (.ops [⟨(some 40), .mv (.tmp 6), none⟩,
       ⟨(some 2), .mv (.const (.slice none 0 0)), none⟩,
       ⟨(some 3), .mv (.const (.int .i64 20)), none⟩,
       ⟨(some 4), .mv (.tmp 40), none⟩])
     .ret))))))))
    (.seq (.ops [⟨(some 102), .mv (.tmp 0), none⟩,
      ⟨(some 103), .mv (.tmp 6), none⟩,
      ⟨(some 104), .mv (.tmp 11), none⟩,
      ⟨(some 105), .sliceStr (.tmp 102) (some (.tmp 103)) (some (.tmp 104)), none⟩,
      ⟨(some 106), .off 1 (.tmp 10), none⟩,
      ⟨none, .store1 (.tmp 106) (.tmp 105), none⟩])
    (.seq (.ops [⟨(some 107), .mv (.tmp 5), none⟩,
      ⟨(some 108), .load 4 (.tmp 10), none⟩,
      ⟨(some 109), .mkRow [(.int .i64 0), (.string ⟨#[]⟩), (.int .i64 0), (.int .i64 0)] 1 [(0, 4, (.tmp 108))], none⟩,
      ⟨(some 110), .append 4 40 (.tmp 107) (.tmp 109), none⟩,
      ⟨(some 5), .mv (.tmp 110), none⟩])
    (.ops [⟨(some 111), .mv (.tmp 11), none⟩,
      ⟨(some 6), .mv (.tmp 111), none⟩]))))))))))))))))))⟩
def c_belatedlaw4_tokens : AFunc := ⟨26, [.tmp 4],
 (.seq (.ops [⟨(some 4), .mv (.const (.bool false)), none⟩])
 (.seq (.seq (.ops [⟨(some 6), .mv (.tmp 0), none⟩,
   ⟨(some 7), .len (.tmp 6), none⟩,
   ⟨(some 8), .mv (.tmp 1), none⟩,
   ⟨(some 9), .len (.tmp 8), none⟩,
   ⟨(some 10), .bin .neq (.tmp 7) (.tmp 9), none⟩])
 (.cond (.tmp 10) (.seq (.ops [⟨(some 4), .mv (.const (.bool false)), none⟩])
 .ret) .skip))
 (.seq (.seq (.ops [⟨(some 5), .mv (.const (.int .i64 0)), none⟩])
 (.block 0 (.loop (.seq (.seq (.ops [⟨(some 11), .mv (.tmp 5), none⟩,
     ⟨(some 12), .mv (.tmp 0), none⟩,
     ⟨(some 13), .len (.tmp 12), none⟩,
     ⟨(some 14), .bin .lss (.tmp 11) (.tmp 13), none⟩])
   (.cond (.tmp 14) .skip (.exit 0)))
   (.seq (.block 1 (.seq (.ops [⟨(some 17), .mv (.tmp 0), none⟩,
      ⟨(some 18), .mv (.tmp 5), none⟩,
      ⟨(some 19), .atRow 4 (.tmp 17) (.tmp 18), none⟩,
      ⟨(some 20), .load 4 (.tmp 19), none⟩,
      ⟨(some 21), .mv (.tmp 1), none⟩,
      ⟨(some 22), .mv (.tmp 5), none⟩,
      ⟨(some 23), .atRow 4 (.tmp 21) (.tmp 22), none⟩,
      ⟨(some 24), .load 4 (.tmp 23), none⟩,
      ⟨(some 25), .eqAgg true [.int, .str, .int, .int] (.tmp 20) (.tmp 24), none⟩])
    (.cond (.tmp 25) (.seq (.ops [⟨(some 4), .mv (.const (.bool false)), none⟩])
    .ret) .skip)))
   (.ops [⟨(some 15), .mv (.tmp 5), none⟩,
     ⟨(some 16), .bin .add (.tmp 15) (.const (.int .i64 1)), none⟩,
     ⟨(some 5), .mv (.tmp 16), none⟩]))))))
 (.seq (.ops [⟨(some 4), .mv (.const (.bool true)), none⟩])
 .ret))))⟩
def c_scan_New : AFunc := ⟨7, [.tmp 2],
 (.seq (.ops [⟨(some 2), .mv (.const (.pointer none)), none⟩])
 (.seq (.ops [⟨(some 3), .mv (.tmp 0), none⟩,
   ⟨(some 4), .call n_slices_Clone_api_Token_api_Token [(.tmp 3)], none⟩,
   ⟨(some 5), .build [(.slice none 0 0), (.int .i64 0)] [(0, 1, (.tmp 4))], none⟩,
   ⟨(some 6), .box 2 (.tmp 5), none⟩,
   ⟨(some 2), .mv (.tmp 6), none⟩])
 .ret))⟩
def c_scan_Cursor_Left : AFunc := ⟨13, [.tmp 2],
 (.seq (.ops [⟨(some 2), .mv (.const (.int .i64 0)), none⟩])
 (.seq (.ops [⟨(some 3), .mv (.tmp 0), none⟩,
   ⟨(some 4), .nilCheck (.tmp 3), none⟩,
   ⟨(some 5), .off 0 (.tmp 4), none⟩,
   ⟨(some 6), .load1 (.tmp 5), none⟩,
   ⟨(some 7), .len (.tmp 6), none⟩,
   ⟨(some 8), .mv (.tmp 0), none⟩,
   ⟨(some 9), .nilCheck (.tmp 8), none⟩,
   ⟨(some 10), .off 1 (.tmp 9), none⟩,
   ⟨(some 11), .load1 (.tmp 10), none⟩,
   ⟨(some 12), .bin .sub (.tmp 7) (.tmp 11), none⟩,
   ⟨(some 2), .mv (.tmp 12), none⟩])
 .ret))⟩
def c_strings_HasPrefix : AFunc := ⟨8, [.tmp 4],
 (.seq (.ops [⟨(some 4), .mv (.const (.bool false)), none⟩])
 (.seq (.ops [⟨(some 5), .mv (.tmp 0), none⟩,
   ⟨(some 6), .mv (.tmp 1), none⟩,
   ⟨(some 7), .call n_internal_stringslite_HasPrefix [(.tmp 5), (.tmp 6)], none⟩,
   ⟨(some 4), .mv (.tmp 7), none⟩])
 .ret))⟩
def c_strings_Index : AFunc := ⟨8, [.tmp 4],
 (.seq (.ops [⟨(some 4), .mv (.const (.int .i64 0)), none⟩])
 (.seq (.ops [⟨(some 5), .mv (.tmp 0), none⟩,
   ⟨(some 6), .mv (.tmp 1), none⟩,
   ⟨(some 7), .call n_internal_stringslite_Index [(.tmp 5), (.tmp 6)], none⟩,
   ⟨(some 4), .mv (.tmp 7), none⟩])
 .ret))⟩
def c_scan_digit : AFunc := ⟨9, [.tmp 2],
 (.seq (.ops [⟨(some 2), .mv (.const (.bool false)), none⟩])
 (.seq (.ops [⟨(some 3), .mv (.tmp 0), none⟩,
   ⟨(some 4), .bin .geq (.tmp 3) (.const (.int .u8 48)), none⟩,
   ⟨(some 5), .mv (.tmp 4), none⟩,
   ⟨(some 6), .mv (.tmp 0), (some (5, true))⟩,
   ⟨(some 7), .bin .leq (.tmp 6) (.const (.int .u8 57)), (some (5, true))⟩,
   ⟨(some 8), .pick (.tmp 5) (.tmp 7) (.const (.bool false)), none⟩,
   ⟨(some 2), .mv (.tmp 8), none⟩])
 .ret))⟩
def c_scan_row : AFunc := ⟨20, [.tmp 4],
 (.seq (.ops [⟨(some 4), .mv (.const (.int .i64 0)), none⟩])
 (.seq (.ops [⟨(some 5), .mv (.const (.int .i64 0)), none⟩])
 (.seq (.block 0 (.loop (.seq (.seq (.ops [⟨(some 6), .mv (.tmp 5), none⟩,
     ⟨(some 7), .mv (.tmp 0), none⟩,
     ⟨(some 8), .lenStr (.tmp 7), none⟩,
     ⟨(some 9), .bin .lss (.tmp 6) (.tmp 8), none⟩,
     ⟨(some 10), .mv (.tmp 9), none⟩,
     ⟨(some 11), .mv (.tmp 1), (some (10, true))⟩,
     ⟨(some 12), .mv (.tmp 0), (some (10, true))⟩,
     ⟨(some 13), .mv (.tmp 5), (some (10, true))⟩,
     ⟨(some 14), .idxStr (.tmp 12) (.tmp 13), (some (10, true))⟩,
     ⟨(some 15), .callv (.tmp 11) [(.tmp 14)], (some (10, true))⟩,
     ⟨(some 16), .pick (.tmp 10) (.tmp 15) (.const (.bool false)), none⟩])
   (.cond (.tmp 16) .skip (.exit 0)))
   (.block 1 (.ops [⟨(some 17), .mv (.tmp 5), none⟩,
      ⟨(some 18), .bin .add (.tmp 17) (.const (.int .i64 1)), none⟩,
      ⟨(some 5), .mv (.tmp 18), none⟩])))))
 (.seq (.ops [⟨(some 19), .mv (.tmp 5), none⟩,
   ⟨(some 4), .mv (.tmp 19), none⟩])
 .ret))))⟩
def c_scan_Tokens_1 : AFunc := ⟨9, [.tmp 2],
 (.seq (.ops [⟨(some 2), .mv (.const (.bool false)), none⟩])
 (.seq (.ops [⟨(some 3), .mv (.tmp 0), none⟩,
   ⟨(some 4), .call n_scan_letter [(.tmp 3)], none⟩,
   ⟨(some 5), .mv (.tmp 4), none⟩,
   ⟨(some 6), .mv (.tmp 0), (some (5, false))⟩,
   ⟨(some 7), .call n_scan_digit [(.tmp 6)], (some (5, false))⟩,
   ⟨(some 8), .pick (.tmp 5) (.const (.bool true)) (.tmp 7), none⟩,
   ⟨(some 2), .mv (.tmp 8), none⟩])
 .ret))⟩
def c_scan_letter : AFunc := ⟨17, [.tmp 2],
 (.seq (.ops [⟨(some 2), .mv (.const (.bool false)), none⟩])
 (.seq (.ops [⟨(some 3), .mv (.tmp 0), none⟩,
   ⟨(some 4), .bin .geq (.tmp 3) (.const (.int .u8 97)), none⟩,
   ⟨(some 5), .mv (.tmp 4), none⟩,
   ⟨(some 6), .mv (.tmp 0), (some (5, true))⟩,
   ⟨(some 7), .bin .leq (.tmp 6) (.const (.int .u8 122)), (some (5, true))⟩,
   ⟨(some 8), .pick (.tmp 5) (.tmp 7) (.const (.bool false)), none⟩,
   ⟨(some 9), .mv (.tmp 8), none⟩,
   ⟨(some 10), .mv (.tmp 0), (some (9, false))⟩,
   ⟨(some 11), .bin .geq (.tmp 10) (.const (.int .u8 65)), (some (9, false))⟩,
   ⟨(some 12), .mv (.tmp 11), (some (9, false))⟩,
   ⟨(some 13), .mv (.tmp 0), (some (12, true))⟩,
   ⟨(some 14), .bin .leq (.tmp 13) (.const (.int .u8 90)), (some (12, true))⟩,
   ⟨(some 15), .pick (.tmp 12) (.tmp 14) (.const (.bool false)), (some (9, false))⟩,
   ⟨(some 16), .pick (.tmp 9) (.const (.bool true)) (.tmp 15), none⟩,
   ⟨(some 2), .mv (.tmp 16), none⟩])
 .ret))⟩
def c_scan_number : AFunc := ⟨41, [.tmp 2, .tmp 3],
 (.seq (.ops [⟨(some 2), .mv (.const (.int .i64 0)), none⟩,
   ⟨(some 3), .mv (.const (.bool false)), none⟩])
 (.seq (.ops [⟨(some 4), .mv (.const (.int .i64 10)), none⟩,
   ⟨(some 5), .mv (.const (.int .i64 19)), none⟩])
 (.seq (.ops [⟨(some 11), .mv (.tmp 0), none⟩,
   ⟨(some 6), .mv (.tmp 11), none⟩])
 (.seq (.seq (.ops [⟨(some 13), .mv (.tmp 0), none⟩,
   ⟨(some 14), .call n_strings_CutPrefix [(.tmp 13), (.const (.string ⟨#[48, 120]⟩))], none⟩,
   ⟨(some 12), .mv (.tmp 14), none⟩,
   ⟨(some 15), .extract (.tmp 12) 0, none⟩,
   ⟨(some 16), .extract (.tmp 12) 1, none⟩,
   ⟨(some 7), .mv (.tmp 15), none⟩,
   ⟨(some 8), .mv (.tmp 16), none⟩])
 (.seq (.ops [⟨(some 17), .mv (.tmp 8), none⟩])
 (.cond (.tmp 17) (.ops [⟨(some 18), .mv (.tmp 7), none⟩,
   ⟨(some 4), .mv (.const (.int .i64 16)), none⟩,
   ⟨(some 5), .mv (.const (.int .i64 16)), none⟩,
   ⟨(some 6), .mv (.tmp 18), none⟩]) .skip)))
 (.seq (.seq (.ops [⟨(some 19), .mv (.tmp 6), none⟩,
   ⟨(some 20), .lenStr (.tmp 19), none⟩,
   ⟨(some 21), .mv (.tmp 5), none⟩,
   ⟨(some 22), .bin .gtr (.tmp 20) (.tmp 21), none⟩,
   ⟨(some 23), .mv (.tmp 22), none⟩,
   ⟨(some 24), .mv (.tmp 6), (some (23, false))⟩,
   ⟨(some 25), .call n_strings_Contains [(.tmp 24), (.const (.string ⟨#[95]⟩))], (some (23, false))⟩,
   ⟨(some 26), .pick (.tmp 23) (.const (.bool true)) (.tmp 25), none⟩])
 (.cond (.tmp 26) (.seq (.ops [⟨(some 2), .mv (.const (.int .i64 0)), none⟩,
   ⟨(some 3), .mv (.const (.bool false)), none⟩])
 .ret) .skip))
 (.seq (.ops [⟨(some 28), .mv (.tmp 6), none⟩,
   ⟨(some 29), .mv (.tmp 4), none⟩,
   ⟨(some 30), .call n_strconv_ParseUint [(.tmp 28), (.tmp 29), (.const (.int .i64 64))], none⟩,
   ⟨(some 27), .mv (.tmp 30), none⟩,
   ⟨(some 31), .extract (.tmp 27) 0, none⟩,
   ⟨(some 32), .extract (.tmp 27) 1, none⟩,
   ⟨(some 9), .mv (.tmp 31), none⟩,
   ⟨(some 10), .mv (.tmp 32), none⟩])
 (.seq (.ops [⟨(some 33), .mv (.tmp 9), none⟩,
   ⟨(some 34), .conv .i64 (.tmp 33), none⟩,
   ⟨(some 35), .mv (.tmp 10), none⟩,
   ⟨(some 36), .eqv false .iface (.tmp 35) (.const .nilIface), none⟩,
   ⟨(some 37), .mv (.tmp 36), none⟩,
   ⟨(some 38), .mv (.tmp 9), (some (37, true))⟩,
   ⟨(some 39), .bin .leq (.tmp 38) (.const (.int .u64 9223372036854775808)), (some (37, true))⟩,
   ⟨(some 40), .pick (.tmp 37) (.tmp 39) (.const (.bool false)), none⟩,
   ⟨(some 2), .mv (.tmp 34), none⟩,
   ⟨(some 3), .mv (.tmp 40), none⟩])
 .ret)))))))⟩
def c_scan_Tokens_2 : AFunc := ⟨17, [.tmp 2],
 (.seq (.ops [⟨(some 2), .mv (.const (.bool false)), none⟩])
 (.seq (.ops [⟨(some 3), .mv (.tmp 0), none⟩,
   ⟨(some 4), .call n_scan_letter [(.tmp 3)], none⟩,
   ⟨(some 5), .mv (.tmp 4), none⟩,
   ⟨(some 6), .mv (.tmp 0), (some (5, false))⟩,
   ⟨(some 7), .call n_scan_digit [(.tmp 6)], (some (5, false))⟩,
   ⟨(some 8), .pick (.tmp 5) (.const (.bool true)) (.tmp 7), none⟩,
   ⟨(some 9), .mv (.tmp 8), none⟩,
   ⟨(some 10), .mv (.tmp 0), (some (9, false))⟩,
   ⟨(some 11), .bin .eql (.tmp 10) (.const (.int .u8 95)), (some (9, false))⟩,
   ⟨(some 12), .pick (.tmp 9) (.const (.bool true)) (.tmp 11), none⟩,
   ⟨(some 13), .mv (.tmp 12), none⟩,
   ⟨(some 14), .mv (.tmp 0), (some (13, false))⟩,
   ⟨(some 15), .bin .eql (.tmp 14) (.const (.int .u8 46)), (some (13, false))⟩,
   ⟨(some 16), .pick (.tmp 13) (.const (.bool true)) (.tmp 15), none⟩,
   ⟨(some 2), .mv (.tmp 16), none⟩])
 .ret))⟩
def c_strings_IndexByte : AFunc := ⟨8, [.tmp 4],
 (.seq (.ops [⟨(some 4), .mv (.const (.int .i64 0)), none⟩])
 (.seq (.ops [⟨(some 5), .mv (.tmp 0), none⟩,
   ⟨(some 6), .mv (.tmp 1), none⟩,
   ⟨(some 7), .call n_internal_stringslite_IndexByte [(.tmp 5), (.tmp 6)], none⟩,
   ⟨(some 4), .mv (.tmp 7), none⟩])
 .ret))⟩
def c_belatedref4_blank : AFunc := ⟨80, [.tmp 4, .tmp 5],
 (.seq (.ops [⟨(some 4), .mv (.const (.int .i64 0)), none⟩,
   ⟨(some 5), .mv (.const (.int .i64 0)), none⟩])
 (.seq (.block 0 (.loop (.seq (.seq (.ops [⟨(some 7), .mv (.tmp 1), none⟩,
     ⟨(some 8), .mv (.tmp 0), none⟩,
     ⟨(some 9), .lenStr (.tmp 8), none⟩,
     ⟨(some 10), .bin .lss (.tmp 7) (.tmp 9), none⟩])
   (.cond (.tmp 10) .skip (.exit 0)))
   (.block 1 (.seq (.seq (.ops [⟨(some 11), .mv (.tmp 0), none⟩,
      ⟨(some 12), .mv (.tmp 1), none⟩,
      ⟨(some 13), .idxStr (.tmp 11) (.tmp 12), none⟩,
      ⟨(some 14), .bin .eql (.tmp 13) (.const (.int .u8 32)), none⟩,
      ⟨(some 15), .mv (.tmp 14), none⟩,
      ⟨(some 16), .mv (.tmp 0), (some (15, false))⟩,
      ⟨(some 17), .mv (.tmp 1), (some (15, false))⟩,
      ⟨(some 18), .idxStr (.tmp 16) (.tmp 17), (some (15, false))⟩,
      ⟨(some 19), .bin .eql (.tmp 18) (.const (.int .u8 9)), (some (15, false))⟩,
      ⟨(some 20), .pick (.tmp 15) (.const (.bool true)) (.tmp 19), none⟩,
      ⟨(some 21), .mv (.tmp 20), none⟩,
      ⟨(some 22), .mv (.tmp 0), (some (21, false))⟩,
      ⟨(some 23), .mv (.tmp 1), (some (21, false))⟩,
      ⟨(some 24), .idxStr (.tmp 22) (.tmp 23), (some (21, false))⟩,
      ⟨(some 25), .bin .eql (.tmp 24) (.const (.int .u8 10)), (some (21, false))⟩,
      ⟨(some 26), .pick (.tmp 21) (.const (.bool true)) (.tmp 25), none⟩])
    (.cond (.tmp 26) (.seq (.ops [⟨(some 27), .mv (.tmp 1), none⟩,
      ⟨(some 28), .bin .add (.tmp 27) (.const (.int .i64 1)), none⟩,
      ⟨(some 1), .mv (.tmp 28), none⟩])
    (.exit 1)) .skip))
    (.seq (.seq (.ops [⟨(some 29), .mv (.tmp 0), none⟩,
      ⟨(some 30), .mv (.tmp 1), none⟩,
      ⟨(some 31), .idxStr (.tmp 29) (.tmp 30), none⟩,
      ⟨(some 32), .bin .neq (.tmp 31) (.const (.int .u8 40)), none⟩,
      ⟨(some 33), .mv (.tmp 32), none⟩,
      ⟨(some 34), .mv (.tmp 1), (some (33, false))⟩,
      ⟨(some 35), .bin .add (.tmp 34) (.const (.int .i64 1)), (some (33, false))⟩,
      ⟨(some 36), .mv (.tmp 0), (some (33, false))⟩,
      ⟨(some 37), .lenStr (.tmp 36), (some (33, false))⟩,
      ⟨(some 38), .bin .geq (.tmp 35) (.tmp 37), (some (33, false))⟩,
      ⟨(some 39), .pick (.tmp 33) (.const (.bool true)) (.tmp 38), none⟩,
      ⟨(some 40), .mv (.tmp 39), none⟩,
      ⟨(some 41), .mv (.tmp 0), (some (40, false))⟩,
      ⟨(some 42), .mv (.tmp 1), (some (40, false))⟩,
      ⟨(some 43), .bin .add (.tmp 42) (.const (.int .i64 1)), (some (40, false))⟩,
      ⟨(some 44), .idxStr (.tmp 41) (.tmp 43), (some (40, false))⟩,
      ⟨(some 45), .bin .neq (.tmp 44) (.const (.int .u8 42)), (some (40, false))⟩,
      ⟨(some 46), .pick (.tmp 40) (.const (.bool true)) (.tmp 45), none⟩])
    (.cond (.tmp 46) (.seq (.ops [⟨(some 47), .mv (.tmp 1), none⟩,
      ⟨(some 4), .mv (.tmp 47), none⟩,
      ⟨(some 5), .mv (.const (.int .i64 0)), none⟩])
    .ret) .skip))
    (.seq (.ops [⟨(some 48), .mv (.tmp 1), none⟩,
      ⟨(some 49), .bin .add (.tmp 48) (.const (.int .i64 2)), none⟩,
      ⟨(some 6), .mv (.tmp 49), none⟩])
    (.seq (.block 2 (.loop (.seq (.seq (.ops [⟨(some 50), .mv (.tmp 6), none⟩,
        ⟨(some 51), .bin .add (.tmp 50) (.const (.int .i64 1)), none⟩,
        ⟨(some 52), .mv (.tmp 0), none⟩,
        ⟨(some 53), .lenStr (.tmp 52), none⟩,
        ⟨(some 54), .bin .lss (.tmp 51) (.tmp 53), none⟩,
        ⟨(some 55), .mv (.tmp 54), none⟩,
        ⟨(some 56), .mv (.tmp 0), (some (55, true))⟩,
        ⟨(some 57), .mv (.tmp 6), (some (55, true))⟩,
        ⟨(some 58), .idxStr (.tmp 56) (.tmp 57), (some (55, true))⟩,
        ⟨(some 59), .bin .eql (.tmp 58) (.const (.int .u8 42)), (some (55, true))⟩,
        ⟨(some 60), .mv (.tmp 59), (some (55, true))⟩,
        ⟨(some 61), .mv (.tmp 0), (some (60, true))⟩,
        ⟨(some 62), .mv (.tmp 6), (some (60, true))⟩,
        ⟨(some 63), .bin .add (.tmp 62) (.const (.int .i64 1)), (some (60, true))⟩,
        ⟨(some 64), .idxStr (.tmp 61) (.tmp 63), (some (60, true))⟩,
        ⟨(some 65), .bin .eql (.tmp 64) (.const (.int .u8 41)), (some (60, true))⟩,
        ⟨(some 66), .pick (.tmp 60) (.tmp 65) (.const (.bool false)), (some (55, true))⟩,
        ⟨(some 67), .un .not (.tmp 66), (some (55, true))⟩,
        ⟨(some 68), .pick (.tmp 55) (.tmp 67) (.const (.bool false)), none⟩])
      (.cond (.tmp 68) .skip (.exit 2)))
      (.block 3 (.ops [⟨(some 69), .mv (.tmp 6), none⟩,
         ⟨(some 70), .bin .add (.tmp 69) (.const (.int .i64 1)), none⟩,
         ⟨(some 6), .mv (.tmp 70), none⟩])))))
    (.seq (.seq (.ops [⟨(some 71), .mv (.tmp 6), none⟩,
      ⟨(some 72), .bin .add (.tmp 71) (.const (.int .i64 1)), none⟩,
      ⟨(some 73), .mv (.tmp 0), none⟩,
      ⟨(some 74), .lenStr (.tmp 73), none⟩,
      ⟨(some 75), .bin .geq (.tmp 72) (.tmp 74), none⟩])
    (.cond (.tmp 75) (.seq (.ops [⟨(some 76), .mv (.tmp 1), none⟩,
      ⟨(some 4), .mv (.tmp 76), none⟩,
      ⟨(some 5), .mv (.const (.int .i64 24)), none⟩])
    .ret) .skip))
    (.ops [⟨(some 77), .mv (.tmp 6), none⟩,
      ⟨(some 78), .bin .add (.tmp 77) (.const (.int .i64 2)), none⟩,
      ⟨(some 1), .mv (.tmp 78), none⟩]))))))))))
 (.seq (.ops [⟨(some 79), .mv (.tmp 1), none⟩,
   ⟨(some 4), .mv (.tmp 79), none⟩,
   ⟨(some 5), .mv (.const (.int .i64 0)), none⟩])
 .ret)))⟩
def c_belatedref4_digit : AFunc := ⟨9, [.tmp 2],
 (.seq (.ops [⟨(some 2), .mv (.const (.bool false)), none⟩])
 (.seq (.ops [⟨(some 3), .mv (.tmp 0), none⟩,
   ⟨(some 4), .bin .geq (.tmp 3) (.const (.int .u8 48)), none⟩,
   ⟨(some 5), .mv (.tmp 4), none⟩,
   ⟨(some 6), .mv (.tmp 0), (some (5, true))⟩,
   ⟨(some 7), .bin .leq (.tmp 6) (.const (.int .u8 57)), (some (5, true))⟩,
   ⟨(some 8), .pick (.tmp 5) (.tmp 7) (.const (.bool false)), none⟩,
   ⟨(some 2), .mv (.tmp 8), none⟩])
 .ret))⟩
def c_belatedref4_run : AFunc := ⟨41, [.tmp 6],
 (.seq (.ops [⟨(some 6), .mv (.const (.int .i64 0)), none⟩])
 (.seq (.block 0 (.loop (.seq (.seq (.ops [⟨(some 7), .mv (.tmp 1), none⟩,
     ⟨(some 8), .mv (.tmp 0), none⟩,
     ⟨(some 9), .lenStr (.tmp 8), none⟩,
     ⟨(some 10), .bin .lss (.tmp 7) (.tmp 9), none⟩,
     ⟨(some 11), .mv (.tmp 10), none⟩,
     ⟨(some 12), .mv (.tmp 0), (some (11, true))⟩,
     ⟨(some 13), .mv (.tmp 1), (some (11, true))⟩,
     ⟨(some 14), .idxStr (.tmp 12) (.tmp 13), (some (11, true))⟩,
     ⟨(some 15), .call n_belatedref4_letter [(.tmp 14)], (some (11, true))⟩,
     ⟨(some 16), .mv (.tmp 15), (some (11, true))⟩,
     ⟨(some 17), .mv (.tmp 0), (some (16, false))⟩,
     ⟨(some 18), .mv (.tmp 1), (some (16, false))⟩,
     ⟨(some 19), .idxStr (.tmp 17) (.tmp 18), (some (16, false))⟩,
     ⟨(some 20), .call n_belatedref4_digit [(.tmp 19)], (some (16, false))⟩,
     ⟨(some 21), .pick (.tmp 16) (.const (.bool true)) (.tmp 20), (some (11, true))⟩,
     ⟨(some 22), .mv (.tmp 21), (some (11, true))⟩,
     ⟨(some 23), .mv (.tmp 2), (some (22, false))⟩,
     ⟨(some 24), .mv (.tmp 23), (some (22, false))⟩,
     ⟨(some 25), .mv (.tmp 0), (some (24, true))⟩,
     ⟨(some 26), .mv (.tmp 1), (some (24, true))⟩,
     ⟨(some 27), .idxStr (.tmp 25) (.tmp 26), (some (24, true))⟩,
     ⟨(some 28), .bin .eql (.tmp 27) (.const (.int .u8 95)), (some (24, true))⟩,
     ⟨(some 29), .mv (.tmp 28), (some (24, true))⟩,
     ⟨(some 30), .mv (.tmp 0), (some (29, false))⟩,
     ⟨(some 31), .mv (.tmp 1), (some (29, false))⟩,
     ⟨(some 32), .idxStr (.tmp 30) (.tmp 31), (some (29, false))⟩,
     ⟨(some 33), .bin .eql (.tmp 32) (.const (.int .u8 46)), (some (29, false))⟩,
     ⟨(some 34), .pick (.tmp 29) (.const (.bool true)) (.tmp 33), (some (24, true))⟩,
     ⟨(some 35), .pick (.tmp 24) (.tmp 34) (.const (.bool false)), (some (22, false))⟩,
     ⟨(some 36), .pick (.tmp 22) (.const (.bool true)) (.tmp 35), (some (11, true))⟩,
     ⟨(some 37), .pick (.tmp 11) (.tmp 36) (.const (.bool false)), none⟩])
   (.cond (.tmp 37) .skip (.exit 0)))
   (.block 1 (.ops [⟨(some 38), .mv (.tmp 1), none⟩,
      ⟨(some 39), .bin .add (.tmp 38) (.const (.int .i64 1)), none⟩,
      ⟨(some 1), .mv (.tmp 39), none⟩])))))
 (.seq (.ops [⟨(some 40), .mv (.tmp 1), none⟩,
   ⟨(some 6), .mv (.tmp 40), none⟩])
 .ret)))⟩
def c_belatedref4_Value : AFunc := ⟨69, [.tmp 2, .tmp 3],
 (.seq (.ops [⟨(some 2), .mv (.const (.int .i64 0)), none⟩,
   ⟨(some 3), .mv (.const (.bool false)), none⟩])
 (.seq (.ops [⟨(some 4), .mv (.const (.int .i64 10)), none⟩])
 (.seq (.ops [⟨(some 5), .mv (.const (.int .i64 19)), none⟩])
 (.seq (.seq (.ops [⟨(some 9), .mv (.tmp 0), none⟩,
   ⟨(some 10), .lenStr (.tmp 9), none⟩,
   ⟨(some 11), .bin .gtr (.tmp 10) (.const (.int .i64 2)), none⟩,
   ⟨(some 12), .mv (.tmp 11), none⟩,
   ⟨(some 13), .mv (.tmp 0), (some (12, true))⟩,
   ⟨(some 14), .idxStr (.tmp 13) (.const (.int .i64 0)), (some (12, true))⟩,
   ⟨(some 15), .bin .eql (.tmp 14) (.const (.int .u8 48)), (some (12, true))⟩,
   ⟨(some 16), .pick (.tmp 12) (.tmp 15) (.const (.bool false)), none⟩,
   ⟨(some 17), .mv (.tmp 16), none⟩,
   ⟨(some 18), .mv (.tmp 0), (some (17, true))⟩,
   ⟨(some 19), .idxStr (.tmp 18) (.const (.int .i64 1)), (some (17, true))⟩,
   ⟨(some 20), .bin .eql (.tmp 19) (.const (.int .u8 120)), (some (17, true))⟩,
   ⟨(some 21), .pick (.tmp 17) (.tmp 20) (.const (.bool false)), none⟩])
 (.cond (.tmp 21) (.seq (.ops [⟨(some 4), .mv (.const (.int .i64 16)), none⟩])
 (.seq (.ops [⟨(some 5), .mv (.const (.int .i64 16)), none⟩])
 (.ops [⟨(some 22), .mv (.tmp 0), none⟩,
   ⟨(some 23), .sliceStr (.tmp 22) (some (.const (.int .i64 2))) none, none⟩,
   ⟨(some 0), .mv (.tmp 23), none⟩]))) .skip))
 (.seq (.seq (.ops [⟨(some 24), .mv (.tmp 0), none⟩,
   ⟨(some 25), .lenStr (.tmp 24), none⟩,
   ⟨(some 26), .bin .lss (.tmp 25) (.const (.int .i64 1)), none⟩,
   ⟨(some 27), .mv (.tmp 26), none⟩,
   ⟨(some 28), .mv (.tmp 0), (some (27, false))⟩,
   ⟨(some 29), .lenStr (.tmp 28), (some (27, false))⟩,
   ⟨(some 30), .mv (.tmp 5), (some (27, false))⟩,
   ⟨(some 31), .bin .gtr (.tmp 29) (.tmp 30), (some (27, false))⟩,
   ⟨(some 32), .pick (.tmp 27) (.const (.bool true)) (.tmp 31), none⟩])
 (.cond (.tmp 32) (.seq (.ops [⟨(some 2), .mv (.const (.int .i64 0)), none⟩,
   ⟨(some 3), .mv (.const (.bool false)), none⟩])
 .ret) .skip))
 (.seq (.ops [⟨(some 6), .mv (.const (.int .u64 0)), none⟩])
 (.seq (.seq (.ops [⟨(some 7), .mv (.const (.int .i64 0)), none⟩])
 (.block 0 (.loop (.seq (.seq (.ops [⟨(some 33), .mv (.tmp 7), none⟩,
     ⟨(some 34), .mv (.tmp 0), none⟩,
     ⟨(some 35), .lenStr (.tmp 34), none⟩,
     ⟨(some 36), .bin .lss (.tmp 33) (.tmp 35), none⟩])
   (.cond (.tmp 36) .skip (.exit 0)))
   (.seq (.block 1 (.seq (.ops [⟨(some 39), .mv (.tmp 0), none⟩,
      ⟨(some 40), .mv (.tmp 7), none⟩,
      ⟨(some 41), .idxStr (.tmp 39) (.tmp 40), none⟩,
      ⟨(some 42), .call n_belatedref4_hex [(.tmp 41)], none⟩,
      ⟨(some 8), .mv (.tmp 42), none⟩])
    (.seq (.seq (.ops [⟨(some 43), .mv (.tmp 8), none⟩,
      ⟨(some 44), .bin .lss (.tmp 43) (.const (.int .i64 0)), none⟩,
      ⟨(some 45), .mv (.tmp 44), none⟩,
      ⟨(some 46), .mv (.tmp 8), (some (45, false))⟩,
      ⟨(some 47), .mv (.tmp 4), (some (45, false))⟩,
      ⟨(some 48), .bin .geq (.tmp 46) (.tmp 47), (some (45, false))⟩,
      ⟨(some 49), .pick (.tmp 45) (.const (.bool true)) (.tmp 48), none⟩,
      ⟨(some 50), .mv (.tmp 49), none⟩,
      ⟨(some 51), .mv (.tmp 6), (some (50, false))⟩,
      ⟨(some 52), .mv (.tmp 8), (some (50, false))⟩,
      ⟨(some 53), .conv .u64 (.tmp 52), (some (50, false))⟩,
      ⟨(some 54), .bin .sub (.const (.int .u64 9223372036854775808)) (.tmp 53), (some (50, false))⟩,
      ⟨(some 55), .mv (.tmp 4), (some (50, false))⟩,
      ⟨(some 56), .conv .u64 (.tmp 55), (some (50, false))⟩,
      ⟨(some 57), .bin .quo (.tmp 54) (.tmp 56), (some (50, false))⟩,
      ⟨(some 58), .bin .gtr (.tmp 51) (.tmp 57), (some (50, false))⟩,
      ⟨(some 59), .pick (.tmp 50) (.const (.bool true)) (.tmp 58), none⟩])
    (.cond (.tmp 59) (.seq (.ops [⟨(some 2), .mv (.const (.int .i64 0)), none⟩,
      ⟨(some 3), .mv (.const (.bool false)), none⟩])
    .ret) .skip))
    (.ops [⟨(some 60), .mv (.tmp 6), none⟩,
      ⟨(some 61), .mv (.tmp 4), none⟩,
      ⟨(some 62), .conv .u64 (.tmp 61), none⟩,
      ⟨(some 63), .bin .mul (.tmp 60) (.tmp 62), none⟩,
      ⟨(some 64), .mv (.tmp 8), none⟩,
      ⟨(some 65), .conv .u64 (.tmp 64), none⟩,
      ⟨(some 66), .bin .add (.tmp 63) (.tmp 65), none⟩,
      ⟨(some 6), .mv (.tmp 66), none⟩]))))
   (.ops [⟨(some 37), .mv (.tmp 7), none⟩,
     ⟨(some 38), .bin .add (.tmp 37) (.const (.int .i64 1)), none⟩,
     ⟨(some 7), .mv (.tmp 38), none⟩]))))))
 (.seq (.ops [⟨(some 67), .mv (.tmp 6), none⟩,
   ⟨(some 68), .conv .i64 (.tmp 67), none⟩,
   ⟨(some 2), .mv (.tmp 68), none⟩,
   ⟨(some 3), .mv (.const (.bool true)), none⟩])
 .ret))))))))⟩
def c_belatedref4_letter : AFunc := ⟨17, [.tmp 2],
 (.seq (.ops [⟨(some 2), .mv (.const (.bool false)), none⟩])
 (.seq (.ops [⟨(some 3), .mv (.tmp 0), none⟩,
   ⟨(some 4), .bin .geq (.tmp 3) (.const (.int .u8 97)), none⟩,
   ⟨(some 5), .mv (.tmp 4), none⟩,
   ⟨(some 6), .mv (.tmp 0), (some (5, true))⟩,
   ⟨(some 7), .bin .leq (.tmp 6) (.const (.int .u8 122)), (some (5, true))⟩,
   ⟨(some 8), .pick (.tmp 5) (.tmp 7) (.const (.bool false)), none⟩,
   ⟨(some 9), .mv (.tmp 8), none⟩,
   ⟨(some 10), .mv (.tmp 0), (some (9, false))⟩,
   ⟨(some 11), .bin .geq (.tmp 10) (.const (.int .u8 65)), (some (9, false))⟩,
   ⟨(some 12), .mv (.tmp 11), (some (9, false))⟩,
   ⟨(some 13), .mv (.tmp 0), (some (12, true))⟩,
   ⟨(some 14), .bin .leq (.tmp 13) (.const (.int .u8 90)), (some (12, true))⟩,
   ⟨(some 15), .pick (.tmp 12) (.tmp 14) (.const (.bool false)), (some (9, false))⟩,
   ⟨(some 16), .pick (.tmp 9) (.const (.bool true)) (.tmp 15), none⟩,
   ⟨(some 2), .mv (.tmp 16), none⟩])
 .ret))⟩
def c_belatedref4_mark : AFunc := ⟨12, [.tmp 2],
 (.seq (.ops [⟨(some 2), .mv (.const (.bool false)), none⟩])
 (.seq (.seq (.ops [⟨(some 3), .mv (.const (.int .i64 0)), none⟩])
 (.block 0 (.loop (.seq (.seq (.ops [⟨(some 4), .mv (.tmp 3), none⟩,
     ⟨(some 5), .bin .lss (.tmp 4) (.const (.int .i64 22)), none⟩])
   (.cond (.tmp 5) .skip (.exit 0)))
   (.seq (.block 1 (.seq (.ops [⟨(some 8), .mv (.tmp 3), none⟩,
      ⟨(some 9), .idxStr (.const (.string ⟨#[123, 125, 40, 41, 91, 93, 59, 124, 44, 58, 61, 43, 45, 35, 36, 126, 42, 47, 92, 38, 63, 94]⟩)) (.tmp 8), none⟩,
      ⟨(some 10), .mv (.tmp 0), none⟩,
      ⟨(some 11), .bin .eql (.tmp 9) (.tmp 10), none⟩])
    (.cond (.tmp 11) (.seq (.ops [⟨(some 2), .mv (.const (.bool true)), none⟩])
    .ret) .skip)))
   (.ops [⟨(some 6), .mv (.tmp 3), none⟩,
     ⟨(some 7), .bin .add (.tmp 6) (.const (.int .i64 1)), none⟩,
     ⟨(some 3), .mv (.tmp 7), none⟩]))))))
 (.seq (.ops [⟨(some 2), .mv (.const (.bool false)), none⟩])
 .ret)))⟩
def c_slices_Clone_api_Token_api_Token : AFunc := ⟨8, [.tmp 2],
 (.seq (.ops [⟨(some 2), .mv (.const (.slice none 0 0)), none⟩])
 (.seq (.seq (.ops [⟨(some 3), .mv (.tmp 0), none⟩,
   ⟨(some 4), .eqv false .slice (.tmp 3) (.const (.slice none 0 0)), none⟩])
 (.cond (.tmp 4) (.seq (.ops [⟨(some 2), .mv (.const (.slice none 0 0)), none⟩])
 .ret) .skip))
 (.seq (.ops [⟨(some 5), .mkRow [(.int .i64 0), (.string ⟨#[]⟩), (.int .i64 0), (.int .i64 0)] 0 [], none⟩,
   ⟨(some 6), .mv (.tmp 0), none⟩,
   ⟨(some 7), .append 4 40 (.tmp 5) (.tmp 6), none⟩,
   ⟨(some 2), .mv (.tmp 7), none⟩])
 .ret)))⟩
def c_internal_stringslite_HasPrefix : AFunc := ⟨18, [.tmp 4],
 (.seq (.ops [⟨(some 4), .mv (.const (.bool false)), none⟩])
 (.seq (.ops [⟨(some 5), .mv (.tmp 0), none⟩,
   ⟨(some 6), .lenStr (.tmp 5), none⟩,
   ⟨(some 7), .mv (.tmp 1), none⟩,
   ⟨(some 8), .lenStr (.tmp 7), none⟩,
   ⟨(some 9), .bin .geq (.tmp 6) (.tmp 8), none⟩,
   ⟨(some 10), .mv (.tmp 9), none⟩,
   ⟨(some 11), .mv (.tmp 0), (some (10, true))⟩,
   ⟨(some 12), .mv (.tmp 1), (some (10, true))⟩,
   ⟨(some 13), .lenStr (.tmp 12), (some (10, true))⟩,
   ⟨(some 14), .sliceStr (.tmp 11) none (some (.tmp 13)), (some (10, true))⟩,
   ⟨(some 15), .mv (.tmp 1), (some (10, true))⟩,
   ⟨(some 16), .bin .eql (.tmp 14) (.tmp 15), (some (10, true))⟩,
   ⟨(some 17), .pick (.tmp 10) (.tmp 16) (.const (.bool false)), none⟩,
   ⟨(some 4), .mv (.tmp 17), none⟩])
 .ret))⟩
def c_strings_CutPrefix : AFunc := ⟨11, [.tmp 4, .tmp 5],
 (.seq (.ops [⟨(some 4), .mv (.const (.string ⟨#[]⟩)), none⟩,
   ⟨(some 5), .mv (.const (.bool false)), none⟩])
 (.seq (.ops [⟨(some 6), .mv (.tmp 0), none⟩,
   ⟨(some 7), .mv (.tmp 1), none⟩,
   ⟨(some 8), .call n_internal_stringslite_CutPrefix [(.tmp 6), (.tmp 7)], none⟩,
   ⟨(some 9), .extract (.tmp 8) 0, none⟩,
   ⟨(some 10), .extract (.tmp 8) 1, none⟩,
   ⟨(some 4), .mv (.tmp 9), none⟩,
   ⟨(some 5), .mv (.tmp 10), none⟩])
 .ret))⟩
def c_strings_Contains : AFunc := ⟨9, [.tmp 4],
 (.seq (.ops [⟨(some 4), .mv (.const (.bool false)), none⟩])
 (.seq (.ops [⟨(some 5), .mv (.tmp 0), none⟩,
   ⟨(some 6), .mv (.tmp 1), none⟩,
   ⟨(some 7), .call n_strings_Index [(.tmp 5), (.tmp 6)], none⟩,
   ⟨(some 8), .bin .geq (.tmp 7) (.const (.int .i64 0)), none⟩,
   ⟨(some 4), .mv (.tmp 8), none⟩])
 .ret))⟩
def c_strconv_ParseUint : AFunc := ⟨26, [.tmp 6, .tmp 7],
 (.seq (.ops [⟨(some 6), .mv (.const (.int .u64 0)), none⟩,
   ⟨(some 7), .mv (.const .nilIface), none⟩])
 (.seq (.ops [⟨(some 11), .mv (.tmp 0), none⟩,
   ⟨(some 12), .mv (.tmp 1), none⟩,
   ⟨(some 13), .mv (.tmp 2), none⟩,
   ⟨(some 14), .call n_internal_strconv_ParseUint [(.tmp 11), (.tmp 12), (.tmp 13)], none⟩,
   ⟨(some 10), .mv (.tmp 14), none⟩,
   ⟨(some 15), .extract (.tmp 10) 0, none⟩,
   ⟨(some 16), .extract (.tmp 10) 1, none⟩,
   ⟨(some 8), .mv (.tmp 15), none⟩,
   ⟨(some 9), .mv (.tmp 16), none⟩])
 (.seq (.seq (.ops [⟨(some 17), .mv (.tmp 9), none⟩,
   ⟨(some 18), .eqv true .iface (.tmp 17) (.const .nilIface), none⟩])
 (.cond (.tmp 18) (.seq (.ops [⟨(some 19), .mv (.tmp 8), none⟩,
   ⟨(some 20), .mv (.tmp 0), none⟩,
   ⟨(some 21), .mv (.tmp 1), none⟩,
   ⟨(some 22), .mv (.tmp 2), none⟩,
   ⟨(some 23), .mv (.tmp 9), none⟩,
   ⟨(some 24), .call n_strconv_toError [(.const (.string ⟨#[80, 97, 114, 115, 101, 85, 105, 110, 116]⟩)), (.tmp 20), (.tmp 21), (.tmp 22), (.tmp 23)], none⟩,
   ⟨(some 6), .mv (.tmp 19), none⟩,
   ⟨(some 7), .mv (.tmp 24), none⟩])
 .ret) .skip))
 (.seq (.ops [⟨(some 25), .mv (.tmp 8), none⟩,
   ⟨(some 6), .mv (.tmp 25), none⟩,
   ⟨(some 7), .mv (.const .nilIface), none⟩])
 .ret))))⟩
def c_belatedref4_hex : AFunc := ⟨31, [.tmp 2],
 (.seq (.ops [⟨(some 2), .mv (.const (.int .i64 0)), none⟩])
 (.seq (.block 0 (.seq (.ops [⟨(some 4), .mv (.tmp 0), none⟩,
    ⟨(some 5), .call n_belatedref4_digit [(.tmp 4)], none⟩,
    ⟨(some 3), .mv (.tmp 5), none⟩])
  (.cond (.tmp 3) (.seq (.ops [⟨(some 6), .mv (.tmp 0), none⟩,
    ⟨(some 7), .bin .sub (.tmp 6) (.const (.int .u8 48)), none⟩,
    ⟨(some 8), .conv .i64 (.tmp 7), none⟩,
    ⟨(some 2), .mv (.tmp 8), none⟩])
  .ret) (.seq (.ops [⟨(some 10), .mv (.tmp 0), none⟩,
    ⟨(some 11), .bin .geq (.tmp 10) (.const (.int .u8 97)), none⟩,
    ⟨(some 12), .mv (.tmp 11), none⟩,
    ⟨(some 13), .mv (.tmp 0), (some (12, true))⟩,
    ⟨(some 14), .bin .leq (.tmp 13) (.const (.int .u8 102)), (some (12, true))⟩,
    ⟨(some 15), .pick (.tmp 12) (.tmp 14) (.const (.bool false)), none⟩,
    ⟨(some 9), .mv (.tmp 15), none⟩])
  (.cond (.tmp 9) (.seq (.ops [⟨(some 16), .mv (.tmp 0), none⟩,
    ⟨(some 17), .bin .sub (.tmp 16) (.const (.int .u8 97)), none⟩,
    ⟨(some 18), .conv .i64 (.tmp 17), none⟩,
    ⟨(some 19), .bin .add (.tmp 18) (.const (.int .i64 10)), none⟩,
    ⟨(some 2), .mv (.tmp 19), none⟩])
  .ret) (.seq (.ops [⟨(some 21), .mv (.tmp 0), none⟩,
    ⟨(some 22), .bin .geq (.tmp 21) (.const (.int .u8 65)), none⟩,
    ⟨(some 23), .mv (.tmp 22), none⟩,
    ⟨(some 24), .mv (.tmp 0), (some (23, true))⟩,
    ⟨(some 25), .bin .leq (.tmp 24) (.const (.int .u8 70)), (some (23, true))⟩,
    ⟨(some 26), .pick (.tmp 23) (.tmp 25) (.const (.bool false)), none⟩,
    ⟨(some 20), .mv (.tmp 26), none⟩])
  (.cond (.tmp 20) (.seq (.ops [⟨(some 27), .mv (.tmp 0), none⟩,
    ⟨(some 28), .bin .sub (.tmp 27) (.const (.int .u8 65)), none⟩,
    ⟨(some 29), .conv .i64 (.tmp 28), none⟩,
    ⟨(some 30), .bin .add (.tmp 29) (.const (.int .i64 10)), none⟩,
    ⟨(some 2), .mv (.tmp 30), none⟩])
  .ret) .skip)))))))
 (.seq (.ops [⟨(some 2), .mv (.const (.int .i64 (-1))), none⟩])
 .ret)))⟩
def c_internal_bytealg_Cutover : AFunc := ⟨6, [.tmp 2],
 (.seq (.ops [⟨(some 2), .mv (.const (.int .i64 0)), none⟩])
 (.seq (.ops [⟨(some 3), .mv (.tmp 0), none⟩,
   ⟨(some 4), .bin .add (.tmp 3) (.const (.int .i64 16)), none⟩,
   ⟨(some 5), .bin .quo (.tmp 4) (.const (.int .i64 8)), none⟩,
   ⟨(some 2), .mv (.tmp 5), none⟩])
 .ret))⟩
def c_internal_bytealg_IndexRabinKarp_string : AFunc := ⟨81, [.tmp 4],
 (.seq (.ops [⟨(some 4), .mv (.const (.int .i64 0)), none⟩])
 (.seq (.ops [⟨(some 12), .mv (.tmp 1), none⟩,
   ⟨(some 13), .call n_internal_bytealg_hashStr_string [(.tmp 12)], none⟩,
   ⟨(some 11), .mv (.tmp 13), none⟩,
   ⟨(some 14), .extract (.tmp 11) 0, none⟩,
   ⟨(some 15), .extract (.tmp 11) 1, none⟩,
   ⟨(some 5), .mv (.tmp 14), none⟩,
   ⟨(some 6), .mv (.tmp 15), none⟩])
 (.seq (.ops [⟨(some 16), .mv (.tmp 1), none⟩,
   ⟨(some 17), .lenStr (.tmp 16), none⟩,
   ⟨(some 7), .mv (.tmp 17), none⟩])
 (.seq (.ops [⟨(some 8), .mv (.const (.int .u32 0)), none⟩])
 (.seq (.seq (.ops [⟨(some 9), .mv (.const (.int .i64 0)), none⟩])
 (.block 0 (.loop (.seq (.seq (.ops [⟨(some 18), .mv (.tmp 9), none⟩,
     ⟨(some 19), .mv (.tmp 7), none⟩,
     ⟨(some 20), .bin .lss (.tmp 18) (.tmp 19), none⟩])
   (.cond (.tmp 20) .skip (.exit 0)))
   (.seq (.block 1 (.ops [⟨(some 23), .mv (.tmp 8), none⟩,
      ⟨(some 24), .bin .mul (.tmp 23) (.const (.int .u32 16777619)), none⟩,
      ⟨(some 25), .mv (.tmp 0), none⟩,
      ⟨(some 26), .mv (.tmp 9), none⟩,
      ⟨(some 27), .idxStr (.tmp 25) (.tmp 26), none⟩,
      ⟨(some 28), .conv .u32 (.tmp 27), none⟩,
      ⟨(some 29), .bin .add (.tmp 24) (.tmp 28), none⟩,
      ⟨(some 8), .mv (.tmp 29), none⟩]))
   (.ops [⟨(some 21), .mv (.tmp 9), none⟩,
     ⟨(some 22), .bin .add (.tmp 21) (.const (.int .i64 1)), none⟩,
     ⟨(some 9), .mv (.tmp 22), none⟩]))))))
 (.seq (.seq (.ops [⟨(some 30), .mv (.tmp 8), none⟩,
   ⟨(some 31), .mv (.tmp 5), none⟩,
   ⟨(some 32), .bin .eql (.tmp 30) (.tmp 31), none⟩,
   ⟨(some 33), .mv (.tmp 32), none⟩,
   ⟨(some 34), .mv (.tmp 0), (some (33, true))⟩,
   ⟨(some 35), .mv (.tmp 7), (some (33, true))⟩,
   ⟨(some 36), .sliceStr (.tmp 34) none (some (.tmp 35)), (some (33, true))⟩,
   ⟨(some 37), .mv (.tmp 1), (some (33, true))⟩,
   ⟨(some 38), .bin .eql (.tmp 36) (.tmp 37), (some (33, true))⟩,
   ⟨(some 39), .pick (.tmp 33) (.tmp 38) (.const (.bool false)), none⟩])
 (.cond (.tmp 39) (.seq (.ops [⟨(some 4), .mv (.const (.int .i64 0)), none⟩])
 .ret) .skip))
 (.seq (.seq (.ops [⟨(some 40), .mv (.tmp 7), none⟩,
   ⟨(some 10), .mv (.tmp 40), none⟩])
 (.block 2 (.loop (.seq (.seq (.ops [⟨(some 41), .mv (.tmp 10), none⟩,
     ⟨(some 42), .mv (.tmp 0), none⟩,
     ⟨(some 43), .lenStr (.tmp 42), none⟩,
     ⟨(some 44), .bin .lss (.tmp 41) (.tmp 43), none⟩])
   (.cond (.tmp 44) .skip (.exit 2)))
   (.block 3 (.seq (.ops [⟨(some 45), .mv (.tmp 8), none⟩,
      ⟨(some 46), .bin .mul (.tmp 45) (.const (.int .u32 16777619)), none⟩,
      ⟨(some 8), .mv (.tmp 46), none⟩])
    (.seq (.ops [⟨(some 47), .mv (.tmp 8), none⟩,
      ⟨(some 48), .mv (.tmp 0), none⟩,
      ⟨(some 49), .mv (.tmp 10), none⟩,
      ⟨(some 50), .idxStr (.tmp 48) (.tmp 49), none⟩,
      ⟨(some 51), .conv .u32 (.tmp 50), none⟩,
      ⟨(some 52), .bin .add (.tmp 47) (.tmp 51), none⟩,
      ⟨(some 8), .mv (.tmp 52), none⟩])
    (.seq (.ops [⟨(some 53), .mv (.tmp 8), none⟩,
      ⟨(some 54), .mv (.tmp 6), none⟩,
      ⟨(some 55), .mv (.tmp 0), none⟩,
      ⟨(some 56), .mv (.tmp 10), none⟩,
      ⟨(some 57), .mv (.tmp 7), none⟩,
      ⟨(some 58), .bin .sub (.tmp 56) (.tmp 57), none⟩,
      ⟨(some 59), .idxStr (.tmp 55) (.tmp 58), none⟩,
      ⟨(some 60), .conv .u32 (.tmp 59), none⟩,
      ⟨(some 61), .bin .mul (.tmp 54) (.tmp 60), none⟩,
      ⟨(some 62), .bin .sub (.tmp 53) (.tmp 61), none⟩,
      ⟨(some 8), .mv (.tmp 62), none⟩])
    (.seq (.ops [⟨(some 63), .mv (.tmp 10), none⟩,
      ⟨(some 64), .bin .add (.tmp 63) (.const (.int .i64 1)), none⟩,
      ⟨(some 10), .mv (.tmp 64), none⟩])
    (.seq (.ops [⟨(some 65), .mv (.tmp 8), none⟩,
      ⟨(some 66), .mv (.tmp 5), none⟩,
      ⟨(some 67), .bin .eql (.tmp 65) (.tmp 66), none⟩,
      ⟨(some 68), .mv (.tmp 67), none⟩,
      ⟨(some 69), .mv (.tmp 0), (some (68, true))⟩,
      ⟨(some 70), .mv (.tmp 10), (some (68, true))⟩,
      ⟨(some 71), .mv (.tmp 7), (some (68, true))⟩,
      ⟨(some 72), .bin .sub (.tmp 70) (.tmp 71), (some (68, true))⟩,
      ⟨(some 73), .mv (.tmp 10), (some (68, true))⟩,
      ⟨(some 74), .sliceStr (.tmp 69) (some (.tmp 72)) (some (.tmp 73)), (some (68, true))⟩,
      ⟨(some 75), .mv (.tmp 1), (some (68, true))⟩,
      ⟨(some 76), .bin .eql (.tmp 74) (.tmp 75), (some (68, true))⟩,
      ⟨(some 77), .pick (.tmp 68) (.tmp 76) (.const (.bool false)), none⟩])
    (.cond (.tmp 77) (.seq (.ops [⟨(some 78), .mv (.tmp 10), none⟩,
      ⟨(some 79), .mv (.tmp 7), none⟩,
      ⟨(some 80), .bin .sub (.tmp 78) (.tmp 79), none⟩,
      ⟨(some 4), .mv (.tmp 80), none⟩])
    .ret) .skip)))))))))))
 (.seq (.ops [⟨(some 4), .mv (.const (.int .i64 (-1))), none⟩])
 .ret))))))))⟩
def c_internal_stringslite_CutPrefix : AFunc := ⟨15, [.tmp 4, .tmp 5],
 (.seq (.ops [⟨(some 4), .mv (.const (.string ⟨#[]⟩)), none⟩,
   ⟨(some 5), .mv (.const (.bool false)), none⟩])
 (.seq (.seq (.ops [⟨(some 6), .mv (.tmp 0), none⟩,
   ⟨(some 7), .mv (.tmp 1), none⟩,
   ⟨(some 8), .call n_internal_stringslite_HasPrefix [(.tmp 6), (.tmp 7)], none⟩,
   ⟨(some 9), .un .not (.tmp 8), none⟩])
 (.cond (.tmp 9) (.seq (.ops [⟨(some 10), .mv (.tmp 0), none⟩,
   ⟨(some 4), .mv (.tmp 10), none⟩,
   ⟨(some 5), .mv (.const (.bool false)), none⟩])
 .ret) .skip))
 (.seq (.ops [⟨(some 11), .mv (.tmp 0), none⟩,
   ⟨(some 12), .mv (.tmp 1), none⟩,
   ⟨(some 13), .lenStr (.tmp 12), none⟩,
   ⟨(some 14), .sliceStr (.tmp 11) (some (.tmp 13)) none, none⟩,
   ⟨(some 4), .mv (.tmp 14), none⟩,
   ⟨(some 5), .mv (.const (.bool true)), none⟩])
 .ret)))⟩
def c_internal_bytealg_hashStr_string : AFunc := ⟨39, [.tmp 2, .tmp 3],
 (.seq (.ops [⟨(some 2), .mv (.const (.int .u32 0)), none⟩,
   ⟨(some 3), .mv (.const (.int .u32 0)), none⟩])
 (.seq (.ops [⟨(some 4), .mv (.const (.int .u32 0)), none⟩])
 (.seq (.seq (.ops [⟨(some 5), .mv (.const (.int .i64 0)), none⟩])
 (.block 0 (.loop (.seq (.seq (.ops [⟨(some 9), .mv (.tmp 5), none⟩,
     ⟨(some 10), .mv (.tmp 0), none⟩,
     ⟨(some 11), .lenStr (.tmp 10), none⟩,
     ⟨(some 12), .bin .lss (.tmp 9) (.tmp 11), none⟩])
   (.cond (.tmp 12) .skip (.exit 0)))
   (.seq (.block 1 (.ops [⟨(some 15), .mv (.tmp 4), none⟩,
      ⟨(some 16), .bin .mul (.tmp 15) (.const (.int .u32 16777619)), none⟩,
      ⟨(some 17), .mv (.tmp 0), none⟩,
      ⟨(some 18), .mv (.tmp 5), none⟩,
      ⟨(some 19), .idxStr (.tmp 17) (.tmp 18), none⟩,
      ⟨(some 20), .conv .u32 (.tmp 19), none⟩,
      ⟨(some 21), .bin .add (.tmp 16) (.tmp 20), none⟩,
      ⟨(some 4), .mv (.tmp 21), none⟩]))
   (.ops [⟨(some 13), .mv (.tmp 5), none⟩,
     ⟨(some 14), .bin .add (.tmp 13) (.const (.int .i64 1)), none⟩,
     ⟨(some 5), .mv (.tmp 14), none⟩]))))))
 (.seq (.ops [⟨(some 6), .mv (.const (.int .u32 1)), none⟩,
   ⟨(some 7), .mv (.const (.int .u32 16777619)), none⟩])
 (.seq (.seq (.ops [⟨(some 22), .mv (.tmp 0), none⟩,
   ⟨(some 23), .lenStr (.tmp 22), none⟩,
   ⟨(some 8), .mv (.tmp 23), none⟩])
 (.block 2 (.loop (.seq (.seq (.ops [⟨(some 24), .mv (.tmp 8), none⟩,
     ⟨(some 25), .bin .gtr (.tmp 24) (.const (.int .i64 0)), none⟩])
   (.cond (.tmp 25) .skip (.exit 2)))
   (.seq (.block 3 (.seq (.seq (.ops [⟨(some 28), .mv (.tmp 8), none⟩,
      ⟨(some 29), .bin .and (.tmp 28) (.const (.int .i64 1)), none⟩,
      ⟨(some 30), .bin .neq (.tmp 29) (.const (.int .i64 0)), none⟩])
    (.cond (.tmp 30) (.ops [⟨(some 31), .mv (.tmp 6), none⟩,
      ⟨(some 32), .mv (.tmp 7), none⟩,
      ⟨(some 33), .bin .mul (.tmp 31) (.tmp 32), none⟩,
      ⟨(some 6), .mv (.tmp 33), none⟩]) .skip))
    (.ops [⟨(some 34), .mv (.tmp 7), none⟩,
      ⟨(some 35), .mv (.tmp 7), none⟩,
      ⟨(some 36), .bin .mul (.tmp 34) (.tmp 35), none⟩,
      ⟨(some 7), .mv (.tmp 36), none⟩])))
   (.ops [⟨(some 26), .mv (.tmp 8), none⟩,
     ⟨(some 27), .bin .shr (.tmp 26) (.const (.int .u64 1)), none⟩,
     ⟨(some 8), .mv (.tmp 27), none⟩]))))))
 (.seq (.ops [⟨(some 37), .mv (.tmp 4), none⟩,
   ⟨(some 38), .mv (.tmp 6), none⟩,
   ⟨(some 2), .mv (.tmp 37), none⟩,
   ⟨(some 3), .mv (.tmp 38), none⟩])
 .ret))))))⟩
def c_internal_strconv_lower : AFunc := ⟨5, [.tmp 2],
 (.seq (.ops [⟨(some 2), .mv (.const (.int .u8 0)), none⟩])
 (.seq (.ops [⟨(some 3), .mv (.tmp 0), none⟩,
   ⟨(some 4), .bin .or (.tmp 3) (.const (.int .u8 32)), none⟩,
   ⟨(some 2), .mv (.tmp 4), none⟩])
 .ret))⟩
def c_internal_strconv_underscoreOK : AFunc := ⟨94, [.tmp 2],
 (.seq (.ops [⟨(some 2), .mv (.const (.bool false)), none⟩])
 (.seq (.ops [⟨(some 3), .mv (.const (.int .i32 94)), none⟩])
 (.seq (.ops [⟨(some 4), .mv (.const (.int .i64 0)), none⟩])
 (.seq (.seq (.ops [⟨(some 6), .mv (.tmp 0), none⟩,
   ⟨(some 7), .lenStr (.tmp 6), none⟩,
   ⟨(some 8), .bin .geq (.tmp 7) (.const (.int .i64 1)), none⟩,
   ⟨(some 9), .mv (.tmp 8), none⟩,
   ⟨(some 10), .mv (.tmp 0), (some (9, true))⟩,
   ⟨(some 11), .idxStr (.tmp 10) (.const (.int .i64 0)), (some (9, true))⟩,
   ⟨(some 12), .bin .eql (.tmp 11) (.const (.int .u8 45)), (some (9, true))⟩,
   ⟨(some 13), .mv (.tmp 12), (some (9, true))⟩,
   ⟨(some 14), .mv (.tmp 0), (some (13, false))⟩,
   ⟨(some 15), .idxStr (.tmp 14) (.const (.int .i64 0)), (some (13, false))⟩,
   ⟨(some 16), .bin .eql (.tmp 15) (.const (.int .u8 43)), (some (13, false))⟩,
   ⟨(some 17), .pick (.tmp 13) (.const (.bool true)) (.tmp 16), (some (9, true))⟩,
   ⟨(some 18), .pick (.tmp 9) (.tmp 17) (.const (.bool false)), none⟩])
 (.cond (.tmp 18) (.ops [⟨(some 19), .mv (.tmp 0), none⟩,
   ⟨(some 20), .sliceStr (.tmp 19) (some (.const (.int .i64 1))) none, none⟩,
   ⟨(some 0), .mv (.tmp 20), none⟩]) .skip))
 (.seq (.ops [⟨(some 5), .mv (.const (.bool false)), none⟩])
 (.seq (.seq (.ops [⟨(some 21), .mv (.tmp 0), none⟩,
   ⟨(some 22), .lenStr (.tmp 21), none⟩,
   ⟨(some 23), .bin .geq (.tmp 22) (.const (.int .i64 2)), none⟩,
   ⟨(some 24), .mv (.tmp 23), none⟩,
   ⟨(some 25), .mv (.tmp 0), (some (24, true))⟩,
   ⟨(some 26), .idxStr (.tmp 25) (.const (.int .i64 0)), (some (24, true))⟩,
   ⟨(some 27), .bin .eql (.tmp 26) (.const (.int .u8 48)), (some (24, true))⟩,
   ⟨(some 28), .pick (.tmp 24) (.tmp 27) (.const (.bool false)), none⟩,
   ⟨(some 29), .mv (.tmp 28), none⟩,
   ⟨(some 30), .mv (.tmp 0), (some (29, true))⟩,
   ⟨(some 31), .idxStr (.tmp 30) (.const (.int .i64 1)), (some (29, true))⟩,
   ⟨(some 32), .call n_internal_strconv_lower [(.tmp 31)], (some (29, true))⟩,
   ⟨(some 33), .bin .eql (.tmp 32) (.const (.int .u8 98)), (some (29, true))⟩,
   ⟨(some 34), .mv (.tmp 33), (some (29, true))⟩,
   ⟨(some 35), .mv (.tmp 0), (some (34, false))⟩,
   ⟨(some 36), .idxStr (.tmp 35) (.const (.int .i64 1)), (some (34, false))⟩,
   ⟨(some 37), .call n_internal_strconv_lower [(.tmp 36)], (some (34, false))⟩,
   ⟨(some 38), .bin .eql (.tmp 37) (.const (.int .u8 111)), (some (34, false))⟩,
   ⟨(some 39), .pick (.tmp 34) (.const (.bool true)) (.tmp 38), (some (29, true))⟩,
   ⟨(some 40), .mv (.tmp 39), (some (29, true))⟩,
   ⟨(some 41), .mv (.tmp 0), (some (40, false))⟩,
   ⟨(some 42), .idxStr (.tmp 41) (.const (.int .i64 1)), (some (40, false))⟩,
   ⟨(some 43), .call n_internal_strconv_lower [(.tmp 42)], (some (40, false))⟩,
   ⟨(some 44), .bin .eql (.tmp 43) (.const (.int .u8 120)), (some (40, false))⟩,
   ⟨(some 45), .pick (.tmp 40) (.const (.bool true)) (.tmp 44), (some (29, true))⟩,
   ⟨(some 46), .pick (.tmp 29) (.tmp 45) (.const (.bool false)), none⟩])
 (.cond (.tmp 46) (.seq (.ops [⟨(some 4), .mv (.const (.int .i64 2)), none⟩])
 (.seq (.ops [⟨(some 3), .mv (.const (.int .i32 48)), none⟩])
 (.ops [⟨(some 47), .mv (.tmp 0), none⟩,
   ⟨(some 48), .idxStr (.tmp 47) (.const (.int .i64 1)), none⟩,
   ⟨(some 49), .call n_internal_strconv_lower [(.tmp 48)], none⟩,
   ⟨(some 50), .bin .eql (.tmp 49) (.const (.int .u8 120)), none⟩,
   ⟨(some 5), .mv (.tmp 50), none⟩]))) .skip))
 (.seq (.block 0 (.loop (.seq (.seq (.ops [⟨(some 51), .mv (.tmp 4), none⟩,
     ⟨(some 52), .mv (.tmp 0), none⟩,
     ⟨(some 53), .lenStr (.tmp 52), none⟩,
     ⟨(some 54), .bin .lss (.tmp 51) (.tmp 53), none⟩])
   (.cond (.tmp 54) .skip (.exit 0)))
   (.seq (.block 1 (.seq (.seq (.ops [⟨(some 57), .mv (.tmp 0), none⟩,
      ⟨(some 58), .mv (.tmp 4), none⟩,
      ⟨(some 59), .idxStr (.tmp 57) (.tmp 58), none⟩,
      ⟨(some 60), .bin .leq (.const (.int .u8 48)) (.tmp 59), none⟩,
      ⟨(some 61), .mv (.tmp 60), none⟩,
      ⟨(some 62), .mv (.tmp 0), (some (61, true))⟩,
      ⟨(some 63), .mv (.tmp 4), (some (61, true))⟩,
      ⟨(some 64), .idxStr (.tmp 62) (.tmp 63), (some (61, true))⟩,
      ⟨(some 65), .bin .leq (.tmp 64) (.const (.int .u8 57)), (some (61, true))⟩,
      ⟨(some 66), .pick (.tmp 61) (.tmp 65) (.const (.bool false)), none⟩,
      ⟨(some 67), .mv (.tmp 66), none⟩,
      ⟨(some 68), .mv (.tmp 5), (some (67, false))⟩,
      ⟨(some 69), .mv (.tmp 68), (some (67, false))⟩,
      ⟨(some 70), .mv (.tmp 0), (some (69, true))⟩,
      ⟨(some 71), .mv (.tmp 4), (some (69, true))⟩,
      ⟨(some 72), .idxStr (.tmp 70) (.tmp 71), (some (69, true))⟩,
      ⟨(some 73), .call n_internal_strconv_lower [(.tmp 72)], (some (69, true))⟩,
      ⟨(some 74), .bin .leq (.const (.int .u8 97)) (.tmp 73), (some (69, true))⟩,
      ⟨(some 75), .pick (.tmp 69) (.tmp 74) (.const (.bool false)), (some (67, false))⟩,
      ⟨(some 76), .mv (.tmp 75), (some (67, false))⟩,
      ⟨(some 77), .mv (.tmp 0), (some (76, true))⟩,
      ⟨(some 78), .mv (.tmp 4), (some (76, true))⟩,
      ⟨(some 79), .idxStr (.tmp 77) (.tmp 78), (some (76, true))⟩,
      ⟨(some 80), .call n_internal_strconv_lower [(.tmp 79)], (some (76, true))⟩,
      ⟨(some 81), .bin .leq (.tmp 80) (.const (.int .u8 102)), (some (76, true))⟩,
      ⟨(some 82), .pick (.tmp 76) (.tmp 81) (.const (.bool false)), (some (67, false))⟩,
      ⟨(some 83), .pick (.tmp 67) (.const (.bool true)) (.tmp 82), none⟩])
    (.cond (.tmp 83) (.seq (.ops [⟨(some 3), .mv (.const (.int .i32 48)), none⟩])
    (.exit 1)) .skip))
    (.seq (.seq (.ops [⟨(some 84), .mv (.tmp 0), none⟩,
      ⟨(some 85), .mv (.tmp 4), none⟩,
      ⟨(some 86), .idxStr (.tmp 84) (.tmp 85), none⟩,
      ⟨(some 87), .bin .eql (.tmp 86) (.const (.int .u8 95)), none⟩])
    (.cond (.tmp 87) (.seq (.seq (.ops [⟨(some 88), .mv (.tmp 3), none⟩,
      ⟨(some 89), .bin .neq (.tmp 88) (.const (.int .i32 48)), none⟩])
    (.cond (.tmp 89) (.seq (.ops [⟨(some 2), .mv (.const (.bool false)), none⟩])
    .ret) .skip))
    (.seq (.ops [⟨(some 3), .mv (.const (.int .i32 95)), none⟩])
    (.exit 1))) .skip))
    (.seq (.seq (.ops [⟨(some 90), .mv (.tmp 3), none⟩,
      ⟨(some 91), .bin .eql (.tmp 90) (.const (.int .i32 95)), none⟩])
    (.cond (.tmp 91) (.seq (.ops [⟨(some 2), .mv (.const (.bool false)), none⟩])
    .ret) .skip))
    (.ops [⟨(some 3), .mv (.const (.int .i32 33)), none⟩])))))
   (.ops [⟨(some 55), .mv (.tmp 4), none⟩,
     ⟨(some 56), .bin .add (.tmp 55) (.const (.int .i64 1)), none⟩,
     ⟨(some 4), .mv (.tmp 56), none⟩])))))
 (.seq (.ops [⟨(some 92), .mv (.tmp 3), none⟩,
   ⟨(some 93), .bin .neq (.tmp 92) (.const (.int .i32 95)), none⟩,
   ⟨(some 2), .mv (.tmp 93), none⟩])
 .ret))))))))⟩
def c_strconv_syntaxError : AFunc := ⟨11, [.tmp 4],
 (.seq (.ops [⟨(some 4), .mv (.const (.pointer none)), none⟩])
 (.seq (.ops [⟨(some 5), .mv (.tmp 0), none⟩,
   ⟨(some 6), .mv (.tmp 1), none⟩,
   ⟨(some 8), .load1 (.global g_strconv_ErrSyntax), none⟩,
   ⟨(some 7), .call n_internal_stringslite_Clone [(.tmp 6)], none⟩,
   ⟨none, .again1 (.global g_strconv_ErrSyntax) 8, none⟩,
   ⟨(some 9), .build [(.string ⟨#[]⟩), (.string ⟨#[]⟩), .nilIface] [(0, 1, (.tmp 5)), (1, 1, (.tmp 7)), (2, 1, (.tmp 8))], none⟩,
   ⟨(some 10), .box 3 (.tmp 9), none⟩,
   ⟨(some 4), .mv (.tmp 10), none⟩])
 .ret))⟩
def c_strconv_baseError : AFunc := ⟨16, [.tmp 6],
 (.seq (.ops [⟨(some 6), .mv (.const (.pointer none)), none⟩])
 (.seq (.ops [⟨(some 7), .mv (.tmp 0), none⟩,
   ⟨(some 8), .mv (.tmp 1), none⟩,
   ⟨(some 9), .call n_internal_stringslite_Clone [(.tmp 8)], none⟩,
   ⟨(some 10), .mv (.tmp 2), none⟩,
   ⟨(some 11), .call n_strconv_Itoa [(.tmp 10)], none⟩,
   ⟨(some 12), .bin .add (.const (.string ⟨#[105, 110, 118, 97, 108, 105, 100, 32, 98, 97, 115, 101, 32]⟩)) (.tmp 11), none⟩,
   ⟨(some 13), .call n_errors_New [(.tmp 12)], none⟩,
   ⟨(some 14), .build [(.string ⟨#[]⟩), (.string ⟨#[]⟩), .nilIface] [(0, 1, (.tmp 7)), (1, 1, (.tmp 9)), (2, 1, (.tmp 13))], none⟩,
   ⟨(some 15), .box 3 (.tmp 14), none⟩,
   ⟨(some 6), .mv (.tmp 15), none⟩])
 .ret))⟩
def c_strconv_bitSizeError : AFunc := ⟨16, [.tmp 6],
 (.seq (.ops [⟨(some 6), .mv (.const (.pointer none)), none⟩])
 (.seq (.ops [⟨(some 7), .mv (.tmp 0), none⟩,
   ⟨(some 8), .mv (.tmp 1), none⟩,
   ⟨(some 9), .call n_internal_stringslite_Clone [(.tmp 8)], none⟩,
   ⟨(some 10), .mv (.tmp 2), none⟩,
   ⟨(some 11), .call n_strconv_Itoa [(.tmp 10)], none⟩,
   ⟨(some 12), .bin .add (.const (.string ⟨#[105, 110, 118, 97, 108, 105, 100, 32, 98, 105, 116, 32, 115, 105, 122, 101, 32]⟩)) (.tmp 11), none⟩,
   ⟨(some 13), .call n_errors_New [(.tmp 12)], none⟩,
   ⟨(some 14), .build [(.string ⟨#[]⟩), (.string ⟨#[]⟩), .nilIface] [(0, 1, (.tmp 7)), (1, 1, (.tmp 9)), (2, 1, (.tmp 13))], none⟩,
   ⟨(some 15), .box 3 (.tmp 14), none⟩,
   ⟨(some 6), .mv (.tmp 15), none⟩])
 .ret))⟩
def c_errors_New : AFunc := ⟨7, [.tmp 2],
 (.seq (.ops [⟨(some 2), .mv (.const .nilIface), none⟩])
 (.seq (.ops [⟨(some 3), .mv (.tmp 0), none⟩,
   ⟨(some 4), .build [(.string ⟨#[]⟩)] [(0, 1, (.tmp 3))], none⟩,
   ⟨(some 5), .box 1 (.tmp 4), none⟩,
   ⟨(some 6), .iface 75 (.tmp 5), none⟩,
   ⟨(some 2), .mv (.tmp 6), none⟩])
 .ret))⟩
def c_strconv_Itoa : AFunc := ⟨5, [.tmp 2],
 (.seq (.ops [⟨(some 2), .mv (.const (.string ⟨#[]⟩)), none⟩])
 (.seq (.ops [⟨(some 3), .mv (.tmp 0), none⟩,
   ⟨(some 4), .call n_internal_strconv_Itoa [(.tmp 3)], none⟩,
   ⟨(some 2), .mv (.tmp 4), none⟩])
 .ret))⟩
def c_internal_strconv_Itoa : AFunc := ⟨5, [.tmp 2],
 (.seq (.ops [⟨(some 2), .mv (.const (.string ⟨#[]⟩)), none⟩])
 (.seq (.ops [⟨(some 3), .mv (.tmp 0), none⟩,
   ⟨(some 4), .call n_internal_strconv_FormatInt [(.tmp 3), (.const (.int .i64 10))], none⟩,
   ⟨(some 2), .mv (.tmp 4), none⟩])
 .ret))⟩
def c_internal_strconv_small : AFunc := ⟨15, [.tmp 2],
 (.seq (.ops [⟨(some 2), .mv (.const (.string ⟨#[]⟩)), none⟩])
 (.seq (.seq (.ops [⟨(some 3), .mv (.tmp 0), none⟩,
   ⟨(some 4), .bin .lss (.tmp 3) (.const (.int .i64 10)), none⟩])
 (.cond (.tmp 4) (.seq (.ops [⟨(some 5), .mv (.tmp 0), none⟩,
   ⟨(some 6), .mv (.tmp 0), none⟩,
   ⟨(some 7), .bin .add (.tmp 6) (.const (.int .i64 1)), none⟩,
   ⟨(some 8), .sliceStr (.const (.string ⟨#[48, 49, 50, 51, 52, 53, 54, 55, 56, 57, 97, 98, 99, 100, 101, 102, 103, 104, 105, 106, 107, 108, 109, 110, 111, 112, 113, 114, 115, 116, 117, 118, 119, 120, 121, 122]⟩)) (some (.tmp 5)) (some (.tmp 7)), none⟩,
   ⟨(some 2), .mv (.tmp 8), none⟩])
 .ret) .skip))
 (.seq (.ops [⟨(some 9), .mv (.tmp 0), none⟩,
   ⟨(some 10), .bin .mul (.tmp 9) (.const (.int .i64 2)), none⟩,
   ⟨(some 11), .mv (.tmp 0), none⟩,
   ⟨(some 12), .bin .mul (.tmp 11) (.const (.int .i64 2)), none⟩,
   ⟨(some 13), .bin .add (.tmp 12) (.const (.int .i64 2)), none⟩,
   ⟨(some 14), .sliceStr (.const (.string s_200_10500)) (some (.tmp 10)) (some (.tmp 13)), none⟩,
   ⟨(some 2), .mv (.tmp 14), none⟩])
 .ret)))⟩
def c_internal_strconv_formatBase10 : AFunc := ⟨167, [],
 (.seq (.ops [⟨(some 17), .mv (.tmp 0), none⟩,
   ⟨(some 18), .len (.tmp 17), none⟩,
   ⟨(some 4), .mv (.tmp 18), none⟩])
 (.seq (.block 0 (.loop (.seq (.seq (.ops [⟨(some 19), .mv (.tmp 4), none⟩,
     ⟨(some 20), .bin .geq (.tmp 19) (.const (.int .i64 8)), none⟩])
   (.cond (.tmp 20) .skip (.exit 0)))
   (.block 1 (.seq (.ops [⟨(some 21), .mv (.tmp 1), none⟩,
      ⟨(some 22), .bin .rem (.tmp 21) (.const (.int .u64 100000000)), none⟩,
      ⟨(some 23), .conv .u32 (.tmp 22), none⟩,
      ⟨(some 5), .mv (.tmp 23), none⟩])
    (.seq (.ops [⟨(some 24), .mv (.tmp 1), none⟩,
      ⟨(some 25), .bin .quo (.tmp 24) (.const (.int .u64 100000000)), none⟩,
      ⟨(some 1), .mv (.tmp 25), none⟩])
    (.seq (.ops [⟨(some 26), .mv (.tmp 5), none⟩,
      ⟨(some 27), .bin .quo (.tmp 26) (.const (.int .u32 10000)), none⟩,
      ⟨(some 28), .mv (.tmp 5), none⟩,
      ⟨(some 29), .bin .rem (.tmp 28) (.const (.int .u32 10000)), none⟩,
      ⟨(some 6), .mv (.tmp 27), none⟩,
      ⟨(some 7), .mv (.tmp 29), none⟩])
    (.seq (.ops [⟨(some 30), .mv (.tmp 7), none⟩,
      ⟨(some 31), .bin .quo (.tmp 30) (.const (.int .u32 100)), none⟩,
      ⟨(some 32), .bin .mul (.tmp 31) (.const (.int .u32 2)), none⟩,
      ⟨(some 33), .mv (.tmp 7), none⟩,
      ⟨(some 34), .bin .rem (.tmp 33) (.const (.int .u32 100)), none⟩,
      ⟨(some 35), .bin .mul (.tmp 34) (.const (.int .u32 2)), none⟩,
      ⟨(some 8), .mv (.tmp 32), none⟩,
      ⟨(some 9), .mv (.tmp 35), none⟩])
    (.seq (.ops [⟨(some 36), .mv (.tmp 6), none⟩,
      ⟨(some 37), .bin .quo (.tmp 36) (.const (.int .u32 100)), none⟩,
      ⟨(some 38), .bin .mul (.tmp 37) (.const (.int .u32 2)), none⟩,
      ⟨(some 39), .mv (.tmp 6), none⟩,
      ⟨(some 40), .bin .rem (.tmp 39) (.const (.int .u32 100)), none⟩,
      ⟨(some 41), .bin .mul (.tmp 40) (.const (.int .u32 2)), none⟩,
      ⟨(some 10), .mv (.tmp 38), none⟩,
      ⟨(some 11), .mv (.tmp 41), none⟩])
    (.seq (.ops [⟨(some 42), .mv (.tmp 0), none⟩,
      ⟨(some 43), .mv (.tmp 4), none⟩,
      ⟨(some 44), .bin .sub (.tmp 43) (.const (.int .i64 1)), none⟩,
      ⟨(some 45), .mv (.tmp 0), none⟩,
      ⟨(some 46), .mv (.tmp 4), none⟩,
      ⟨(some 47), .bin .sub (.tmp 46) (.const (.int .i64 2)), none⟩,
      ⟨(some 48), .mv (.tmp 9), none⟩,
      ⟨(some 49), .bin .add (.tmp 48) (.const (.int .u32 1)), none⟩,
      ⟨(some 50), .idxStr (.const (.string s_200_10500)) (.tmp 49), none⟩,
      ⟨(some 51), .mv (.tmp 9), none⟩,
      ⟨(some 52), .idxStr (.const (.string s_200_10500)) (.tmp 51), none⟩,
      ⟨(some 53), .atRow 1 (.tmp 42) (.tmp 44), none⟩,
      ⟨none, .store1 (.tmp 53) (.tmp 50), none⟩,
      ⟨(some 54), .atRow 1 (.tmp 45) (.tmp 47), none⟩,
      ⟨none, .store1 (.tmp 54) (.tmp 52), none⟩])
    (.seq (.ops [⟨(some 55), .mv (.tmp 0), none⟩,
      ⟨(some 56), .mv (.tmp 4), none⟩,
      ⟨(some 57), .bin .sub (.tmp 56) (.const (.int .i64 3)), none⟩,
      ⟨(some 58), .mv (.tmp 0), none⟩,
      ⟨(some 59), .mv (.tmp 4), none⟩,
      ⟨(some 60), .bin .sub (.tmp 59) (.const (.int .i64 4)), none⟩,
      ⟨(some 61), .mv (.tmp 8), none⟩,
      ⟨(some 62), .bin .add (.tmp 61) (.const (.int .u32 1)), none⟩,
      ⟨(some 63), .idxStr (.const (.string s_200_10500)) (.tmp 62), none⟩,
      ⟨(some 64), .mv (.tmp 8), none⟩,
      ⟨(some 65), .idxStr (.const (.string s_200_10500)) (.tmp 64), none⟩,
      ⟨(some 66), .atRow 1 (.tmp 55) (.tmp 57), none⟩,
      ⟨none, .store1 (.tmp 66) (.tmp 63), none⟩,
      ⟨(some 67), .atRow 1 (.tmp 58) (.tmp 60), none⟩,
      ⟨none, .store1 (.tmp 67) (.tmp 65), none⟩])
    (.seq (.ops [⟨(some 68), .mv (.tmp 0), none⟩,
      ⟨(some 69), .mv (.tmp 4), none⟩,
      ⟨(some 70), .bin .sub (.tmp 69) (.const (.int .i64 5)), none⟩,
      ⟨(some 71), .mv (.tmp 0), none⟩,
      ⟨(some 72), .mv (.tmp 4), none⟩,
      ⟨(some 73), .bin .sub (.tmp 72) (.const (.int .i64 6)), none⟩,
      ⟨(some 74), .mv (.tmp 11), none⟩,
      ⟨(some 75), .bin .add (.tmp 74) (.const (.int .u32 1)), none⟩,
      ⟨(some 76), .idxStr (.const (.string s_200_10500)) (.tmp 75), none⟩,
      ⟨(some 77), .mv (.tmp 11), none⟩,
      ⟨(some 78), .idxStr (.const (.string s_200_10500)) (.tmp 77), none⟩,
      ⟨(some 79), .atRow 1 (.tmp 68) (.tmp 70), none⟩,
      ⟨none, .store1 (.tmp 79) (.tmp 76), none⟩,
      ⟨(some 80), .atRow 1 (.tmp 71) (.tmp 73), none⟩,
      ⟨none, .store1 (.tmp 80) (.tmp 78), none⟩])
    (.seq (.ops [⟨(some 81), .mv (.tmp 0), none⟩,
      ⟨(some 82), .mv (.tmp 4), none⟩,
      ⟨(some 83), .bin .sub (.tmp 82) (.const (.int .i64 7)), none⟩,
      ⟨(some 84), .mv (.tmp 0), none⟩,
      ⟨(some 85), .mv (.tmp 4), none⟩,
      ⟨(some 86), .bin .sub (.tmp 85) (.const (.int .i64 8)), none⟩,
      ⟨(some 87), .mv (.tmp 10), none⟩,
      ⟨(some 88), .bin .add (.tmp 87) (.const (.int .u32 1)), none⟩,
      ⟨(some 89), .idxStr (.const (.string s_200_10500)) (.tmp 88), none⟩,
      ⟨(some 90), .mv (.tmp 10), none⟩,
      ⟨(some 91), .idxStr (.const (.string s_200_10500)) (.tmp 90), none⟩,
      ⟨(some 92), .atRow 1 (.tmp 81) (.tmp 83), none⟩,
      ⟨none, .store1 (.tmp 92) (.tmp 89), none⟩,
      ⟨(some 93), .atRow 1 (.tmp 84) (.tmp 86), none⟩,
      ⟨none, .store1 (.tmp 93) (.tmp 91), none⟩])
    (.ops [⟨(some 94), .mv (.tmp 4), none⟩,
      ⟨(some 95), .bin .sub (.tmp 94) (.const (.int .i64 8)), none⟩,
      ⟨(some 4), .mv (.tmp 95), none⟩]))))))))))))))
 (.seq (.ops [⟨(some 96), .mv (.tmp 1), none⟩,
   ⟨(some 97), .conv .u32 (.tmp 96), none⟩,
   ⟨(some 12), .mv (.tmp 97), none⟩])
 (.seq (.seq (.ops [⟨(some 98), .mv (.tmp 4), none⟩,
   ⟨(some 99), .bin .geq (.tmp 98) (.const (.int .i64 4)), none⟩])
 (.cond (.tmp 99) (.seq (.ops [⟨(some 100), .mv (.tmp 12), none⟩,
   ⟨(some 101), .bin .rem (.tmp 100) (.const (.int .u32 10000)), none⟩,
   ⟨(some 13), .mv (.tmp 101), none⟩])
 (.seq (.ops [⟨(some 102), .mv (.tmp 12), none⟩,
   ⟨(some 103), .bin .quo (.tmp 102) (.const (.int .u32 10000)), none⟩,
   ⟨(some 12), .mv (.tmp 103), none⟩])
 (.seq (.ops [⟨(some 104), .mv (.tmp 13), none⟩,
   ⟨(some 105), .bin .quo (.tmp 104) (.const (.int .u32 100)), none⟩,
   ⟨(some 106), .bin .mul (.tmp 105) (.const (.int .u32 2)), none⟩,
   ⟨(some 107), .mv (.tmp 13), none⟩,
   ⟨(some 108), .bin .rem (.tmp 107) (.const (.int .u32 100)), none⟩,
   ⟨(some 109), .bin .mul (.tmp 108) (.const (.int .u32 2)), none⟩,
   ⟨(some 14), .mv (.tmp 106), none⟩,
   ⟨(some 15), .mv (.tmp 109), none⟩])
 (.seq (.ops [⟨(some 110), .mv (.tmp 0), none⟩,
   ⟨(some 111), .mv (.tmp 4), none⟩,
   ⟨(some 112), .bin .sub (.tmp 111) (.const (.int .i64 1)), none⟩,
   ⟨(some 113), .mv (.tmp 0), none⟩,
   ⟨(some 114), .mv (.tmp 4), none⟩,
   ⟨(some 115), .bin .sub (.tmp 114) (.const (.int .i64 2)), none⟩,
   ⟨(some 116), .mv (.tmp 15), none⟩,
   ⟨(some 117), .bin .add (.tmp 116) (.const (.int .u32 1)), none⟩,
   ⟨(some 118), .idxStr (.const (.string s_200_10500)) (.tmp 117), none⟩,
   ⟨(some 119), .mv (.tmp 15), none⟩,
   ⟨(some 120), .idxStr (.const (.string s_200_10500)) (.tmp 119), none⟩,
   ⟨(some 121), .atRow 1 (.tmp 110) (.tmp 112), none⟩,
   ⟨none, .store1 (.tmp 121) (.tmp 118), none⟩,
   ⟨(some 122), .atRow 1 (.tmp 113) (.tmp 115), none⟩,
   ⟨none, .store1 (.tmp 122) (.tmp 120), none⟩])
 (.seq (.ops [⟨(some 123), .mv (.tmp 0), none⟩,
   ⟨(some 124), .mv (.tmp 4), none⟩,
   ⟨(some 125), .bin .sub (.tmp 124) (.const (.int .i64 3)), none⟩,
   ⟨(some 126), .mv (.tmp 0), none⟩,
   ⟨(some 127), .mv (.tmp 4), none⟩,
   ⟨(some 128), .bin .sub (.tmp 127) (.const (.int .i64 4)), none⟩,
   ⟨(some 129), .mv (.tmp 14), none⟩,
   ⟨(some 130), .bin .add (.tmp 129) (.const (.int .u32 1)), none⟩,
   ⟨(some 131), .idxStr (.const (.string s_200_10500)) (.tmp 130), none⟩,
   ⟨(some 132), .mv (.tmp 14), none⟩,
   ⟨(some 133), .idxStr (.const (.string s_200_10500)) (.tmp 132), none⟩,
   ⟨(some 134), .atRow 1 (.tmp 123) (.tmp 125), none⟩,
   ⟨none, .store1 (.tmp 134) (.tmp 131), none⟩,
   ⟨(some 135), .atRow 1 (.tmp 126) (.tmp 128), none⟩,
   ⟨none, .store1 (.tmp 135) (.tmp 133), none⟩])
 (.ops [⟨(some 136), .mv (.tmp 4), none⟩,
   ⟨(some 137), .bin .sub (.tmp 136) (.const (.int .i64 4)), none⟩,
   ⟨(some 4), .mv (.tmp 137), none⟩])))))) .skip))
 (.seq (.seq (.ops [⟨(some 138), .mv (.tmp 4), none⟩,
   ⟨(some 139), .bin .geq (.tmp 138) (.const (.int .i64 2)), none⟩])
 (.cond (.tmp 139) (.seq (.ops [⟨(some 140), .mv (.tmp 12), none⟩,
   ⟨(some 141), .bin .rem (.tmp 140) (.const (.int .u32 100)), none⟩,
   ⟨(some 142), .bin .mul (.tmp 141) (.const (.int .u32 2)), none⟩,
   ⟨(some 16), .mv (.tmp 142), none⟩])
 (.seq (.ops [⟨(some 143), .mv (.tmp 12), none⟩,
   ⟨(some 144), .bin .quo (.tmp 143) (.const (.int .u32 100)), none⟩,
   ⟨(some 12), .mv (.tmp 144), none⟩])
 (.seq (.ops [⟨(some 145), .mv (.tmp 0), none⟩,
   ⟨(some 146), .mv (.tmp 4), none⟩,
   ⟨(some 147), .bin .sub (.tmp 146) (.const (.int .i64 1)), none⟩,
   ⟨(some 148), .mv (.tmp 0), none⟩,
   ⟨(some 149), .mv (.tmp 4), none⟩,
   ⟨(some 150), .bin .sub (.tmp 149) (.const (.int .i64 2)), none⟩,
   ⟨(some 151), .mv (.tmp 16), none⟩,
   ⟨(some 152), .bin .add (.tmp 151) (.const (.int .u32 1)), none⟩,
   ⟨(some 153), .idxStr (.const (.string s_200_10500)) (.tmp 152), none⟩,
   ⟨(some 154), .mv (.tmp 16), none⟩,
   ⟨(some 155), .idxStr (.const (.string s_200_10500)) (.tmp 154), none⟩,
   ⟨(some 156), .atRow 1 (.tmp 145) (.tmp 147), none⟩,
   ⟨none, .store1 (.tmp 156) (.tmp 153), none⟩,
   ⟨(some 157), .atRow 1 (.tmp 148) (.tmp 150), none⟩,
   ⟨none, .store1 (.tmp 157) (.tmp 155), none⟩])
 (.ops [⟨(some 158), .mv (.tmp 4), none⟩,
   ⟨(some 159), .bin .sub (.tmp 158) (.const (.int .i64 2)), none⟩,
   ⟨(some 4), .mv (.tmp 159), none⟩])))) .skip))
 (.seq (.ops [⟨(some 160), .mv (.tmp 4), none⟩,
   ⟨(some 161), .bin .gtr (.tmp 160) (.const (.int .i64 0)), none⟩])
 (.cond (.tmp 161) (.ops [⟨(some 162), .mv (.tmp 0), none⟩,
   ⟨(some 163), .mv (.tmp 12), none⟩,
   ⟨(some 164), .bin .add (.const (.int .u32 48)) (.tmp 163), none⟩,
   ⟨(some 165), .conv .u8 (.tmp 164), none⟩,
   ⟨(some 166), .atRow 1 (.tmp 162) (.const (.int .i64 0)), none⟩,
   ⟨none, .store1 (.tmp 166) (.tmp 165), none⟩]) .skip)))))))⟩
def c_internal_strconv_log10Pow2 : AFunc := ⟨6, [.tmp 2],
 (.seq (.ops [⟨(some 2), .mv (.const (.int .i64 0)), none⟩])
 (.seq (.ops [⟨(some 3), .mv (.tmp 0), none⟩,
   ⟨(some 4), .bin .mul (.tmp 3) (.const (.int .i64 78913)), none⟩,
   ⟨(some 5), .bin .shr (.tmp 4) (.const (.int .u64 18)), none⟩,
   ⟨(some 2), .mv (.tmp 5), none⟩])
 .ret))⟩
def c_math_bits_Len64 : AFunc := ⟨25, [.tmp 2],
 (.seq (.ops [⟨(some 2), .mv (.const (.int .i64 0)), none⟩])
 (.seq (.seq (.ops [⟨(some 3), .mv (.tmp 0), none⟩,
   ⟨(some 4), .bin .geq (.tmp 3) (.const (.int .u64 4294967296)), none⟩])
 (.cond (.tmp 4) (.seq (.ops [⟨(some 5), .mv (.tmp 0), none⟩,
   ⟨(some 6), .bin .shr (.tmp 5) (.const (.int .u64 32)), none⟩,
   ⟨(some 0), .mv (.tmp 6), none⟩])
 (.ops [⟨(some 2), .mv (.const (.int .i64 32)), none⟩])) .skip))
 (.seq (.seq (.ops [⟨(some 7), .mv (.tmp 0), none⟩,
   ⟨(some 8), .bin .geq (.tmp 7) (.const (.int .u64 65536)), none⟩])
 (.cond (.tmp 8) (.seq (.ops [⟨(some 9), .mv (.tmp 0), none⟩,
   ⟨(some 10), .bin .shr (.tmp 9) (.const (.int .u64 16)), none⟩,
   ⟨(some 0), .mv (.tmp 10), none⟩])
 (.ops [⟨(some 11), .mv (.tmp 2), none⟩,
   ⟨(some 12), .bin .add (.tmp 11) (.const (.int .i64 16)), none⟩,
   ⟨(some 2), .mv (.tmp 12), none⟩])) .skip))
 (.seq (.seq (.ops [⟨(some 13), .mv (.tmp 0), none⟩,
   ⟨(some 14), .bin .geq (.tmp 13) (.const (.int .u64 256)), none⟩])
 (.cond (.tmp 14) (.seq (.ops [⟨(some 15), .mv (.tmp 0), none⟩,
   ⟨(some 16), .bin .shr (.tmp 15) (.const (.int .u64 8)), none⟩,
   ⟨(some 0), .mv (.tmp 16), none⟩])
 (.ops [⟨(some 17), .mv (.tmp 2), none⟩,
   ⟨(some 18), .bin .add (.tmp 17) (.const (.int .i64 8)), none⟩,
   ⟨(some 2), .mv (.tmp 18), none⟩])) .skip))
 (.seq (.ops [⟨(some 19), .mv (.tmp 2), none⟩,
   ⟨(some 20), .mv (.tmp 0), none⟩,
   ⟨(some 21), .conv .u8 (.tmp 20), none⟩,
   ⟨(some 22), .idxStr (.const (.string s_256_1793)) (.tmp 21), none⟩,
   ⟨(some 23), .conv .i64 (.tmp 22), none⟩,
   ⟨(some 24), .bin .add (.tmp 19) (.tmp 23), none⟩,
   ⟨(some 2), .mv (.tmp 24), none⟩])
 .ret)))))⟩
def c_internal_strconv_bool2_int : AFunc := ⟨4, [.tmp 2],
 (.seq (.ops [⟨(some 2), .mv (.const (.int .i64 0)), none⟩])
 (.seq (.seq (.ops [⟨(some 3), .mv (.tmp 0), none⟩])
 (.cond (.tmp 3) (.seq (.ops [⟨(some 2), .mv (.const (.int .i64 1)), none⟩])
 .ret) .skip))
 (.seq (.ops [⟨(some 2), .mv (.const (.int .i64 0)), none⟩])
 .ret)))⟩
def c_internal_strconv_isPowerOfTwo : AFunc := ⟨8, [.tmp 2],
 (.seq (.ops [⟨(some 2), .mv (.const (.bool false)), none⟩])
 (.seq (.ops [⟨(some 3), .mv (.tmp 0), none⟩,
   ⟨(some 4), .mv (.tmp 0), none⟩,
   ⟨(some 5), .bin .sub (.tmp 4) (.const (.int .i64 1)), none⟩,
   ⟨(some 6), .bin .and (.tmp 3) (.tmp 5), none⟩,
   ⟨(some 7), .bin .eql (.tmp 6) (.const (.int .i64 0)), none⟩,
   ⟨(some 2), .mv (.tmp 7), none⟩])
 .ret))⟩
def c_math_bits_TrailingZeros : AFunc := ⟨8, [.tmp 2],
 (.seq (.ops [⟨(some 2), .mv (.const (.int .i64 0)), none⟩])
 (.seq (.cond (.const (.bool false)) (.seq (.ops [⟨(some 3), .mv (.tmp 0), none⟩,
   ⟨(some 4), .conv .u32 (.tmp 3), none⟩,
   ⟨(some 5), .call n_math_bits_TrailingZeros32 [(.tmp 4)], none⟩,
   ⟨(some 2), .mv (.tmp 5), none⟩])
 .ret) .skip)
 (.seq (.ops [⟨(some 6), .mv (.tmp 0), none⟩,
   ⟨(some 7), .call n_math_bits_TrailingZeros64 [(.tmp 6)], none⟩,
   ⟨(some 2), .mv (.tmp 7), none⟩])
 .ret)))⟩
/-- The orders laid down. -/
def ords : List (Nat × List (Nat × List Nat)) := [(45, [(1, [0, 1, 3, 2, 4, 5, 6])])]
/-- How many of the package's variables may be looked at. -/
def GG : Nat := 2
/-- The program as the abstract machine reads it. -/
noncomputable def FF : Funcs := ⟨fun f => if skipped f then none else (Tryd.prog.funcs[f]?).bind (normFunc Tryd.prog GG ((ords.lookup f).getD [])), known⟩
theorem F_belatedlaw4_ScanTokens : FF n_belatedlaw4_ScanTokens = some c_belatedlaw4_ScanTokens := by kernel_rfl
theorem F_belatedlaw4_ScanBack : FF n_belatedlaw4_ScanBack = some c_belatedlaw4_ScanBack := by kernel_rfl
theorem F_belatedlaw4_ScanPlaces : FF n_belatedlaw4_ScanPlaces = some c_belatedlaw4_ScanPlaces := by kernel_rfl
theorem F_belatedlaw4_able : FF n_belatedlaw4_able = some c_belatedlaw4_able := by kernel_rfl
theorem F_scan_Tokens : FF n_scan_Tokens = some c_scan_Tokens := by kernel_rfl
theorem F_belatedref4_Tokens : FF n_belatedref4_Tokens = some c_belatedref4_Tokens := by kernel_rfl
theorem F_belatedlaw4_tokens : FF n_belatedlaw4_tokens = some c_belatedlaw4_tokens := by kernel_rfl
theorem F_scan_New : FF n_scan_New = some c_scan_New := by kernel_rfl
theorem F_scan_Cursor_Left : FF n_scan_Cursor_Left = some c_scan_Cursor_Left := by kernel_rfl
theorem F_strings_HasPrefix : FF n_strings_HasPrefix = some c_strings_HasPrefix := by kernel_rfl
theorem F_strings_Index : FF n_strings_Index = some c_strings_Index := by kernel_rfl
theorem F_scan_digit : FF n_scan_digit = some c_scan_digit := by kernel_rfl
theorem F_scan_row : FF n_scan_row = some c_scan_row := by kernel_rfl
theorem F_scan_Tokens_1 : FF n_scan_Tokens_1 = some c_scan_Tokens_1 := by kernel_rfl
theorem F_scan_letter : FF n_scan_letter = some c_scan_letter := by kernel_rfl
theorem F_scan_number : FF n_scan_number = some c_scan_number := by kernel_rfl
theorem F_scan_Tokens_2 : FF n_scan_Tokens_2 = some c_scan_Tokens_2 := by kernel_rfl
theorem F_strings_IndexByte : FF n_strings_IndexByte = some c_strings_IndexByte := by kernel_rfl
theorem F_belatedref4_blank : FF n_belatedref4_blank = some c_belatedref4_blank := by kernel_rfl
theorem F_belatedref4_digit : FF n_belatedref4_digit = some c_belatedref4_digit := by kernel_rfl
theorem F_belatedref4_run : FF n_belatedref4_run = some c_belatedref4_run := by kernel_rfl
theorem F_belatedref4_Value : FF n_belatedref4_Value = some c_belatedref4_Value := by kernel_rfl
theorem F_belatedref4_letter : FF n_belatedref4_letter = some c_belatedref4_letter := by kernel_rfl
theorem F_belatedref4_mark : FF n_belatedref4_mark = some c_belatedref4_mark := by kernel_rfl
theorem F_slices_Clone_api_Token_api_Token : FF n_slices_Clone_api_Token_api_Token = some c_slices_Clone_api_Token_api_Token := by kernel_rfl
theorem F_internal_stringslite_HasPrefix : FF n_internal_stringslite_HasPrefix = some c_internal_stringslite_HasPrefix := by kernel_rfl
theorem F_strings_CutPrefix : FF n_strings_CutPrefix = some c_strings_CutPrefix := by kernel_rfl
theorem F_strings_Contains : FF n_strings_Contains = some c_strings_Contains := by kernel_rfl
theorem F_belatedref4_hex : FF n_belatedref4_hex = some c_belatedref4_hex := by kernel_rfl
theorem F_internal_bytealg_Cutover : FF n_internal_bytealg_Cutover = some c_internal_bytealg_Cutover := by kernel_rfl
theorem F_internal_bytealg_IndexRabinKarp_string : FF n_internal_bytealg_IndexRabinKarp_string = some c_internal_bytealg_IndexRabinKarp_string := by kernel_rfl
theorem F_internal_stringslite_CutPrefix : FF n_internal_stringslite_CutPrefix = some c_internal_stringslite_CutPrefix := by kernel_rfl
theorem F_internal_bytealg_hashStr_string : FF n_internal_bytealg_hashStr_string = some c_internal_bytealg_hashStr_string := by kernel_rfl
theorem F_internal_strconv_lower : FF n_internal_strconv_lower = some c_internal_strconv_lower := by kernel_rfl
theorem F_internal_strconv_underscoreOK : FF n_internal_strconv_underscoreOK = some c_internal_strconv_underscoreOK := by kernel_rfl
theorem F_strconv_syntaxError : FF n_strconv_syntaxError = some c_strconv_syntaxError := by kernel_rfl
theorem F_strconv_baseError : FF n_strconv_baseError = some c_strconv_baseError := by kernel_rfl
theorem F_strconv_bitSizeError : FF n_strconv_bitSizeError = some c_strconv_bitSizeError := by kernel_rfl
theorem F_errors_New : FF n_errors_New = some c_errors_New := by kernel_rfl
theorem F_strconv_Itoa : FF n_strconv_Itoa = some c_strconv_Itoa := by kernel_rfl
theorem F_internal_strconv_Itoa : FF n_internal_strconv_Itoa = some c_internal_strconv_Itoa := by kernel_rfl
theorem F_internal_strconv_small : FF n_internal_strconv_small = some c_internal_strconv_small := by kernel_rfl
theorem F_internal_strconv_formatBase10 : FF n_internal_strconv_formatBase10 = some c_internal_strconv_formatBase10 := by kernel_rfl
theorem F_internal_strconv_log10Pow2 : FF n_internal_strconv_log10Pow2 = some c_internal_strconv_log10Pow2 := by kernel_rfl
theorem F_math_bits_Len64 : FF n_math_bits_Len64 = some c_math_bits_Len64 := by kernel_rfl
theorem F_internal_strconv_bool2_int : FF n_internal_strconv_bool2_int = some c_internal_strconv_bool2_int := by kernel_rfl
theorem F_internal_strconv_isPowerOfTwo : FF n_internal_strconv_isPowerOfTwo = some c_internal_strconv_isPowerOfTwo := by kernel_rfl
theorem F_math_bits_TrailingZeros : FF n_math_bits_TrailingZeros = some c_math_bits_TrailingZeros := by kernel_rfl
end Go.Proofs.YtfbldlgjlgcpoaaDoor.AM
