/-
  That the short forms of the functions fit the program.
-/
import Derived.Test.YtbdknlejnacmgaaFns
import Derived.Test.YtbdknlejnacmgaaPiY
namespace Go.Proofs.Ytbdknlejnacmgaa.Pi
open Go
set_option maxRecDepth 100000

theorem fits3 : okFn Try.prog 3 D_law07_LinBack = true := by kernel_rfl
theorem fits4 : okFn Try.prog 4 D_law07_LinReckons = true := by kernel_rfl
theorem fits5 : okFn Try.prog 5 D_law07_LinRules = true := by kernel_rfl
theorem fits6 : okFn Try.prog 6 D_law07_LinDefinite = true := by kernel_rfl
theorem fits7 : okFn Try.prog 7 D_law07_awake = true := by kernel_rfl
theorem fits8 : okFn Try.prog 8 D_law07_read = true := by kernel_rfl
theorem fits9 : okFn Try.prog 9 D_law07_list = true := by kernel_rfl
theorem fits10 : okFn Try.prog 10 D_lin_Mat_Solve = true := by kernel_rfl
theorem fits11 : okFn Try.prog 11 D_lin_Mat_Det = true := by kernel_rfl
theorem fits12 : okFn Try.prog 12 D_long_Int_Sign = true := by kernel_rfl
theorem fits13 : okFn Try.prog 13 D_lin_Mat_Apply = true := by kernel_rfl
theorem fits14 : okFn Try.prog 14 D_long_Int_Cmp = true := by kernel_rfl
theorem fits15 : okFn Try.prog 15 D_long_Int_Mul = true := by kernel_rfl
theorem fits16 : okFn Try.prog 16 D_law07_whole = true := by kernel_rfl
theorem fits17 : okFn Try.prog 17 D_lin_Mat_Mul = true := by kernel_rfl
theorem fits18 : okFn Try.prog 18 D_lin_Mat_Turned = true := by kernel_rfl
theorem fits19 : okFn Try.prog 19 D_law07_text = true := by kernel_rfl
theorem fits20 : okFn Try.prog 20 D_lin_Mat_Quad = true := by kernel_rfl
theorem fits21 : okFn Try.prog 21 D_long_Int_String = true := by kernel_rfl
theorem fits22 : okFn Try.prog 22 D_lin_Mat_Definite = true := by kernel_rfl
theorem fits23 : okFn Try.prog 23 D_law07_wholes = true := by kernel_rfl
theorem fits24 : okFn Try.prog 24 D_ref07_Mat_Mul = true := by kernel_rfl
theorem fits25 : okFn Try.prog 25 D_ref07_Mat_Turned = true := by kernel_rfl
theorem fits26 : okFn Try.prog 26 D_law07_texts = true := by kernel_rfl
theorem fits27 : okFn Try.prog 27 D_ref07_Mat_Apply = true := by kernel_rfl
theorem fits28 : okFn Try.prog 28 D_ref07_Mat_Quad = true := by kernel_rfl
theorem fits29 : okFn Try.prog 29 D_ref01_Int_String = true := by kernel_rfl
theorem fits30 : okFn Try.prog 30 D_ref07_Mat_Definite = true := by kernel_rfl
theorem fits31 : okFn Try.prog 31 D_long_Int_Add = true := by kernel_rfl
theorem fits32 : okFn Try.prog 32 D_long_Of = true := by kernel_rfl
theorem fits33 : okFn Try.prog 33 D_long_Int_Neg = true := by kernel_rfl
theorem fits34 : okFn Try.prog 34 D_lin_Of = true := by kernel_rfl
theorem fits35 : okFn Try.prog 35 D_law07_square = true := by kernel_rfl
theorem fits36 : okFn Try.prog 36 D_ref07_Of = true := by kernel_rfl
theorem fits37 : okFn Try.prog 37 D_ref01_Of = true := by kernel_rfl
theorem fits38 : okFn Try.prog 38 D_lin_Mat_swept = true := by kernel_rfl
theorem fits39 : okFn Try.prog 39 D_lin_list_long_Int = true := by kernel_rfl
theorem fits40 : okFn Try.prog 40 D_lin_Mat_Solve_1 = true := by kernel_rfl
theorem fits41 : okFn Try.prog 41 D_lin_turned = true := by kernel_rfl
theorem fits42 : okFn Try.prog 42 D_lin_zeros = true := by kernel_rfl
theorem fits43 : okFn Try.prog 43 D_lin_Mat_Apply_1 = true := by kernel_rfl
theorem fits44 : okFn Try.prog 44 D_lin_sum = true := by kernel_rfl
theorem fits45 : okFn Try.prog 45 D_lin_Mat_Apply_1_1 = true := by kernel_rfl
theorem fits46 : okFn Try.prog 46 D_long_Int_Sub = true := by kernel_rfl
theorem fits47 : okFn Try.prog 47 D_long_made = true := by kernel_rfl
theorem fits48 : okFn Try.prog 48 D_lin_made = true := by kernel_rfl
theorem fits49 : okFn Try.prog 49 D_lin_Mat_Mul_1 = true := by kernel_rfl
theorem fits50 : okFn Try.prog 50 D_lin_Mat_Mul_1_1 = true := by kernel_rfl
theorem fits51 : okFn Try.prog 51 D_lin_Mat_Turned_1 = true := by kernel_rfl
theorem fits52 : okFn Try.prog 52 D_lin_Mat_Quad_1 = true := by kernel_rfl
theorem fits53 : okFn Try.prog 53 D_long_by = true := by kernel_rfl
theorem fits54 : okFn Try.prog 54 D_slices_Reverse_Sbyte_byte = true := by kernel_rfl
theorem fits55 : okFn Try.prog 55 D_lin_Mat_Definite_1 = true := by kernel_rfl
theorem fits56 : okFn Try.prog 56 D_ref07_Dot = true := by kernel_rfl
theorem fits57 : okFn Try.prog 57 D_ref01_Int_Cmp = true := by kernel_rfl
theorem fits58 : okFn Try.prog 58 D_ref07_Mat_Det = true := by kernel_rfl
theorem fits59 : okFn Try.prog 59 D_ref01_Int_Sign = true := by kernel_rfl
theorem fits60 : okFn Try.prog 60 D_long_plus = true := by kernel_rfl
theorem fits61 : okFn Try.prog 61 D_long_cmp = true := by kernel_rfl
theorem fits62 : okFn Try.prog 62 D_long_less = true := by kernel_rfl
theorem fits63 : okFn Try.prog 63 D_lin_Of_1 = true := by kernel_rfl
theorem fits64 : okFn Try.prog 64 D_ref01_made = true := by kernel_rfl
theorem fits65 : okFn Try.prog 65 D_lin_list_Slong_Int = true := by kernel_rfl
theorem fits66 : okFn Try.prog 66 D_lin_Mat_swept_1 = true := by kernel_rfl
theorem fits67 : okFn Try.prog 67 D_lin_Mat_swept_1_1 = true := by kernel_rfl
theorem fits68 : okFn Try.prog 68 D_long_Int_Quo = true := by kernel_rfl
theorem fits69 : okFn Try.prog 69 D_lin_made_1 = true := by kernel_rfl
theorem fits70 : okFn Try.prog 70 D_lin_made_1_1 = true := by kernel_rfl
theorem fits71 : okFn Try.prog 71 D_ref01_Int_Add = true := by kernel_rfl
theorem fits72 : okFn Try.prog 72 D_ref01_Int_Mul = true := by kernel_rfl
theorem fits73 : okFn Try.prog 73 D_ref01_size = true := by kernel_rfl
theorem fits74 : okFn Try.prog 74 D_ref07_without = true := by kernel_rfl
theorem fits75 : okFn Try.prog 75 D_ref01_Int_Minus = true := by kernel_rfl
theorem fits76 : okFn Try.prog 76 D_slices_Clone_Suint32_uint32 = true := by kernel_rfl
theorem fits77 : okFn Try.prog 77 D_long_parted = true := by kernel_rfl
theorem fits78 : okFn Try.prog 78 D_ref01_plus = true := by kernel_rfl
theorem fits79 : okFn Try.prog 79 D_ref01_less = true := by kernel_rfl
theorem fits80 : okFn Try.prog 80 D_math_bits_LeadingZeros32 = true := by kernel_rfl
theorem fits81 : okFn Try.prog 81 D_long_shifted = true := by kernel_rfl
theorem fits82 : okFn Try.prog 82 D_long_long = true := by kernel_rfl
theorem fits83 : okFn Try.prog 83 D_math_bits_Len32 = true := by kernel_rfl
theorem fits84 : okFn Try.prog 84 D_long_takes = true := by kernel_rfl

theorem tab_ok : ∀ f pf, tab f = some pf → okFn Try.prog f pf = true := by
  intro f pf h
  unfold tab at h
  split at h
  · cases h; exact fits3
  · cases h; exact fits4
  · cases h; exact fits5
  · cases h; exact fits6
  · cases h; exact fits7
  · cases h; exact fits8
  · cases h; exact fits9
  · cases h; exact fits10
  · cases h; exact fits11
  · cases h; exact fits12
  · cases h; exact fits13
  · cases h; exact fits14
  · cases h; exact fits15
  · cases h; exact fits16
  · cases h; exact fits17
  · cases h; exact fits18
  · cases h; exact fits19
  · cases h; exact fits20
  · cases h; exact fits21
  · cases h; exact fits22
  · cases h; exact fits23
  · cases h; exact fits24
  · cases h; exact fits25
  · cases h; exact fits26
  · cases h; exact fits27
  · cases h; exact fits28
  · cases h; exact fits29
  · cases h; exact fits30
  · cases h; exact fits31
  · cases h; exact fits32
  · cases h; exact fits33
  · cases h; exact fits34
  · cases h; exact fits35
  · cases h; exact fits36
  · cases h; exact fits37
  · cases h; exact fits38
  · cases h; exact fits39
  · cases h; exact fits40
  · cases h; exact fits41
  · cases h; exact fits42
  · cases h; exact fits43
  · cases h; exact fits44
  · cases h; exact fits45
  · cases h; exact fits46
  · cases h; exact fits47
  · cases h; exact fits48
  · cases h; exact fits49
  · cases h; exact fits50
  · cases h; exact fits51
  · cases h; exact fits52
  · cases h; exact fits53
  · cases h; exact fits54
  · cases h; exact fits55
  · cases h; exact fits56
  · cases h; exact fits57
  · cases h; exact fits58
  · cases h; exact fits59
  · cases h; exact fits60
  · cases h; exact fits61
  · cases h; exact fits62
  · cases h; exact fits63
  · cases h; exact fits64
  · cases h; exact fits65
  · cases h; exact fits66
  · cases h; exact fits67
  · cases h; exact fits68
  · cases h; exact fits69
  · cases h; exact fits70
  · cases h; exact fits71
  · cases h; exact fits72
  · cases h; exact fits73
  · cases h; exact fits74
  · cases h; exact fits75
  · cases h; exact fits76
  · cases h; exact fits77
  · cases h; exact fits78
  · cases h; exact fits79
  · cases h; exact fits80
  · cases h; exact fits81
  · cases h; exact fits82
  · cases h; exact fits83
  · cases h; exact fits84
  · cases h

theorem runs_good (N k : Nat) : Good Try.prog (callN tab N k) := callN_good (by kernel_rfl) tab_ok N k
end Go.Proofs.Ytbdknlejnacmgaa.Pi
