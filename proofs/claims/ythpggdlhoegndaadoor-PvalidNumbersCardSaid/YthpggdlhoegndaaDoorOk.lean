/-
  The functions of the table are the program's.
-/
import Derived.Test.YthpggdlhoegndaaDoorLm34
import Derived.Test.YthpggdlhoegndaaDoorCode
import Derived.Test.YthpggdlhoegndaaDoorProg
import Derived.KernelRfl
set_option linter.all false
namespace Go.Proofs.YthpggdlhoegndaaDoor.LM
open Go
def fzF (f : Nat) : Bool := memN f [77, 106, 107]
/-- the listed tables -/
def gl (g : Nat) : Option (List V) := bif Nat.beq g 0 then some g_tab0 else bif Nat.beq g 1 then some g_tab1 else bif Nat.beq g 6 then some g_tab2 else none
theorem ok_law23_PvalidNumbers : FnOK Tryd.prog gl n_law23_PvalidNumbers (.code c_law23_PvalidNumbers) := ⟨Tryd.f3, fzF, fun t => memN t [], fun _ => [], Tryd.func3, by kernel_rfl, by kernel_rfl⟩
theorem ok_ref22_Load : FnOK Tryd.prog gl n_ref22_Load (.code c_ref22_Load) := ⟨Tryd.f9, fzF, fun t => memN t [8, 22], fun _ => [], Tryd.func9, by kernel_rfl, by kernel_rfl⟩
theorem ok_ref1_OfInt : FnOK Tryd.prog gl n_ref1_OfInt (.code c_ref1_OfInt) := ⟨Tryd.f10, fzF, fun t => memN t [], fun _ => [], Tryd.func10, by kernel_rfl, by kernel_rfl⟩
theorem ok_ref1_OfUint : FnOK Tryd.prog gl n_ref1_OfUint (.code c_ref1_OfUint) := ⟨Tryd.f11, fzF, fun t => memN t [], fun _ => [], Tryd.func11, by kernel_rfl, by kernel_rfl⟩
theorem ok_law23_told : FnOK Tryd.prog gl n_law23_told (.code c_law23_told) := ⟨Tryd.f12, fzF, fun t => memN t [], fun _ => [], Tryd.func12, by kernel_rfl, by kernel_rfl⟩
theorem ok_pvalid_Valid : FnOK Tryd.prog gl n_pvalid_Valid (.code c_pvalid_Valid) := ⟨Tryd.f13, fzF, fun t => memN t [], fun _ => [], Tryd.func13, by kernel_rfl, by kernel_rfl⟩
theorem ok_pvalid_Norm : FnOK Tryd.prog gl n_pvalid_Norm (.code c_pvalid_Norm) := ⟨Tryd.f14, fzF, fun t => memN t [], fun _ => [], Tryd.func14, by kernel_rfl, by kernel_rfl⟩
theorem ok_pread_Check : FnOK Tryd.prog gl n_pread_Check (.code c_pread_Check) := ⟨Tryd.f18, fzF, fun t => memN t [], fun _ => [], Tryd.func18, by kernel_rfl, by kernel_rfl⟩
theorem ok_ref22_Check : FnOK Tryd.prog gl n_ref22_Check (.code c_ref22_Check) := ⟨Tryd.f19, fzF, fun t => memN t [], fun _ => [], Tryd.func19, by kernel_rfl, by kernel_rfl⟩
theorem ok_pread_Scalar : FnOK Tryd.prog gl n_pread_Scalar (.code c_pread_Scalar) := ⟨Tryd.f20, fzF, fun t => memN t [], fun _ => [], Tryd.func20, by kernel_rfl, by kernel_rfl⟩
theorem ok_ref22_Scalar : FnOK Tryd.prog gl n_ref22_Scalar (.code c_ref22_Scalar) := ⟨Tryd.f21, fzF, fun t => memN t [], fun _ => [], Tryd.func21, by kernel_rfl, by kernel_rfl⟩
theorem ok_ref22_split : FnOK Tryd.prog gl n_ref22_split (.code c_ref22_split) := ⟨Tryd.f28, fzF, fun t => memN t [], fun _ => [], Tryd.func28, by kernel_rfl, by kernel_rfl⟩
theorem ok_ref22_P_take : FnOK Tryd.prog gl n_ref22_P_take (.code c_ref22_P_take) := ⟨Tryd.f29, fzF, fun t => memN t [], fun _ => [], Tryd.func29, by kernel_rfl, by kernel_rfl⟩
theorem ok_ref22_P_word : FnOK Tryd.prog gl n_ref22_P_word (.code c_ref22_P_word) := ⟨Tryd.f30, fzF, fun t => memN t [], fun _ => [], Tryd.func30, by kernel_rfl, by kernel_rfl⟩
theorem ok_ref22_P_is : FnOK Tryd.prog gl n_ref22_P_is (.code c_ref22_P_is) := ⟨Tryd.f31, fzF, fun t => memN t [], fun _ => [], Tryd.func31, by kernel_rfl, by kernel_rfl⟩
theorem ok_ref22_P_reserved : FnOK Tryd.prog gl n_ref22_P_reserved (.code c_ref22_P_reserved) := ⟨Tryd.f32, fzF, fun t => memN t [], fun _ => [], Tryd.func32, by kernel_rfl, by kernel_rfl⟩
theorem ok_ref22_P_field : FnOK Tryd.prog gl n_ref22_P_field (.code c_ref22_P_field) := ⟨Tryd.f33, fzF, fun t => memN t [], fun _ => [], Tryd.func33, by kernel_rfl, by kernel_rfl⟩
theorem ok_value_May : FnOK Tryd.prog gl n_value_May (.code c_value_May) := ⟨Tryd.f34, fzF, fun t => memN t [], fun _ => [], Tryd.func34, by kernel_rfl, by kernel_rfl⟩
theorem ok_pvalid_message : FnOK Tryd.prog gl n_pvalid_message (.code c_pvalid_message) := ⟨Tryd.f35, fzF, fun t => memN t [], fun _ => [], Tryd.func35, by kernel_rfl, by kernel_rfl⟩
theorem ok_pvalid_norm : FnOK Tryd.prog gl n_pvalid_norm (.code c_pvalid_norm) := ⟨Tryd.f36, fzF, fun t => memN t [], fun b => bif Nat.beq b 2 then [12] else [], Tryd.func36, by kernel_rfl, by kernel_rfl⟩
theorem ok_pread_Named : FnOK Tryd.prog gl n_pread_Named (.code c_pread_Named) := ⟨Tryd.f37, fzF, fun t => memN t [], fun _ => [], Tryd.func37, by kernel_rfl, by kernel_rfl⟩
theorem ok_slices_Contains_string : FnOK Tryd.prog gl n_slices_Contains_string (.code c_slices_Contains_string) := ⟨Tryd.f38, fzF, fun t => memN t [], fun _ => [], Tryd.func38, by kernel_rfl, by kernel_rfl⟩
theorem ok_pread_Place : FnOK Tryd.prog gl n_pread_Place (.code c_pread_Place) := ⟨Tryd.f39, fzF, fun t => memN t [3], fun _ => [], Tryd.func39, by kernel_rfl, by kernel_rfl⟩
theorem ok_pread_right : FnOK Tryd.prog gl n_pread_right (.code c_pread_right) := ⟨Tryd.f40, fzF, fun t => memN t [], fun _ => [], Tryd.func40, by kernel_rfl, by kernel_rfl⟩
theorem ok_ref22_Name : FnOK Tryd.prog gl n_ref22_Name (.code c_ref22_Name) := ⟨Tryd.f41, fzF, fun t => memN t [], fun _ => [], Tryd.func41, by kernel_rfl, by kernel_rfl⟩
theorem ok_ref22_Place : FnOK Tryd.prog gl n_ref22_Place (.code c_ref22_Place) := ⟨Tryd.f42, fzF, fun t => memN t [], fun _ => [], Tryd.func42, by kernel_rfl, by kernel_rfl⟩
theorem ok_ref22_fields : FnOK Tryd.prog gl n_ref22_fields (.code c_ref22_fields) := ⟨Tryd.f43, fzF, fun t => memN t [], fun _ => [], Tryd.func43, by kernel_rfl, by kernel_rfl⟩
theorem ok_ref16_Place : FnOK Tryd.prog gl n_ref16_Place (.code c_ref16_Place) := ⟨Tryd.f44, fzF, fun t => memN t [], fun _ => [], Tryd.func44, by kernel_rfl, by kernel_rfl⟩
theorem ok_ref22_P_at : FnOK Tryd.prog gl n_ref22_P_at (.code c_ref22_P_at) := ⟨Tryd.f61, fzF, fun t => memN t [], fun _ => [], Tryd.func61, by kernel_rfl, by kernel_rfl⟩
theorem ok_ref22_P_number : FnOK Tryd.prog gl n_ref22_P_number (.code c_ref22_P_number) := ⟨Tryd.f62, fzF, fun t => memN t [], fun _ => [], Tryd.func62, by kernel_rfl, by kernel_rfl⟩
theorem ok_value_Depth : FnOK Tryd.prog gl n_value_Depth (.code c_value_Depth) := ⟨Tryd.f63, fzF, fun t => memN t [], fun _ => [], Tryd.func63, by kernel_rfl, by kernel_rfl⟩
theorem ok_value_Nodes : FnOK Tryd.prog gl n_value_Nodes (.code c_value_Nodes) := ⟨Tryd.f64, fzF, fun t => memN t [], fun _ => [], Tryd.func64, by kernel_rfl, by kernel_rfl⟩
theorem ok_value_long : FnOK Tryd.prog gl n_value_long (.code c_value_long) := ⟨Tryd.f65, fzF, fun t => memN t [], fun _ => [], Tryd.func65, by kernel_rfl, by kernel_rfl⟩
theorem ok_value_sound : FnOK Tryd.prog gl n_value_sound (.code c_value_sound) := ⟨Tryd.f66, fzF, fun t => memN t [], fun _ => [], Tryd.func66, by kernel_rfl, by kernel_rfl⟩
theorem ok_pvalid_Field : FnOK Tryd.prog gl n_pvalid_Field (.code c_pvalid_Field) := ⟨Tryd.f67, fzF, fun t => memN t [3], fun _ => [], Tryd.func67, by kernel_rfl, by kernel_rfl⟩
theorem ok_pvalid_member : FnOK Tryd.prog gl n_pvalid_member (.code c_pvalid_member) := ⟨Tryd.f68, fzF, fun t => memN t [3, 4], fun _ => [], Tryd.func68, by kernel_rfl, by kernel_rfl⟩
theorem ok_pvalid_empty : FnOK Tryd.prog gl n_pvalid_empty (.code c_pvalid_empty) := ⟨Tryd.f69, fzF, fun t => memN t [], fun _ => [], Tryd.func69, by kernel_rfl, by kernel_rfl⟩
theorem ok_slices_Clone_api_Value : FnOK Tryd.prog gl n_slices_Clone_api_Value (.code c_slices_Clone_api_Value) := ⟨Tryd.f70, fzF, fun t => memN t [], fun _ => [], Tryd.func70, by kernel_rfl, by kernel_rfl⟩
theorem ok_pread_letter : FnOK Tryd.prog gl n_pread_letter (.code c_pread_letter) := ⟨Tryd.f71, fzF, fun t => memN t [], fun _ => [], Tryd.func71, by kernel_rfl, by kernel_rfl⟩
theorem ok_pread_run : FnOK Tryd.prog gl n_pread_run (.code c_pread_run) := ⟨Tryd.f72, fzF, fun t => memN t [], fun _ => [], Tryd.func72, by kernel_rfl, by kernel_rfl⟩
theorem ok_pread_Named_1 : FnOK Tryd.prog gl n_pread_Named_1 (.code c_pread_Named_1) := ⟨Tryd.f73, fzF, fun t => memN t [], fun _ => [], Tryd.func73, by kernel_rfl, by kernel_rfl⟩
theorem ok_pread_digit : FnOK Tryd.prog gl n_pread_digit (.code c_pread_digit) := ⟨Tryd.f74, fzF, fun t => memN t [], fun _ => [], Tryd.func74, by kernel_rfl, by kernel_rfl⟩
theorem ok_slices_Index_string : FnOK Tryd.prog gl n_slices_Index_string (.code c_slices_Index_string) := ⟨Tryd.f75, fzF, fun t => memN t [], fun _ => [], Tryd.func75, by kernel_rfl, by kernel_rfl⟩
theorem ok_slices_IndexFunc_api_PMessage : FnOK Tryd.prog gl n_slices_IndexFunc_api_PMessage (.code c_slices_IndexFunc_api_PMessage) := ⟨Tryd.f76, fzF, fun t => memN t [], fun _ => [], Tryd.func76, by kernel_rfl, by kernel_rfl⟩
theorem ok_pread_Place_1 : FnOK Tryd.prog gl n_pread_Place_1 (.code c_pread_Place_1) := ⟨Tryd.f77, fzF, fun t => memN t [], fun _ => [], Tryd.func77, by kernel_rfl, by kernel_rfl⟩
theorem ok_slices_ContainsFunc_string : FnOK Tryd.prog gl n_slices_ContainsFunc_string (.code c_slices_ContainsFunc_string) := ⟨Tryd.f78, fzF, fun t => memN t [], fun _ => [], Tryd.func78, by kernel_rfl, by kernel_rfl⟩
theorem ok_pread_right_1 : FnOK Tryd.prog gl n_pread_right_1 (.code c_pread_right_1) := ⟨Tryd.f79, fzF, fun t => memN t [], fun _ => [], Tryd.func79, by kernel_rfl, by kernel_rfl⟩
theorem ok_slices_ContainsFunc_int : FnOK Tryd.prog gl n_slices_ContainsFunc_int (.code c_slices_ContainsFunc_int) := ⟨Tryd.f80, fzF, fun t => memN t [], fun _ => [], Tryd.func80, by kernel_rfl, by kernel_rfl⟩
theorem ok_pread_right_2 : FnOK Tryd.prog gl n_pread_right_2 (.code c_pread_right_2) := ⟨Tryd.f81, fzF, fun t => memN t [], fun _ => [], Tryd.func81, by kernel_rfl, by kernel_rfl⟩
theorem ok_slices_Contains_int : FnOK Tryd.prog gl n_slices_Contains_int (.code c_slices_Contains_int) := ⟨Tryd.f82, fzF, fun t => memN t [], fun _ => [], Tryd.func82, by kernel_rfl, by kernel_rfl⟩
theorem ok_ref22_among : FnOK Tryd.prog gl n_ref22_among (.code c_ref22_among) := ⟨Tryd.f83, fzF, fun t => memN t [], fun _ => [], Tryd.func83, by kernel_rfl, by kernel_rfl⟩
theorem ok_value_long_1 : FnOK Tryd.prog gl n_value_long_1 (.code c_value_long_1) := ⟨Tryd.f97, fzF, fun t => memN t [], fun _ => [], Tryd.func97, by kernel_rfl, by kernel_rfl⟩
theorem ok_slices_ContainsFunc_api_Value : FnOK Tryd.prog gl n_slices_ContainsFunc_api_Value (.code c_slices_ContainsFunc_api_Value) := ⟨Tryd.f98, fzF, fun t => memN t [], fun _ => [], Tryd.func98, by kernel_rfl, by kernel_rfl⟩
theorem ok_value_rise : FnOK Tryd.prog gl n_value_rise (.code c_value_rise) := ⟨Tryd.f99, fzF, fun t => memN t [], fun _ => [], Tryd.func99, by kernel_rfl, by kernel_rfl⟩
theorem ok_whole_May : FnOK Tryd.prog gl n_whole_May (.code c_whole_May) := ⟨Tryd.f100, fzF, fun t => memN t [], fun _ => [], Tryd.func100, by kernel_rfl, by kernel_rfl⟩
theorem ok_float_May : FnOK Tryd.prog gl n_float_May (.code c_float_May) := ⟨Tryd.f101, fzF, fun t => memN t [], fun _ => [], Tryd.func101, by kernel_rfl, by kernel_rfl⟩
theorem ok_utf_Valid : FnOK Tryd.prog gl n_utf_Valid (.code c_utf_Valid) := ⟨Tryd.f102, fzF, fun t => memN t [], fun _ => [], Tryd.func102, by kernel_rfl, by kernel_rfl⟩
theorem ok_value_Of : FnOK Tryd.prog gl n_value_Of (.code c_value_Of) := ⟨Tryd.f103, fzF, fun t => memN t [], fun _ => [], Tryd.func103, by kernel_rfl, by kernel_rfl⟩
theorem ok_value_sound_1 : FnOK Tryd.prog gl n_value_sound_1 (.code c_value_sound_1) := ⟨Tryd.f104, fzF, fun t => memN t [], fun _ => [], Tryd.func104, by kernel_rfl, by kernel_rfl⟩
theorem ok_slices_IndexFunc_api_PField : FnOK Tryd.prog gl n_slices_IndexFunc_api_PField (.code c_slices_IndexFunc_api_PField) := ⟨Tryd.f105, fzF, fun t => memN t [], fun _ => [], Tryd.func105, by kernel_rfl, by kernel_rfl⟩
theorem ok_pvalid_Field_1 : FnOK Tryd.prog gl n_pvalid_Field_1 (.code c_pvalid_Field_1) := ⟨Tryd.f106, fzF, fun t => memN t [], fun _ => [], Tryd.func106, by kernel_rfl, by kernel_rfl⟩
theorem ok_pvalid_member_1 : FnOK Tryd.prog gl n_pvalid_member_1 (.code c_pvalid_member_1) := ⟨Tryd.f107, fzF, fun t => memN t [], fun _ => [], Tryd.func107, by kernel_rfl, by kernel_rfl⟩
theorem ok_pvalid_is : FnOK Tryd.prog gl n_pvalid_is (.code c_pvalid_is) := ⟨Tryd.f108, fzF, fun t => memN t [], fun _ => [], Tryd.func108, by kernel_rfl, by kernel_rfl⟩
theorem ok_slices_IndexFunc_string : FnOK Tryd.prog gl n_slices_IndexFunc_string (.code c_slices_IndexFunc_string) := ⟨Tryd.f109, fzF, fun t => memN t [], fun _ => [], Tryd.func109, by kernel_rfl, by kernel_rfl⟩
theorem ok_slices_IndexFunc_int : FnOK Tryd.prog gl n_slices_IndexFunc_int (.code c_slices_IndexFunc_int) := ⟨Tryd.f110, fzF, fun t => memN t [], fun _ => [], Tryd.func110, by kernel_rfl, by kernel_rfl⟩
theorem ok_slices_Index_int : FnOK Tryd.prog gl n_slices_Index_int (.code c_slices_Index_int) := ⟨Tryd.f111, fzF, fun t => memN t [], fun _ => [], Tryd.func111, by kernel_rfl, by kernel_rfl⟩
theorem ok_slices_IndexFunc_api_Value : FnOK Tryd.prog gl n_slices_IndexFunc_api_Value (.code c_slices_IndexFunc_api_Value) := ⟨Tryd.f117, fzF, fun t => memN t [], fun _ => [], Tryd.func117, by kernel_rfl, by kernel_rfl⟩
theorem ok_float_Class : FnOK Tryd.prog gl n_float_Class (.code c_float_Class) := ⟨Tryd.f118, fzF, fun t => memN t [], fun _ => [], Tryd.func118, by kernel_rfl, by kernel_rfl⟩
theorem ok_unicode_utf8_ValidString : FnOK Tryd.prog gl n_unicode_utf8_ValidString (.code c_unicode_utf8_ValidString) := ⟨Tryd.f119, fzF, fun t => memN t [], fun _ => [], Tryd.func119, by kernel_rfl, by kernel_rfl⟩
theorem ok_pvalid_scalar : FnOK Tryd.prog gl n_pvalid_scalar (.code c_pvalid_scalar) := ⟨Tryd.f120, fzF, fun t => memN t [], fun _ => [], Tryd.func120, by kernel_rfl, by kernel_rfl⟩
theorem ok_float_Whole : FnOK Tryd.prog gl n_float_Whole (.code c_float_Whole) := ⟨Tryd.f128, fzF, fun t => memN t [], fun _ => [], Tryd.func128, by kernel_rfl, by kernel_rfl⟩
theorem ok_float_parts : FnOK Tryd.prog gl n_float_parts (.code c_float_parts) := ⟨Tryd.f129, fzF, fun t => memN t [], fun _ => [], Tryd.func129, by kernel_rfl, by kernel_rfl⟩
theorem ok_float_Behind : FnOK Tryd.prog gl n_float_Behind (.code c_float_Behind) := ⟨Tryd.f130, fzF, fun t => memN t [], fun _ => [], Tryd.func130, by kernel_rfl, by kernel_rfl⟩
theorem ok_unicode_utf8_word_string : FnOK Tryd.prog gl n_unicode_utf8_word_string (.code c_unicode_utf8_word_string) := ⟨Tryd.f131, fzF, fun t => memN t [], fun _ => [], Tryd.func131, by kernel_rfl, by kernel_rfl⟩
theorem ok_whole_Exact : FnOK Tryd.prog gl n_whole_Exact (.code c_whole_Exact) := ⟨Tryd.f132, fzF, fun t => memN t [], fun _ => [], Tryd.func132, by kernel_rfl, by kernel_rfl⟩
theorem ok_pvalid_Bounds : FnOK Tryd.prog gl n_pvalid_Bounds (.code c_pvalid_Bounds) := ⟨Tryd.f133, fzF, fun t => memN t [], fun _ => [], Tryd.func133, by kernel_rfl, by kernel_rfl⟩
theorem ok_whole_Cmp : FnOK Tryd.prog gl n_whole_Cmp (.code c_whole_Cmp) := ⟨Tryd.f134, fzF, fun t => memN t [], fun _ => [], Tryd.func134, by kernel_rfl, by kernel_rfl⟩
theorem ok_math_bits_Len64 : FnOK Tryd.prog gl n_math_bits_Len64 (.code c_math_bits_Len64) := ⟨Tryd.f141, fzF, fun t => memN t [], fun _ => [], Tryd.func141, by kernel_rfl, by kernel_rfl⟩
theorem ok_nat_Shl : FnOK Tryd.prog gl n_nat_Shl (.code c_nat_Shl) := ⟨Tryd.f145, fzF, fun t => memN t [], fun _ => [], Tryd.func145, by kernel_rfl, by kernel_rfl⟩
theorem ok_nat_Of : FnOK Tryd.prog gl n_nat_Of (.code c_nat_Of) := ⟨Tryd.f146, fzF, fun t => memN t [], fun _ => [], Tryd.func146, by kernel_rfl, by kernel_rfl⟩
theorem ok_math_bits_TrailingZeros64 : FnOK Tryd.prog gl n_math_bits_TrailingZeros64 (.code c_math_bits_TrailingZeros64) := ⟨Tryd.f147, fzF, fun t => memN t [], fun _ => [], Tryd.func147, by kernel_rfl, by kernel_rfl⟩
theorem ok_nat_Len : FnOK Tryd.prog gl n_nat_Len (.code c_nat_Len) := ⟨Tryd.f148, fzF, fun t => memN t [], fun _ => [], Tryd.func148, by kernel_rfl, by kernel_rfl⟩
theorem ok_nat_Trail : FnOK Tryd.prog gl n_nat_Trail (.code c_nat_Trail) := ⟨Tryd.f149, fzF, fun t => memN t [], fun _ => [], Tryd.func149, by kernel_rfl, by kernel_rfl⟩
theorem ok_whole_Of : FnOK Tryd.prog gl n_whole_Of (.code c_whole_Of) := ⟨Tryd.f150, fzF, fun t => memN t [], fun _ => [], Tryd.func150, by kernel_rfl, by kernel_rfl⟩
theorem ok_whole_OfUint : FnOK Tryd.prog gl n_whole_OfUint (.code c_whole_OfUint) := ⟨Tryd.f151, fzF, fun t => memN t [], fun _ => [], Tryd.func151, by kernel_rfl, by kernel_rfl⟩
theorem ok_nat_Cmp : FnOK Tryd.prog gl n_nat_Cmp (.code c_nat_Cmp) := ⟨Tryd.f152, fzF, fun t => memN t [], fun _ => [], Tryd.func152, by kernel_rfl, by kernel_rfl⟩
theorem ok_whole_of : FnOK Tryd.prog gl n_whole_of (.code c_whole_of) := ⟨Tryd.f157, fzF, fun t => memN t [], fun _ => [], Tryd.func157, by kernel_rfl, by kernel_rfl⟩
theorem codes_ok : AllOK Tryd.prog gl codes := ⟨ok_law23_PvalidNumbers, ok_ref22_Load, ok_ref1_OfInt, ok_ref1_OfUint, ok_law23_told, ok_pvalid_Valid, ok_pvalid_Norm, ok_pread_Check, ok_ref22_Check, ok_pread_Scalar, ok_ref22_Scalar, ok_ref22_split, ok_ref22_P_take, ok_ref22_P_word, ok_ref22_P_is, ok_ref22_P_reserved, ok_ref22_P_field, ok_value_May, ok_pvalid_message, ok_pvalid_norm, ok_pread_Named, ok_slices_Contains_string, ok_pread_Place, ok_pread_right, ok_ref22_Name, ok_ref22_Place, ok_ref22_fields, ok_ref16_Place, ok_ref22_P_at, ok_ref22_P_number, ok_value_Depth, ok_value_Nodes, ok_value_long, ok_value_sound, ok_pvalid_Field, ok_pvalid_member, ok_pvalid_empty, ok_slices_Clone_api_Value, ok_pread_letter, ok_pread_run, ok_pread_Named_1, ok_pread_digit, ok_slices_Index_string, ok_slices_IndexFunc_api_PMessage, ok_pread_Place_1, ok_slices_ContainsFunc_string, ok_pread_right_1, ok_slices_ContainsFunc_int, ok_pread_right_2, ok_slices_Contains_int, ok_ref22_among, ok_value_long_1, ok_slices_ContainsFunc_api_Value, ok_value_rise, ok_whole_May, ok_float_May, ok_utf_Valid, ok_value_Of, ok_value_sound_1, ok_slices_IndexFunc_api_PField, ok_pvalid_Field_1, ok_pvalid_member_1, ok_pvalid_is, ok_slices_IndexFunc_string, ok_slices_IndexFunc_int, ok_slices_Index_int, ok_slices_IndexFunc_api_Value, ok_float_Class, ok_unicode_utf8_ValidString, ok_pvalid_scalar, ok_float_Whole, ok_float_parts, ok_float_Behind, ok_unicode_utf8_word_string, ok_whole_Exact, ok_pvalid_Bounds, ok_whole_Cmp, ok_math_bits_Len64, ok_nat_Shl, ok_nat_Of, ok_math_bits_TrailingZeros64, ok_nat_Len, ok_nat_Trail, ok_whole_Of, ok_whole_OfUint, ok_nat_Cmp, ok_whole_of, trivial⟩
theorem all_look {P : Program} {G : Nat → Option (List V)} : ∀ {l : List (Nat × LDef)}, AllOK P G l → ∀ f d, lookF f l = some d → FnOK P G f d
  | [], _, f, d, h => by cases h
  | (g, e) :: r, ⟨h1, h2⟩, f, d, h => by
    unfold lookF at h
    cases hb : Nat.beq f g with
    | true =>
      rw [hb] at h
      simp only [cond_true, Option.some.injEq] at h
      subst h
      rw [Nat.eq_of_beq_eq_true hb]
      exact h1
    | false => rw [hb] at h; exact all_look h2 f d h
end Go.Proofs.YthpggdlhoegndaaDoor.LM
