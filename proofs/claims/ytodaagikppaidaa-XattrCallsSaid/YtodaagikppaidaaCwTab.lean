/- Facts on the tables of the program, by name. -/
import Derived.Test.YtodaagikppaidaaProg
import Derived.Test.YtodaagikppaidaaCwE10
/-! Facts on the program's tables, by name. Printed by a program. -/
namespace Go.Proofs.Ytodaagikppaidaa.Cw
open Go Go.Proofs.Ytodaagikppaidaa.Eng
noncomputable abbrev P : Program := Go.Proofs.Try.prog
theorem mixed : P.follows .mixedOrders = true := by kernel_rfl
abbrev F_main_main : Nat := 0
theorem func_main_main : P.funcs[F_main_main]? = some Go.Proofs.Try.f0 := Go.Proofs.Try.func0
noncomputable abbrev fn_main_main := Go.Proofs.Try.f0
abbrev F_gosem_cut : Nat := 1
theorem func_gosem_cut : P.funcs[F_gosem_cut]? = some Go.Proofs.Try.f1 := Go.Proofs.Try.func1
noncomputable abbrev fn_gosem_cut := Go.Proofs.Try.f1
abbrev F_gosem_cut_init : Nat := 2
theorem func_gosem_cut_init : P.funcs[F_gosem_cut_init]? = some Go.Proofs.Try.f2 := Go.Proofs.Try.func2
theorem nt_gosem_cut_init : Go.Proofs.Try.f2.ntmps = 1 := Go.Proofs.Try.ntmps2
theorem call_gosem_cut_init : CallOk P F_gosem_cut_init := fun a w => Go.Proofs.Try.call2 a w
abbrev F_cloisterlaw16_XattrCalls : Nat := 3
theorem func_cloisterlaw16_XattrCalls : P.funcs[F_cloisterlaw16_XattrCalls]? = some Go.Proofs.Try.f3 := Go.Proofs.Try.func3
theorem nt_cloisterlaw16_XattrCalls : Go.Proofs.Try.f3.ntmps = 231 := Go.Proofs.Try.ntmps3
theorem call_cloisterlaw16_XattrCalls : CallOk P F_cloisterlaw16_XattrCalls := fun a w => Go.Proofs.Try.call3 a w
abbrev F_cloisterlaw16_copied : Nat := 4
theorem func_cloisterlaw16_copied : P.funcs[F_cloisterlaw16_copied]? = some Go.Proofs.Try.f4 := Go.Proofs.Try.func4
theorem nt_cloisterlaw16_copied : Go.Proofs.Try.f4.ntmps = 24 := Go.Proofs.Try.ntmps4
theorem call_cloisterlaw16_copied : CallOk P F_cloisterlaw16_copied := fun a w => Go.Proofs.Try.call4 a w
abbrev F_cloisterref16_Right : Nat := 5
theorem func_cloisterref16_Right : P.funcs[F_cloisterref16_Right]? = some Go.Proofs.Try.f5 := Go.Proofs.Try.func5
theorem nt_cloisterref16_Right : Go.Proofs.Try.f5.ntmps = 43 := Go.Proofs.Try.ntmps5
theorem call_cloisterref16_Right : CallOk P F_cloisterref16_Right := fun a w => Go.Proofs.Try.call5 a w
abbrev F_xattr_Get : Nat := 6
theorem func_xattr_Get : P.funcs[F_xattr_Get]? = some Go.Proofs.Try.f6 := Go.Proofs.Try.func6
theorem nt_xattr_Get : Go.Proofs.Try.f6.ntmps = 28 := Go.Proofs.Try.ntmps6
theorem call_xattr_Get : CallOk P F_xattr_Get := fun a w => Go.Proofs.Try.call6 a w
abbrev F_xattr_Set : Nat := 7
theorem func_xattr_Set : P.funcs[F_xattr_Set]? = some Go.Proofs.Try.f7 := Go.Proofs.Try.func7
theorem nt_xattr_Set : Go.Proofs.Try.f7.ntmps = 54 := Go.Proofs.Try.ntmps7
theorem call_xattr_Set : CallOk P F_xattr_Set := fun a w => Go.Proofs.Try.call7 a w
abbrev F_cloisterref16_Set : Nat := 8
theorem func_cloisterref16_Set : P.funcs[F_cloisterref16_Set]? = some Go.Proofs.Try.f8 := Go.Proofs.Try.func8
theorem nt_cloisterref16_Set : Go.Proofs.Try.f8.ntmps = 73 := Go.Proofs.Try.ntmps8
theorem call_cloisterref16_Set : CallOk P F_cloisterref16_Set := fun a w => Go.Proofs.Try.call8 a w
abbrev F_xattr_Drop : Nat := 9
theorem func_xattr_Drop : P.funcs[F_xattr_Drop]? = some Go.Proofs.Try.f9 := Go.Proofs.Try.func9
theorem nt_xattr_Drop : Go.Proofs.Try.f9.ntmps = 28 := Go.Proofs.Try.ntmps9
theorem call_xattr_Drop : CallOk P F_xattr_Drop := fun a w => Go.Proofs.Try.call9 a w
abbrev F_cloisterref16_Drop : Nat := 10
theorem func_cloisterref16_Drop : P.funcs[F_cloisterref16_Drop]? = some Go.Proofs.Try.f10 := Go.Proofs.Try.func10
theorem nt_cloisterref16_Drop : Go.Proofs.Try.f10.ntmps = 36 := Go.Proofs.Try.ntmps10
theorem call_cloisterref16_Drop : CallOk P F_cloisterref16_Drop := fun a w => Go.Proofs.Try.call10 a w
abbrev F_cloisterref16_Index : Nat := 11
theorem func_cloisterref16_Index : P.funcs[F_cloisterref16_Index]? = some Go.Proofs.Try.f11 := Go.Proofs.Try.func11
theorem nt_cloisterref16_Index : Go.Proofs.Try.f11.ntmps = 20 := Go.Proofs.Try.ntmps11
theorem call_cloisterref16_Index : CallOk P F_cloisterref16_Index := fun a w => Go.Proofs.Try.call11 a w
abbrev F_cloisterlaw16_fixed : Nat := 12
theorem func_cloisterlaw16_fixed : P.funcs[F_cloisterlaw16_fixed]? = some Go.Proofs.Try.f12 := Go.Proofs.Try.func12
theorem nt_cloisterlaw16_fixed : Go.Proofs.Try.f12.ntmps = 32 := Go.Proofs.Try.ntmps12
theorem call_cloisterlaw16_fixed : CallOk P F_cloisterlaw16_fixed := fun a w => Go.Proofs.Try.call12 a w
abbrev F_xattr_Check : Nat := 13
theorem func_xattr_Check : P.funcs[F_xattr_Check]? = some Go.Proofs.Try.f13 := Go.Proofs.Try.func13
theorem nt_xattr_Check : Go.Proofs.Try.f13.ntmps = 37 := Go.Proofs.Try.ntmps13
theorem call_xattr_Check : CallOk P F_xattr_Check := fun a w => Go.Proofs.Try.call13 a w
abbrev F_cloisterref16_Same : Nat := 14
theorem func_cloisterref16_Same : P.funcs[F_cloisterref16_Same]? = some Go.Proofs.Try.f14 := Go.Proofs.Try.func14
theorem nt_cloisterref16_Same : Go.Proofs.Try.f14.ntmps = 43 := Go.Proofs.Try.ntmps14
theorem call_cloisterref16_Same : CallOk P F_cloisterref16_Same := fun a w => Go.Proofs.Try.call14 a w
abbrev F_xattr_Names : Nat := 15
theorem func_xattr_Names : P.funcs[F_xattr_Names]? = some Go.Proofs.Try.f15 := Go.Proofs.Try.func15
theorem nt_xattr_Names : Go.Proofs.Try.f15.ntmps = 19 := Go.Proofs.Try.ntmps15
theorem call_xattr_Names : CallOk P F_xattr_Names := fun a w => Go.Proofs.Try.call15 a w
abbrev F_cloisterref16_One : Nat := 16
theorem func_cloisterref16_One : P.funcs[F_cloisterref16_One]? = some Go.Proofs.Try.f16 := Go.Proofs.Try.func16
theorem nt_cloisterref16_One : Go.Proofs.Try.f16.ntmps = 29 := Go.Proofs.Try.ntmps16
theorem call_cloisterref16_One : CallOk P F_cloisterref16_One := fun a w => Go.Proofs.Try.call16 a w
abbrev F_xattr_at : Nat := 17
theorem func_xattr_at : P.funcs[F_xattr_at]? = some Go.Proofs.Try.f17 := Go.Proofs.Try.func17
theorem nt_xattr_at : Go.Proofs.Try.f17.ntmps = 11 := Go.Proofs.Try.ntmps17
theorem call_xattr_at : CallOk P F_xattr_at := fun a w => Go.Proofs.Try.call17 a w
abbrev F_slices_Clone_byte : Nat := 18
theorem func_slices_Clone_byte : P.funcs[F_slices_Clone_byte]? = some Go.Proofs.Try.f18 := Go.Proofs.Try.func18
theorem nt_slices_Clone_byte : Go.Proofs.Try.f18.ntmps = 8 := Go.Proofs.Try.ntmps18
theorem call_slices_Clone_byte : CallOk P F_slices_Clone_byte := fun a w => Go.Proofs.Try.call18 a w
abbrev F_xattr_one : Nat := 19
theorem func_xattr_one : P.funcs[F_xattr_one]? = some Go.Proofs.Try.f19 := Go.Proofs.Try.func19
theorem nt_xattr_one : Go.Proofs.Try.f19.ntmps = 23 := Go.Proofs.Try.ntmps19
theorem call_xattr_one : CallOk P F_xattr_one := fun a w => Go.Proofs.Try.call19 a w
abbrev F_xattr_copied : Nat := 20
theorem func_xattr_copied : P.funcs[F_xattr_copied]? = some Go.Proofs.Try.f20 := Go.Proofs.Try.func20
theorem nt_xattr_copied : Go.Proofs.Try.f20.ntmps = 23 := Go.Proofs.Try.ntmps20
theorem call_xattr_copied : CallOk P F_xattr_copied := fun a w => Go.Proofs.Try.call20 a w
abbrev F_slices_Insert_Xattr : Nat := 21
theorem func_slices_Insert_Xattr : P.funcs[F_slices_Insert_Xattr]? = some Go.Proofs.Try.f21 := Go.Proofs.Try.func21
theorem nt_slices_Insert_Xattr : Go.Proofs.Try.f21.ntmps = 95 := Go.Proofs.Try.ntmps21
theorem call_slices_Insert_Xattr : CallOk P F_slices_Insert_Xattr := fun a w => Go.Proofs.Try.call21 a w
abbrev F_slices_Delete_Xattr : Nat := 22
theorem func_slices_Delete_Xattr : P.funcs[F_slices_Delete_Xattr]? = some Go.Proofs.Try.f22 := Go.Proofs.Try.func22
theorem nt_slices_Delete_Xattr : Go.Proofs.Try.f22.ntmps = 33 := Go.Proofs.Try.ntmps22
theorem call_slices_Delete_Xattr : CallOk P F_slices_Delete_Xattr := fun a w => Go.Proofs.Try.call22 a w
abbrev F_slices_BinarySearchFunc_Xattr : Nat := 23
theorem func_slices_BinarySearchFunc_Xattr : P.funcs[F_slices_BinarySearchFunc_Xattr]? = some Go.Proofs.Try.f23 := Go.Proofs.Try.func23
theorem nt_slices_BinarySearchFunc_Xattr : Go.Proofs.Try.f23.ntmps = 49 := Go.Proofs.Try.ntmps23
theorem call_slices_BinarySearchFunc_Xattr : CallOk P F_slices_BinarySearchFunc_Xattr := fun a w => Go.Proofs.Try.call23 a w
abbrev F_xattr_at_1 : Nat := 24
theorem func_xattr_at_1 : P.funcs[F_xattr_at_1]? = some Go.Proofs.Try.f24 := Go.Proofs.Try.func24
theorem nt_xattr_at_1 : Go.Proofs.Try.f24.ntmps = 9 := Go.Proofs.Try.ntmps24
theorem call_xattr_at_1 : CallOk P F_xattr_at_1 := fun a w => Go.Proofs.Try.call24 a w
abbrev F_strings_Compare : Nat := 25
theorem func_strings_Compare : P.funcs[F_strings_Compare]? = some Go.Proofs.Try.f25 := Go.Proofs.Try.func25
theorem nt_strings_Compare : Go.Proofs.Try.f25.ntmps = 8 := Go.Proofs.Try.ntmps25
theorem call_strings_Compare : CallOk P F_strings_Compare := fun a w => Go.Proofs.Try.call25 a w
abbrev F_strings_Contains : Nat := 26
theorem func_strings_Contains : P.funcs[F_strings_Contains]? = some Go.Proofs.Try.f26 := Go.Proofs.Try.func26
theorem nt_strings_Contains : Go.Proofs.Try.f26.ntmps = 9 := Go.Proofs.Try.ntmps26
theorem call_strings_Contains : CallOk P F_strings_Contains := fun a w => Go.Proofs.Try.call26 a w
abbrev F_slices_overlaps_api_Xattr : Nat := 27
theorem func_slices_overlaps_api_Xattr : P.funcs[F_slices_overlaps_api_Xattr]? = some Go.Proofs.Try.f27 := Go.Proofs.Try.func27
noncomputable abbrev fn_slices_overlaps_api_Xattr := Go.Proofs.Try.f27
abbrev F_slices_rotateRight_api_Xattr : Nat := 28
theorem func_slices_rotateRight_api_Xattr : P.funcs[F_slices_rotateRight_api_Xattr]? = some Go.Proofs.Try.f28 := Go.Proofs.Try.func28
theorem nt_slices_rotateRight_api_Xattr : Go.Proofs.Try.f28.ntmps = 10 := Go.Proofs.Try.ntmps28
theorem call_slices_rotateRight_api_Xattr : CallOk P F_slices_rotateRight_api_Xattr := fun a w => Go.Proofs.Try.call28 a w
abbrev F_bytealg_CompareString : Nat := 29
theorem func_bytealg_CompareString : P.funcs[F_bytealg_CompareString]? = some Go.Proofs.Try.f29 := Go.Proofs.Try.func29
theorem nt_bytealg_CompareString : Go.Proofs.Try.f29.ntmps = 8 := Go.Proofs.Try.ntmps29
theorem call_bytealg_CompareString : CallOk P F_bytealg_CompareString := fun a w => Go.Proofs.Try.call29 a w
abbrev F_strings_Index : Nat := 30
theorem func_strings_Index : P.funcs[F_strings_Index]? = some Go.Proofs.Try.f30 := Go.Proofs.Try.func30
theorem nt_strings_Index : Go.Proofs.Try.f30.ntmps = 8 := Go.Proofs.Try.ntmps30
theorem call_strings_Index : CallOk P F_strings_Index := fun a w => Go.Proofs.Try.call30 a w
abbrev F_slices_rotateLeft_api_Xattr : Nat := 31
theorem func_slices_rotateLeft_api_Xattr : P.funcs[F_slices_rotateLeft_api_Xattr]? = some Go.Proofs.Try.f31 := Go.Proofs.Try.func31
theorem nt_slices_rotateLeft_api_Xattr : Go.Proofs.Try.f31.ntmps = 14 := Go.Proofs.Try.ntmps31
theorem call_slices_rotateLeft_api_Xattr : CallOk P F_slices_rotateLeft_api_Xattr := fun a w => Go.Proofs.Try.call31 a w
abbrev F_bytealg_abigen_runtime_cmpstring : Nat := 32
theorem func_bytealg_abigen_runtime_cmpstring : P.funcs[F_bytealg_abigen_runtime_cmpstring]? = some Go.Proofs.Try.f32 := Go.Proofs.Try.func32
noncomputable abbrev fn_bytealg_abigen_runtime_cmpstring := Go.Proofs.Try.f32
abbrev F_stringslite_Index : Nat := 33
theorem func_stringslite_Index : P.funcs[F_stringslite_Index]? = some Go.Proofs.Try.f33 := Go.Proofs.Try.func33
theorem nt_stringslite_Index : Go.Proofs.Try.f33.ntmps = 143 := Go.Proofs.Try.ntmps33
theorem call_stringslite_Index : CallOk P F_stringslite_Index := fun a w => Go.Proofs.Try.call33 a w
abbrev F_slices_Reverse_Xattr : Nat := 34
theorem func_slices_Reverse_Xattr : P.funcs[F_slices_Reverse_Xattr]? = some Go.Proofs.Try.f34 := Go.Proofs.Try.func34
theorem nt_slices_Reverse_Xattr : Go.Proofs.Try.f34.ntmps = 28 := Go.Proofs.Try.ntmps34
theorem call_slices_Reverse_Xattr : CallOk P F_slices_Reverse_Xattr := fun a w => Go.Proofs.Try.call34 a w
abbrev F_stringslite_IndexByte : Nat := 35
theorem func_stringslite_IndexByte : P.funcs[F_stringslite_IndexByte]? = some Go.Proofs.Try.f35 := Go.Proofs.Try.func35
theorem nt_stringslite_IndexByte : Go.Proofs.Try.f35.ntmps = 8 := Go.Proofs.Try.ntmps35
theorem call_stringslite_IndexByte : CallOk P F_stringslite_IndexByte := fun a w => Go.Proofs.Try.call35 a w
abbrev F_bytealg_IndexString : Nat := 36
theorem func_bytealg_IndexString : P.funcs[F_bytealg_IndexString]? = some Go.Proofs.Try.f36 := Go.Proofs.Try.func36
noncomputable abbrev fn_bytealg_IndexString := Go.Proofs.Try.f36
abbrev F_bytealg_Cutover : Nat := 37
theorem func_bytealg_Cutover : P.funcs[F_bytealg_Cutover]? = some Go.Proofs.Try.f37 := Go.Proofs.Try.func37
theorem nt_bytealg_Cutover : Go.Proofs.Try.f37.ntmps = 6 := Go.Proofs.Try.ntmps37
theorem call_bytealg_Cutover : CallOk P F_bytealg_Cutover := fun a w => Go.Proofs.Try.call37 a w
abbrev F_bytealg_IndexRabinKarp_string : Nat := 38
theorem func_bytealg_IndexRabinKarp_string : P.funcs[F_bytealg_IndexRabinKarp_string]? = some Go.Proofs.Try.f38 := Go.Proofs.Try.func38
theorem nt_bytealg_IndexRabinKarp_string : Go.Proofs.Try.f38.ntmps = 81 := Go.Proofs.Try.ntmps38
theorem call_bytealg_IndexRabinKarp_string : CallOk P F_bytealg_IndexRabinKarp_string := fun a w => Go.Proofs.Try.call38 a w
abbrev F_bytealg_IndexByteString : Nat := 39
theorem func_bytealg_IndexByteString : P.funcs[F_bytealg_IndexByteString]? = some Go.Proofs.Try.f39 := Go.Proofs.Try.func39
noncomputable abbrev fn_bytealg_IndexByteString := Go.Proofs.Try.f39
abbrev F_bytealg_hashStr_string : Nat := 40
theorem func_bytealg_hashStr_string : P.funcs[F_bytealg_hashStr_string]? = some Go.Proofs.Try.f40 := Go.Proofs.Try.func40
theorem nt_bytealg_hashStr_string : Go.Proofs.Try.f40.ntmps = 39 := Go.Proofs.Try.ntmps40
theorem call_bytealg_hashStr_string : CallOk P F_bytealg_hashStr_string := fun a w => Go.Proofs.Try.call40 a w
abbrev F_runtime_boundsError_Error : Nat := 41
theorem func_runtime_boundsError_Error : P.funcs[F_runtime_boundsError_Error]? = some Go.Proofs.Try.f41 := Go.Proofs.Try.func41
noncomputable abbrev fn_runtime_boundsError_Error := Go.Proofs.Try.f41
abbrev F_runtime_boundsError_RuntimeError : Nat := 42
theorem func_runtime_boundsError_RuntimeError : P.funcs[F_runtime_boundsError_RuntimeError]? = some Go.Proofs.Try.f42 := Go.Proofs.Try.func42
noncomputable abbrev fn_runtime_boundsError_RuntimeError := Go.Proofs.Try.f42
abbrev F_runtime_errorString_Error : Nat := 43
theorem func_runtime_errorString_Error : P.funcs[F_runtime_errorString_Error]? = some Go.Proofs.Try.f43 := Go.Proofs.Try.func43
noncomputable abbrev fn_runtime_errorString_Error := Go.Proofs.Try.f43
abbrev F_runtime_errorString_RuntimeError : Nat := 44
theorem func_runtime_errorString_RuntimeError : P.funcs[F_runtime_errorString_RuntimeError]? = some Go.Proofs.Try.f44 := Go.Proofs.Try.func44
noncomputable abbrev fn_runtime_errorString_RuntimeError := Go.Proofs.Try.f44
abbrev F_runtime_plainError_Error : Nat := 45
theorem func_runtime_plainError_Error : P.funcs[F_runtime_plainError_Error]? = some Go.Proofs.Try.f45 := Go.Proofs.Try.func45
noncomputable abbrev fn_runtime_plainError_Error := Go.Proofs.Try.f45
abbrev F_runtime_plainError_RuntimeError : Nat := 46
theorem func_runtime_plainError_RuntimeError : P.funcs[F_runtime_plainError_RuntimeError]? = some Go.Proofs.Try.f46 := Go.Proofs.Try.func46
noncomputable abbrev fn_runtime_plainError_RuntimeError := Go.Proofs.Try.f46
abbrev F_runtime_errorAddressString_Error : Nat := 47
theorem func_runtime_errorAddressString_Error : P.funcs[F_runtime_errorAddressString_Error]? = some Go.Proofs.Try.f47 := Go.Proofs.Try.func47
noncomputable abbrev fn_runtime_errorAddressString_Error := Go.Proofs.Try.f47
abbrev F_runtime_errorAddressString_RuntimeError : Nat := 48
theorem func_runtime_errorAddressString_RuntimeError : P.funcs[F_runtime_errorAddressString_RuntimeError]? = some Go.Proofs.Try.f48 := Go.Proofs.Try.func48
noncomputable abbrev fn_runtime_errorAddressString_RuntimeError := Go.Proofs.Try.f48
abbrev F_runtime_TypeAssertionError_Error : Nat := 49
theorem func_runtime_TypeAssertionError_Error : P.funcs[F_runtime_TypeAssertionError_Error]? = some Go.Proofs.Try.f49 := Go.Proofs.Try.func49
noncomputable abbrev fn_runtime_TypeAssertionError_Error := Go.Proofs.Try.f49
abbrev F_runtime_TypeAssertionError_RuntimeError : Nat := 50
theorem func_runtime_TypeAssertionError_RuntimeError : P.funcs[F_runtime_TypeAssertionError_RuntimeError]? = some Go.Proofs.Try.f50 := Go.Proofs.Try.func50
noncomputable abbrev fn_runtime_TypeAssertionError_RuntimeError := Go.Proofs.Try.f50
abbrev F_runtime_PanicNilError_Error : Nat := 51
theorem func_runtime_PanicNilError_Error : P.funcs[F_runtime_PanicNilError_Error]? = some Go.Proofs.Try.f51 := Go.Proofs.Try.func51
noncomputable abbrev fn_runtime_PanicNilError_Error := Go.Proofs.Try.f51
abbrev F_runtime_PanicNilError_RuntimeError : Nat := 52
theorem func_runtime_PanicNilError_RuntimeError : P.funcs[F_runtime_PanicNilError_RuntimeError]? = some Go.Proofs.Try.f52 := Go.Proofs.Try.func52
noncomputable abbrev fn_runtime_PanicNilError_RuntimeError := Go.Proofs.Try.f52
abbrev F_abi_Type_Align : Nat := 53
theorem func_abi_Type_Align : P.funcs[F_abi_Type_Align]? = some Go.Proofs.Try.f53 := Go.Proofs.Try.func53
noncomputable abbrev fn_abi_Type_Align := Go.Proofs.Try.f53
abbrev F_runtime_maps_unhashableTypeError_Error : Nat := 54
theorem func_runtime_maps_unhashableTypeError_Error : P.funcs[F_runtime_maps_unhashableTypeError_Error]? = some Go.Proofs.Try.f54 := Go.Proofs.Try.func54
noncomputable abbrev fn_runtime_maps_unhashableTypeError_Error := Go.Proofs.Try.f54
abbrev F_runtime_maps_unhashableTypeError_RuntimeError : Nat := 55
theorem func_runtime_maps_unhashableTypeError_RuntimeError : P.funcs[F_runtime_maps_unhashableTypeError_RuntimeError]? = some Go.Proofs.Try.f55 := Go.Proofs.Try.func55
noncomputable abbrev fn_runtime_maps_unhashableTypeError_RuntimeError := Go.Proofs.Try.f55
abbrev F_abi_Kind_String : Nat := 56
theorem func_abi_Kind_String : P.funcs[F_abi_Kind_String]? = some Go.Proofs.Try.f56 := Go.Proofs.Try.func56
noncomputable abbrev fn_abi_Kind_String := Go.Proofs.Try.f56
abbrev T_none : Nat := 0
abbrev T_func : Nat := 1
abbrev T_int64 : Nat := 2
abbrev T_int : Nat := 3
abbrev T_bool : Nat := 4
abbrev T_uint8 : Nat := 5
abbrev T_abi_BoundsErrorCode : Nat := 6
abbrev T_struct_x_int64_y_int_signed_bool_code_abi_BoundsErrorCode : Nat := 7
abbrev T_runtime_boundsError : Nat := 8
abbrev T_string : Nat := 9
abbrev T_runtime_errorString : Nat := 10
abbrev T_runtime_plainError : Nat := 11
abbrev T_uintptr : Nat := 12
abbrev T_struct_msg_string_addr_uintptr : Nat := 13
abbrev T_runtime_errorAddressString : Nat := 14
abbrev T_pruntime_TypeAssertionError : Nat := 15
abbrev T_pruntime_PanicNilError : Nat := 16
abbrev T_pabi_Type : Nat := 17
abbrev T_struct_typ_pabi_Type : Nat := 18
abbrev T_maps_unhashableTypeError : Nat := 19
abbrev T_interface : Nat := 20
abbrev T_int32 : Nat := 21
abbrev T_slapi_Xattr : Nat := 22
abbrev T_sluint8 : Nat := 23
abbrev T_funcslapi_Xattr_slapi_Xattr : Nat := 24
abbrev T_funcslapi_Xattr_bool : Nat := 25
abbrev T_api_Errno : Nat := 26
abbrev T_sluint8_api_Errno : Nat := 27
abbrev T_funcslapi_Xattr_string_sluint8_api_Errno : Nat := 28
abbrev T_slapi_Xattr_api_Errno : Nat := 29
abbrev T_funcslapi_Xattr_string_sluint8_slapi_Xattr_api_Errno : Nat := 30
abbrev T_slapi_Xattr_int : Nat := 31
abbrev T_funcslapi_Xattr_string_sluint8_slapi_Xattr_int : Nat := 32
abbrev T_funcslapi_Xattr_string_slapi_Xattr_api_Errno : Nat := 33
abbrev T_funcslapi_Xattr_string_slapi_Xattr_int : Nat := 34
abbrev T_funcslapi_Xattr_string_int : Nat := 35
abbrev T_struct_Name_string_Value_sluint8 : Nat := 36
abbrev T_api_Xattr : Nat := 37
abbrev T_func_bool : Nat := 38
abbrev T_funcslapi_Xattr_api_Errno : Nat := 39
abbrev T_funcslapi_Xattr_slapi_Xattr_bool : Nat := 40
abbrev T_slstring : Nat := 41
abbrev T_funcslapi_Xattr_slstring : Nat := 42
abbrev T_funcslapi_Xattr_string_sluint8_bool : Nat := 43
abbrev T_funcstring_sluint8_bool : Nat := 44
abbrev T_int_bool : Nat := 45
abbrev T_funcslapi_Xattr_string_int_bool : Nat := 46
abbrev T_funcsluint8_sluint8 : Nat := 47
abbrev T_funcslapi_Xattr_int_api_Xattr_slapi_Xattr : Nat := 48
abbrev T_funcslapi_Xattr_int_int_slapi_Xattr : Nat := 49
abbrev T_funcslapi_Xattr_string_funcapi_Xattr_string_int_int_bool : Nat := 50
abbrev T_funcstring_string_int : Nat := 51
abbrev T_funcapi_Xattr_string_int : Nat := 52
abbrev T_funcstring_string_bool : Nat := 53
abbrev T_funcslapi_Xattr_int : Nat := 54
abbrev T_uint : Nat := 55
abbrev T_funcslapi_Xattr : Nat := 56
abbrev T_funcstring_uint8_int : Nat := 57
abbrev T_funcint_int : Nat := 58
abbrev T_uint32 : Nat := 59
abbrev T_uint32_uint32 : Nat := 60
abbrev T_funcstring_uint32_uint32 : Nat := 61
abbrev T_func_string : Nat := 62
abbrev T_struct_interface_pabi_Type_concrete_pabi_Type_asserted_pabi_Type_missingMethod_string : Nat := 63
abbrev T_runtime_TypeAssertionError : Nat := 64
abbrev T_0_pruntime_PanicNilError : Nat := 65
abbrev T_struct_0_pruntime_PanicNilError : Nat := 66
abbrev T_runtime_PanicNilError : Nat := 67
abbrev T_func_int : Nat := 68
abbrev T_abi_TFlag : Nat := 69
abbrev T_abi_Kind : Nat := 70
abbrev T_funcunsafe_Pointer_unsafe_Pointer_bool : Nat := 71
abbrev T_puint8 : Nat := 72
abbrev T_abi_NameOff : Nat := 73
abbrev T_abi_TypeOff : Nat := 74
abbrev T_struct_Size_uintptr_PtrBytes_uintptr_Hash_uint32_TFlag_abi_TFlag_Align_uint8_FieldAlign_uint8_Kind_abi_Kind_Equal_funcunsafe_Pointer_unsafe_Pointer_bool_GCData_puint8_Str_abi_NameOff_PtrToThis_abi_TypeOff : Nat := 75
abbrev T_abi_Type : Nat := 76
abbrev T_unsafe_Pointer : Nat := 77
theorem fld_api_Xattr_Name : Fld P 37 0 0 := Fld.mk Go.Proofs.Try.underlying37 rfl rfl (fun w => Go.Proofs.Try.sizeOf9 w) (by decide)
theorem fld_api_Xattr_Value : Fld P 37 1 1 := Fld.mk Go.Proofs.Try.underlying37 rfl rfl (fun w => Go.Proofs.Try.sizeOf23 w) (by decide)
theorem one_int : One P 3 := fun w => ⟨Go.Proofs.Try.isAgg3 w, Go.Proofs.Try.sizeOf3 w⟩
theorem one_uint8 : One P 5 := fun w => ⟨Go.Proofs.Try.isAgg5 w, Go.Proofs.Try.sizeOf5 w⟩
theorem one_string : One P 9 := fun w => ⟨Go.Proofs.Try.isAgg9 w, Go.Proofs.Try.sizeOf9 w⟩
theorem one_sluint8 : One P 23 := fun w => ⟨Go.Proofs.Try.isAgg23 w, Go.Proofs.Try.sizeOf23 w⟩
theorem agg_api_Xattr : Agg P 37 2 := fun w => ⟨Go.Proofs.Try.isAgg37 w, Go.Proofs.Try.sizeOf37 w⟩
theorem els_slapi_Xattr : ElS P 22 37 2 := ⟨Go.Proofs.Try.underlying22, fun w => Go.Proofs.Try.sizeOf37 w⟩
theorem els_sluint8 : ElS P 23 5 1 := ⟨Go.Proofs.Try.underlying23, fun w => Go.Proofs.Try.sizeOf5 w⟩
theorem els_slstring : ElS P 41 9 1 := ⟨Go.Proofs.Try.underlying41, fun w => Go.Proofs.Try.sizeOf9 w⟩
theorem und_int : P.underlying 3 = some (.int .i64) := Go.Proofs.Try.underlying3
theorem und_bool : P.underlying 4 = some .bool := Go.Proofs.Try.underlying4
theorem und_uint8 : P.underlying 5 = some (.int .u8) := Go.Proofs.Try.underlying5
theorem und_string : P.underlying 9 = some .string := Go.Proofs.Try.underlying9
theorem und_sluint8 : P.underlying 23 = some (.slice 5) := Go.Proofs.Try.underlying23
theorem und_uint : P.underlying 55 = some (.int .u64) := Go.Proofs.Try.underlying55
theorem und_uint32 : P.underlying 59 = some (.int .u32) := Go.Proofs.Try.underlying59
theorem zero_uint8 (w : World) : (zeroValue 5).run P w = .ok (.int .u8 0) w := Go.Proofs.Try.zeroValue5 w
theorem zero_string (w : World) : (zeroValue 9).run P w = .ok (.string ⟨#[]⟩) w := Go.Proofs.Try.zeroValue9 w
theorem zero_api_Xattr (w : World) : (zeroValue 37).run P w = .ok (.agg #[.string ⟨#[]⟩, .slice none 0 0]) w := Go.Proofs.Try.zeroValue37 w
theorem info_uint8 : InfoOk P 5 (.int .u8 0) 1 1 := InfoOk.mk (by kernel_rfl) rfl
theorem info_string : InfoOk P 9 (.string ⟨#[]⟩) 1 16 := InfoOk.mk (by kernel_rfl) rfl
theorem info_api_Xattr : InfoOk P 37 (.agg #[.string ⟨#[]⟩, .slice none 0 0]) 2 40 := InfoOk.mk (by kernel_rfl) rfl
theorem bld_api_Xattr : BldOk P 37 (.agg #[.string ⟨#[]⟩, .slice none 0 0]) [(0, 1), (1, 1)] := BldOk.mk (by kernel_rfl) Go.Proofs.Try.underlying37 (by kernel_rfl)
end Go.Proofs.Ytodaagikppaidaa.Cw
