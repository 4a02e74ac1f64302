/- The types and functions of this translation by name, made by names.py; facts that the kernel reckons. -/
import Derived.Test.YtidmhfggemmegaaProg
import Derived.KernelRfl
import Derived.Test.YtidmhfggemmegaaFxS
import Derived.Test.YtidmhfggemmegaaFxG
namespace Go.Fx

noncomputable abbrev PG : Program := Go.Proofs.Try.prog
abbrev T_int64 : Nat := 2
theorem A_int64 : isAggB PG 2 = some false := by kernel_rfl
theorem Z_int64 : sizeB PG 2 = some 1 := by kernel_rfl
theorem Y_int64 : bytesB PG 2 = some 8 := by kernel_rfl
theorem I_int64 : intB PG 2 = some .i64 := by kernel_rfl
theorem N_int64 : zeroB PG 2 = some (.int .i64 0) := by kernel_rfl
theorem U_int64 : (PG.underlying 2).isSome = true := by kernel_rfl
abbrev T_int : Nat := 3
theorem A_int : isAggB PG 3 = some false := by kernel_rfl
theorem Z_int : sizeB PG 3 = some 1 := by kernel_rfl
theorem Y_int : bytesB PG 3 = some 8 := by kernel_rfl
theorem I_int : intB PG 3 = some .i64 := by kernel_rfl
theorem N_int : zeroB PG 3 = some (.int .i64 0) := by kernel_rfl
theorem U_int : (PG.underlying 3).isSome = true := by kernel_rfl
abbrev T_bool : Nat := 4
theorem A_bool : isAggB PG 4 = some false := by kernel_rfl
theorem Z_bool : sizeB PG 4 = some 1 := by kernel_rfl
theorem Y_bool : bytesB PG 4 = some 1 := by kernel_rfl
theorem Q_bool : boolB PG 4 = true := by kernel_rfl
theorem N_bool : zeroB PG 4 = some (.bool false) := by kernel_rfl
theorem U_bool : (PG.underlying 4).isSome = true := by kernel_rfl
abbrev T_uint8 : Nat := 5
theorem A_uint8 : isAggB PG 5 = some false := by kernel_rfl
theorem Z_uint8 : sizeB PG 5 = some 1 := by kernel_rfl
theorem Y_uint8 : bytesB PG 5 = some 1 := by kernel_rfl
theorem I_uint8 : intB PG 5 = some .u8 := by kernel_rfl
theorem N_uint8 : zeroB PG 5 = some (.int .u8 0) := by kernel_rfl
theorem U_uint8 : (PG.underlying 5).isSome = true := by kernel_rfl
abbrev T_st7 : Nat := 7
theorem A_st7 : isAggB PG 7 = some true := by kernel_rfl
theorem Z_st7 : sizeB PG 7 = some 4 := by kernel_rfl
theorem Y_st7 : bytesB PG 7 = some 24 := by kernel_rfl
theorem U_st7 : (PG.underlying 7).isSome = true := by kernel_rfl
abbrev T_string : Nat := 9
theorem A_string : isAggB PG 9 = some false := by kernel_rfl
theorem Z_string : sizeB PG 9 = some 1 := by kernel_rfl
theorem Y_string : bytesB PG 9 = some 16 := by kernel_rfl
theorem U_string : (PG.underlying 9).isSome = true := by kernel_rfl
abbrev T_uintptr : Nat := 12
theorem A_uintptr : isAggB PG 12 = some false := by kernel_rfl
theorem Z_uintptr : sizeB PG 12 = some 1 := by kernel_rfl
theorem Y_uintptr : bytesB PG 12 = some 8 := by kernel_rfl
theorem I_uintptr : intB PG 12 = some .u64 := by kernel_rfl
theorem N_uintptr : zeroB PG 12 = some (.int .u64 0) := by kernel_rfl
theorem U_uintptr : (PG.underlying 12).isSome = true := by kernel_rfl
abbrev T_st13 : Nat := 13
theorem A_st13 : isAggB PG 13 = some true := by kernel_rfl
theorem Z_st13 : sizeB PG 13 = some 2 := by kernel_rfl
theorem Y_st13 : bytesB PG 13 = some 24 := by kernel_rfl
theorem U_st13 : (PG.underlying 13).isSome = true := by kernel_rfl
abbrev T_st18 : Nat := 18
theorem A_st18 : isAggB PG 18 = some true := by kernel_rfl
theorem Z_st18 : sizeB PG 18 = some 1 := by kernel_rfl
theorem Y_st18 : bytesB PG 18 = some 8 := by kernel_rfl
theorem U_st18 : (PG.underlying 18).isSome = true := by kernel_rfl
abbrev T_int32 : Nat := 21
theorem A_int32 : isAggB PG 21 = some false := by kernel_rfl
theorem Z_int32 : sizeB PG 21 = some 1 := by kernel_rfl
theorem Y_int32 : bytesB PG 21 = some 4 := by kernel_rfl
theorem I_int32 : intB PG 21 = some .i32 := by kernel_rfl
theorem N_int32 : zeroB PG 21 = some (.int .i32 0) := by kernel_rfl
theorem U_int32 : (PG.underlying 21).isSome = true := by kernel_rfl
abbrev T_sl_annuletlaw19_Op : Nat := 22
theorem A_sl_annuletlaw19_Op : isAggB PG 22 = some false := by kernel_rfl
theorem Z_sl_annuletlaw19_Op : sizeB PG 22 = some 1 := by kernel_rfl
theorem Y_sl_annuletlaw19_Op : bytesB PG 22 = some 24 := by kernel_rfl
theorem L_sl_annuletlaw19_Op : elemB PG 22 = some 37 := by kernel_rfl
theorem N_sl_annuletlaw19_Op : zeroB PG 22 = some (.slice none 0 0) := by kernel_rfl
theorem U_sl_annuletlaw19_Op : (PG.underlying 22).isSome = true := by kernel_rfl
abbrev T_pt_copies_Book : Nat := 23
theorem A_pt_copies_Book : isAggB PG 23 = some false := by kernel_rfl
theorem Z_pt_copies_Book : sizeB PG 23 = some 1 := by kernel_rfl
theorem Y_pt_copies_Book : bytesB PG 23 = some 8 := by kernel_rfl
theorem P_pt_copies_Book : ptrB PG 23 = true := by kernel_rfl
theorem N_pt_copies_Book : zeroB PG 23 = some (.pointer none) := by kernel_rfl
theorem U_pt_copies_Book : (PG.underlying 23).isSome = true := by kernel_rfl
abbrev T_pt_annuletref19_Book : Nat := 25
theorem A_pt_annuletref19_Book : isAggB PG 25 = some false := by kernel_rfl
theorem Z_pt_annuletref19_Book : sizeB PG 25 = some 1 := by kernel_rfl
theorem Y_pt_annuletref19_Book : bytesB PG 25 = some 8 := by kernel_rfl
theorem P_pt_annuletref19_Book : ptrB PG 25 = true := by kernel_rfl
theorem N_pt_annuletref19_Book : zeroB PG 25 = some (.pointer none) := by kernel_rfl
theorem U_pt_annuletref19_Book : (PG.underlying 25).isSome = true := by kernel_rfl
abbrev T_sl_annuletref19_Note : Nat := 26
theorem A_sl_annuletref19_Note : isAggB PG 26 = some false := by kernel_rfl
theorem Z_sl_annuletref19_Note : sizeB PG 26 = some 1 := by kernel_rfl
theorem Y_sl_annuletref19_Note : bytesB PG 26 = some 24 := by kernel_rfl
theorem L_sl_annuletref19_Note : elemB PG 26 = some 66 := by kernel_rfl
theorem N_sl_annuletref19_Note : zeroB PG 26 = some (.slice none 0 0) := by kernel_rfl
theorem U_sl_annuletref19_Note : (PG.underlying 26).isSome = true := by kernel_rfl
abbrev T_st27 : Nat := 27
theorem A_st27 : isAggB PG 27 = some true := by kernel_rfl
theorem Z_st27 : sizeB PG 27 = some 1 := by kernel_rfl
theorem Y_st27 : bytesB PG 27 = some 24 := by kernel_rfl
theorem U_st27 : (PG.underlying 27).isSome = true := by kernel_rfl
abbrev T_annuletref19_Book : Nat := 28
theorem A_annuletref19_Book : isAggB PG 28 = some true := by kernel_rfl
theorem Z_annuletref19_Book : sizeB PG 28 = some 1 := by kernel_rfl
theorem Y_annuletref19_Book : bytesB PG 28 = some 24 := by kernel_rfl
theorem F_annuletref19_Book_L : fieldB PG 28 0 = some (0, 26) := by kernel_rfl
theorem W_annuletref19_Book (w : World) : placesR PG 28 w = .ok #[(0, 1)] w := by kernel_rfl
theorem N_annuletref19_Book : zeroB PG 28 = some (.agg annuletref19_Book.zero.enc) := by kernel_rfl
theorem U_annuletref19_Book : (PG.underlying 28).isSome = true := by kernel_rfl
abbrev T_ar16_uint8 : Nat := 30
theorem A_ar16_uint8 : isAggB PG 30 = some true := by kernel_rfl
theorem Z_ar16_uint8 : sizeB PG 30 = some 16 := by kernel_rfl
theorem Y_ar16_uint8 : bytesB PG 30 = some 16 := by kernel_rfl
theorem R_ar16_uint8 : arrB PG 30 = some (16, 5) := by kernel_rfl
theorem N_ar16_uint8 : zeroB PG 30 = some (.agg Idn.zero.enc) := by kernel_rfl
theorem U_ar16_uint8 : (PG.underlying 30).isSome = true := by kernel_rfl
abbrev T_api_ID : Nat := 31
theorem A_api_ID : isAggB PG 31 = some true := by kernel_rfl
theorem Z_api_ID : sizeB PG 31 = some 16 := by kernel_rfl
theorem Y_api_ID : bytesB PG 31 = some 16 := by kernel_rfl
theorem R_api_ID : arrB PG 31 = some (16, 5) := by kernel_rfl
theorem N_api_ID : zeroB PG 31 = some (.agg Idn.zero.enc) := by kernel_rfl
theorem U_api_ID : (PG.underlying 31).isSome = true := by kernel_rfl
abbrev T_st32 : Nat := 32
theorem A_st32 : isAggB PG 32 = some true := by kernel_rfl
theorem Z_st32 : sizeB PG 32 = some 17 := by kernel_rfl
theorem Y_st32 : bytesB PG 32 = some 24 := by kernel_rfl
theorem U_st32 : (PG.underlying 32).isSome = true := by kernel_rfl
abbrev T_api_Ver : Nat := 33
theorem A_api_Ver : isAggB PG 33 = some true := by kernel_rfl
theorem Z_api_Ver : sizeB PG 33 = some 17 := by kernel_rfl
theorem Y_api_Ver : bytesB PG 33 = some 24 := by kernel_rfl
theorem F_api_Ver_N : fieldB PG 33 0 = some (0, 2) := by kernel_rfl
theorem F_api_Ver_Who : fieldB PG 33 1 = some (1, 31) := by kernel_rfl
theorem W_api_Ver (w : World) : placesR PG 33 w = .ok #[(0, 1), (1, 16)] w := by kernel_rfl
theorem N_api_Ver : zeroB PG 33 = some (.agg api_Ver.zero.enc) := by kernel_rfl
theorem U_api_Ver : (PG.underlying 33).isSome = true := by kernel_rfl
abbrev T_sl_api_ID : Nat := 34
theorem A_sl_api_ID : isAggB PG 34 = some false := by kernel_rfl
theorem Z_sl_api_ID : sizeB PG 34 = some 1 := by kernel_rfl
theorem Y_sl_api_ID : bytesB PG 34 = some 24 := by kernel_rfl
theorem L_sl_api_ID : elemB PG 34 = some 31 := by kernel_rfl
theorem N_sl_api_ID : zeroB PG 34 = some (.slice none 0 0) := by kernel_rfl
theorem U_sl_api_ID : (PG.underlying 34).isSome = true := by kernel_rfl
abbrev T_sl_api_Item : Nat := 35
theorem A_sl_api_Item : isAggB PG 35 = some false := by kernel_rfl
theorem Z_sl_api_Item : sizeB PG 35 = some 1 := by kernel_rfl
theorem Y_sl_api_Item : bytesB PG 35 = some 24 := by kernel_rfl
theorem L_sl_api_Item : elemB PG 35 = some 42 := by kernel_rfl
theorem N_sl_api_Item : zeroB PG 35 = some (.slice none 0 0) := by kernel_rfl
theorem U_sl_api_Item : (PG.underlying 35).isSome = true := by kernel_rfl
abbrev T_st36 : Nat := 36
theorem A_st36 : isAggB PG 36 = some true := by kernel_rfl
theorem Z_st36 : sizeB PG 36 = some 52 := by kernel_rfl
theorem Y_st36 : bytesB PG 36 = some 112 := by kernel_rfl
theorem U_st36 : (PG.underlying 36).isSome = true := by kernel_rfl
abbrev T_annuletlaw19_Op : Nat := 37
theorem A_annuletlaw19_Op : isAggB PG 37 = some true := by kernel_rfl
theorem Z_annuletlaw19_Op : sizeB PG 37 = some 52 := by kernel_rfl
theorem Y_annuletlaw19_Op : bytesB PG 37 = some 112 := by kernel_rfl
theorem F_annuletlaw19_Op_Kind : fieldB PG 37 0 = some (0, 3) := by kernel_rfl
theorem F_annuletlaw19_Op_A : fieldB PG 37 1 = some (1, 31) := by kernel_rfl
theorem F_annuletlaw19_Op_B : fieldB PG 37 2 = some (17, 31) := by kernel_rfl
theorem F_annuletlaw19_Op_Ver : fieldB PG 37 3 = some (33, 33) := by kernel_rfl
theorem F_annuletlaw19_Op_IDs : fieldB PG 37 4 = some (50, 34) := by kernel_rfl
theorem F_annuletlaw19_Op_Items : fieldB PG 37 5 = some (51, 35) := by kernel_rfl
theorem W_annuletlaw19_Op (w : World) : placesR PG 37 w = .ok #[(0, 1), (1, 16), (17, 16), (33, 17), (50, 1), (51, 1)] w := by kernel_rfl
theorem N_annuletlaw19_Op : zeroB PG 37 = some (.agg annuletlaw19_Op.zero.enc) := by kernel_rfl
theorem U_annuletlaw19_Op : (PG.underlying 37).isSome = true := by kernel_rfl
abbrev T_sl_uint8 : Nat := 40
theorem A_sl_uint8 : isAggB PG 40 = some false := by kernel_rfl
theorem Z_sl_uint8 : sizeB PG 40 = some 1 := by kernel_rfl
theorem Y_sl_uint8 : bytesB PG 40 = some 24 := by kernel_rfl
theorem L_sl_uint8 : elemB PG 40 = some 5 := by kernel_rfl
theorem N_sl_uint8 : zeroB PG 40 = some (.slice none 0 0) := by kernel_rfl
theorem U_sl_uint8 : (PG.underlying 40).isSome = true := by kernel_rfl
abbrev T_st41 : Nat := 41
theorem A_st41 : isAggB PG 41 = some true := by kernel_rfl
theorem Z_st41 : sizeB PG 41 = some 34 := by kernel_rfl
theorem Y_st41 : bytesB PG 41 = some 64 := by kernel_rfl
theorem U_st41 : (PG.underlying 41).isSome = true := by kernel_rfl
abbrev T_api_Item : Nat := 42
theorem A_api_Item : isAggB PG 42 = some true := by kernel_rfl
theorem Z_api_Item : sizeB PG 42 = some 34 := by kernel_rfl
theorem Y_api_Item : bytesB PG 42 = some 64 := by kernel_rfl
theorem F_api_Item_Key : fieldB PG 42 0 = some (0, 31) := by kernel_rfl
theorem F_api_Item_Ver : fieldB PG 42 1 = some (16, 33) := by kernel_rfl
theorem F_api_Item_Value : fieldB PG 42 2 = some (33, 40) := by kernel_rfl
theorem W_api_Item (w : World) : placesR PG 42 w = .ok #[(0, 16), (16, 17), (33, 1)] w := by kernel_rfl
theorem N_api_Item : zeroB PG 42 = some (.agg api_Item.zero.enc) := by kernel_rfl
theorem U_api_Item : (PG.underlying 42).isSome = true := by kernel_rfl
abbrev T_sl_copies_Due : Nat := 45
theorem A_sl_copies_Due : isAggB PG 45 = some false := by kernel_rfl
theorem Z_sl_copies_Due : sizeB PG 45 = some 1 := by kernel_rfl
theorem Y_sl_copies_Due : bytesB PG 45 = some 24 := by kernel_rfl
theorem L_sl_copies_Due : elemB PG 45 = some 50 := by kernel_rfl
theorem N_sl_copies_Due : zeroB PG 45 = some (.slice none 0 0) := by kernel_rfl
theorem U_sl_copies_Due : (PG.underlying 45).isSome = true := by kernel_rfl
abbrev T_sl_annuletref19_Due : Nat := 47
theorem A_sl_annuletref19_Due : isAggB PG 47 = some false := by kernel_rfl
theorem Z_sl_annuletref19_Due : sizeB PG 47 = some 1 := by kernel_rfl
theorem Y_sl_annuletref19_Due : bytesB PG 47 = some 24 := by kernel_rfl
theorem L_sl_annuletref19_Due : elemB PG 47 = some 51 := by kernel_rfl
theorem N_sl_annuletref19_Due : zeroB PG 47 = some (.slice none 0 0) := by kernel_rfl
theorem U_sl_annuletref19_Due : (PG.underlying 47).isSome = true := by kernel_rfl
abbrev T_st49 : Nat := 49
theorem A_st49 : isAggB PG 49 = some true := by kernel_rfl
theorem Z_st49 : sizeB PG 49 = some 50 := by kernel_rfl
theorem Y_st49 : bytesB PG 49 = some 80 := by kernel_rfl
theorem U_st49 : (PG.underlying 49).isSome = true := by kernel_rfl
abbrev T_copies_Due : Nat := 50
theorem A_copies_Due : isAggB PG 50 = some true := by kernel_rfl
theorem Z_copies_Due : sizeB PG 50 = some 50 := by kernel_rfl
theorem Y_copies_Due : bytesB PG 50 = some 80 := by kernel_rfl
theorem F_copies_Due_To : fieldB PG 50 0 = some (0, 31) := by kernel_rfl
theorem F_copies_Due_Item : fieldB PG 50 1 = some (16, 42) := by kernel_rfl
theorem W_copies_Due (w : World) : placesR PG 50 w = .ok #[(0, 16), (16, 34)] w := by kernel_rfl
theorem N_copies_Due : zeroB PG 50 = some (.agg copies_Due.zero.enc) := by kernel_rfl
theorem U_copies_Due : (PG.underlying 50).isSome = true := by kernel_rfl
abbrev T_annuletref19_Due : Nat := 51
theorem A_annuletref19_Due : isAggB PG 51 = some true := by kernel_rfl
theorem Z_annuletref19_Due : sizeB PG 51 = some 50 := by kernel_rfl
theorem Y_annuletref19_Due : bytesB PG 51 = some 80 := by kernel_rfl
theorem F_annuletref19_Due_To : fieldB PG 51 0 = some (0, 31) := by kernel_rfl
theorem F_annuletref19_Due_Item : fieldB PG 51 1 = some (16, 42) := by kernel_rfl
theorem W_annuletref19_Due (w : World) : placesR PG 51 w = .ok #[(0, 16), (16, 34)] w := by kernel_rfl
theorem N_annuletref19_Due : zeroB PG 51 = some (.agg annuletref19_Due.zero.enc) := by kernel_rfl
theorem U_annuletref19_Due : (PG.underlying 51).isSome = true := by kernel_rfl
abbrev T_map_copies_mark_api_Ver : Nat := 58
theorem A_map_copies_mark_api_Ver : isAggB PG 58 = some false := by kernel_rfl
theorem Z_map_copies_mark_api_Ver : sizeB PG 58 = some 1 := by kernel_rfl
theorem Y_map_copies_mark_api_Ver : bytesB PG 58 = some 8 := by kernel_rfl
theorem M_map_copies_mark_api_Ver : mapB PG 58 = some (64, 33) := by kernel_rfl
theorem N_map_copies_mark_api_Ver : zeroB PG 58 = some (.map none) := by kernel_rfl
theorem U_map_copies_mark_api_Ver : (PG.underlying 58).isSome = true := by kernel_rfl
abbrev T_st59 : Nat := 59
theorem A_st59 : isAggB PG 59 = some true := by kernel_rfl
theorem Z_st59 : sizeB PG 59 = some 1 := by kernel_rfl
theorem Y_st59 : bytesB PG 59 = some 8 := by kernel_rfl
theorem U_st59 : (PG.underlying 59).isSome = true := by kernel_rfl
abbrev T_copies_Book : Nat := 60
theorem A_copies_Book : isAggB PG 60 = some true := by kernel_rfl
theorem Z_copies_Book : sizeB PG 60 = some 1 := by kernel_rfl
theorem Y_copies_Book : bytesB PG 60 = some 8 := by kernel_rfl
theorem F_copies_Book_m : fieldB PG 60 0 = some (0, 58) := by kernel_rfl
theorem W_copies_Book (w : World) : placesR PG 60 w = .ok #[(0, 1)] w := by kernel_rfl
theorem N_copies_Book : zeroB PG 60 = some (.agg copies_Book.zero.enc) := by kernel_rfl
theorem U_copies_Book : (PG.underlying 60).isSome = true := by kernel_rfl
abbrev T_st63 : Nat := 63
theorem A_st63 : isAggB PG 63 = some true := by kernel_rfl
theorem Z_st63 : sizeB PG 63 = some 32 := by kernel_rfl
theorem Y_st63 : bytesB PG 63 = some 32 := by kernel_rfl
theorem U_st63 : (PG.underlying 63).isSome = true := by kernel_rfl
abbrev T_copies_mark : Nat := 64
theorem A_copies_mark : isAggB PG 64 = some true := by kernel_rfl
theorem Z_copies_mark : sizeB PG 64 = some 32 := by kernel_rfl
theorem Y_copies_mark : bytesB PG 64 = some 32 := by kernel_rfl
theorem F_copies_mark_id : fieldB PG 64 0 = some (0, 31) := by kernel_rfl
theorem F_copies_mark_key : fieldB PG 64 1 = some (16, 31) := by kernel_rfl
theorem W_copies_mark (w : World) : placesR PG 64 w = .ok #[(0, 16), (16, 16)] w := by kernel_rfl
theorem N_copies_mark : zeroB PG 64 = some (.agg copies_mark.zero.enc) := by kernel_rfl
theorem U_copies_mark : (PG.underlying 64).isSome = true := by kernel_rfl
abbrev T_st65 : Nat := 65
theorem A_st65 : isAggB PG 65 = some true := by kernel_rfl
theorem Z_st65 : sizeB PG 65 = some 49 := by kernel_rfl
theorem Y_st65 : bytesB PG 65 = some 56 := by kernel_rfl
theorem U_st65 : (PG.underlying 65).isSome = true := by kernel_rfl
abbrev T_annuletref19_Note : Nat := 66
theorem A_annuletref19_Note : isAggB PG 66 = some true := by kernel_rfl
theorem Z_annuletref19_Note : sizeB PG 66 = some 49 := by kernel_rfl
theorem Y_annuletref19_Note : bytesB PG 66 = some 56 := by kernel_rfl
theorem F_annuletref19_Note_ID : fieldB PG 66 0 = some (0, 31) := by kernel_rfl
theorem F_annuletref19_Note_Key : fieldB PG 66 1 = some (16, 31) := by kernel_rfl
theorem F_annuletref19_Note_Ver : fieldB PG 66 2 = some (32, 33) := by kernel_rfl
theorem W_annuletref19_Note (w : World) : placesR PG 66 w = .ok #[(0, 16), (16, 16), (32, 17)] w := by kernel_rfl
theorem N_annuletref19_Note : zeroB PG 66 = some (.agg annuletref19_Note.zero.enc) := by kernel_rfl
theorem U_annuletref19_Note : (PG.underlying 66).isSome = true := by kernel_rfl
abbrev T_uint64 : Nat := 80
theorem A_uint64 : isAggB PG 80 = some false := by kernel_rfl
theorem Z_uint64 : sizeB PG 80 = some 1 := by kernel_rfl
theorem Y_uint64 : bytesB PG 80 = some 8 := by kernel_rfl
theorem I_uint64 : intB PG 80 = some .u64 := by kernel_rfl
theorem N_uint64 : zeroB PG 80 = some (.int .u64 0) := by kernel_rfl
theorem U_uint64 : (PG.underlying 80).isSome = true := by kernel_rfl
abbrev T_uint : Nat := 87
theorem A_uint : isAggB PG 87 = some false := by kernel_rfl
theorem Z_uint : sizeB PG 87 = some 1 := by kernel_rfl
theorem Y_uint : bytesB PG 87 = some 8 := by kernel_rfl
theorem I_uint : intB PG 87 = some .u64 := by kernel_rfl
theorem N_uint : zeroB PG 87 = some (.int .u64 0) := by kernel_rfl
theorem U_uint : (PG.underlying 87).isSome = true := by kernel_rfl
abbrev T_slices_sortedHint : Nat := 91
theorem A_slices_sortedHint : isAggB PG 91 = some false := by kernel_rfl
theorem Z_slices_sortedHint : sizeB PG 91 = some 1 := by kernel_rfl
theorem Y_slices_sortedHint : bytesB PG 91 = some 8 := by kernel_rfl
theorem I_slices_sortedHint : intB PG 91 = some .i64 := by kernel_rfl
theorem N_slices_sortedHint : zeroB PG 91 = some (.int .i64 0) := by kernel_rfl
theorem U_slices_sortedHint : (PG.underlying 91).isSome = true := by kernel_rfl
abbrev T_uint32 : Nat := 99
theorem A_uint32 : isAggB PG 99 = some false := by kernel_rfl
theorem Z_uint32 : sizeB PG 99 = some 1 := by kernel_rfl
theorem Y_uint32 : bytesB PG 99 = some 4 := by kernel_rfl
theorem I_uint32 : intB PG 99 = some .u32 := by kernel_rfl
theorem N_uint32 : zeroB PG 99 = some (.int .u32 0) := by kernel_rfl
theorem U_uint32 : (PG.underlying 99).isSome = true := by kernel_rfl
abbrev T_slices_xorshift : Nat := 101
theorem A_slices_xorshift : isAggB PG 101 = some false := by kernel_rfl
theorem Z_slices_xorshift : sizeB PG 101 = some 1 := by kernel_rfl
theorem Y_slices_xorshift : bytesB PG 101 = some 8 := by kernel_rfl
theorem I_slices_xorshift : intB PG 101 = some .u64 := by kernel_rfl
theorem N_slices_xorshift : zeroB PG 101 = some (.int .u64 0) := by kernel_rfl
theorem U_slices_xorshift : (PG.underlying 101).isSome = true := by kernel_rfl
abbrev T_pt_x3 : Nat := 105
theorem A_pt_x3 : isAggB PG 105 = some false := by kernel_rfl
theorem Z_pt_x3 : sizeB PG 105 = some 1 := by kernel_rfl
theorem Y_pt_x3 : bytesB PG 105 = some 8 := by kernel_rfl
theorem P_pt_x3 : ptrB PG 105 = true := by kernel_rfl
theorem N_pt_x3 : zeroB PG 105 = some (.pointer none) := by kernel_rfl
theorem U_pt_x3 : (PG.underlying 105).isSome = true := by kernel_rfl
abbrev T_pt_slices_xorshift : Nat := 107
theorem A_pt_slices_xorshift : isAggB PG 107 = some false := by kernel_rfl
theorem Z_pt_slices_xorshift : sizeB PG 107 = some 1 := by kernel_rfl
theorem Y_pt_slices_xorshift : bytesB PG 107 = some 8 := by kernel_rfl
theorem P_pt_slices_xorshift : ptrB PG 107 = true := by kernel_rfl
theorem N_pt_slices_xorshift : zeroB PG 107 = some (.pointer none) := by kernel_rfl
theorem U_pt_slices_xorshift : (PG.underlying 107).isSome = true := by kernel_rfl
abbrev T_st111 : Nat := 111
theorem A_st111 : isAggB PG 111 = some true := by kernel_rfl
theorem Z_st111 : sizeB PG 111 = some 4 := by kernel_rfl
theorem Y_st111 : bytesB PG 111 = some 40 := by kernel_rfl
theorem U_st111 : (PG.underlying 111).isSome = true := by kernel_rfl
abbrev T_st114 : Nat := 114
theorem A_st114 : isAggB PG 114 = some true := by kernel_rfl
theorem Z_st114 : sizeB PG 114 = some 0 := by kernel_rfl
theorem Y_st114 : bytesB PG 114 = some 0 := by kernel_rfl
theorem U_st114 : (PG.underlying 114).isSome = true := by kernel_rfl
abbrev T_pt_x5 : Nat := 120
theorem A_pt_x5 : isAggB PG 120 = some false := by kernel_rfl
theorem Z_pt_x5 : sizeB PG 120 = some 1 := by kernel_rfl
theorem Y_pt_x5 : bytesB PG 120 = some 8 := by kernel_rfl
theorem P_pt_x5 : ptrB PG 120 = true := by kernel_rfl
theorem N_pt_x5 : zeroB PG 120 = some (.pointer none) := by kernel_rfl
theorem U_pt_x5 : (PG.underlying 120).isSome = true := by kernel_rfl
abbrev T_st123 : Nat := 123
theorem A_st123 : isAggB PG 123 = some true := by kernel_rfl
theorem Z_st123 : sizeB PG 123 = some 11 := by kernel_rfl
theorem Y_st123 : bytesB PG 123 = some 48 := by kernel_rfl
theorem U_st123 : (PG.underlying 123).isSome = true := by kernel_rfl
theorem G_ar16_uint8 : PG.eqGuardType PG.depth 30 = false := by kernel_rfl
theorem EQ_ar16_uint8 (x y : Idn) : EqV PG 2 30 (.agg x.enc) (.agg y.enc) (decide (x = y)) := .idn R_ar16_uint8 I_uint8 A_uint8 Z_uint8 x y
theorem G_api_ID : PG.eqGuardType PG.depth 31 = false := by kernel_rfl
theorem EQ_api_ID (x y : Idn) : EqV PG 2 31 (.agg x.enc) (.agg y.enc) (decide (x = y)) := .idn R_api_ID I_uint8 A_uint8 Z_uint8 x y
theorem G_api_Ver : PG.eqGuardType PG.depth 33 = false := by kernel_rfl
theorem V_api_Ver : fieldsB PG 33 = some [(0, 2), (1, 31)] := by kernel_rfl
theorem EQ_api_Ver (x y : api_Ver) : EqV PG 3 33 (.agg x.enc) (.agg y.enc) (decide (x = y)) := by
  have h : EqV PG 3 33 (.agg x.enc) (.agg y.enc) _ := .str V_api_Ver (.one A_int64 (api_Ver.g_N x) (api_Ver.g_N y) ((EqV.int I_int64 _ _).up (by decide)) (.agg A_api_ID Z_api_ID (api_Ver.s_Who x) (api_Ver.s_Who y) ((EQ_api_ID _ _).up (by decide)) (.nil)))
  have e : decide (x = y) = (decide (x.N = y.N) && (decide (x.Who = y.Who) && true)) := by rw [Bool.eq_iff_iff]; cases x; cases y; simp
  rw [e]; exact h
theorem G_copies_mark : PG.eqGuardType PG.depth 64 = false := by kernel_rfl
theorem V_copies_mark : fieldsB PG 64 = some [(0, 31), (16, 31)] := by kernel_rfl
theorem EQ_copies_mark (x y : copies_mark) : EqV PG 3 64 (.agg x.enc) (.agg y.enc) (decide (x = y)) := by
  have h : EqV PG 3 64 (.agg x.enc) (.agg y.enc) _ := .str V_copies_mark (.agg A_api_ID Z_api_ID (copies_mark.s_id x) (copies_mark.s_id y) ((EQ_api_ID _ _).up (by decide)) (.agg A_api_ID Z_api_ID (copies_mark.s_key x) (copies_mark.s_key y) ((EQ_api_ID _ _).up (by decide)) (.nil)))
  have e : decide (x = y) = (decide (x.id = y.id) && (decide (x.key = y.key) && true)) := by rw [Bool.eq_iff_iff]; cases x; cases y; simp
  rw [e]; exact h
theorem G_annuletref19_Note : PG.eqGuardType PG.depth 66 = false := by kernel_rfl
theorem V_annuletref19_Note : fieldsB PG 66 = some [(0, 31), (16, 31), (32, 33)] := by kernel_rfl
theorem EQ_annuletref19_Note (x y : annuletref19_Note) : EqV PG 4 66 (.agg x.enc) (.agg y.enc) (decide (x = y)) := by
  have h : EqV PG 4 66 (.agg x.enc) (.agg y.enc) _ := .str V_annuletref19_Note (.agg A_api_ID Z_api_ID (annuletref19_Note.s_ID x) (annuletref19_Note.s_ID y) ((EQ_api_ID _ _).up (by decide)) (.agg A_api_ID Z_api_ID (annuletref19_Note.s_Key x) (annuletref19_Note.s_Key y) ((EQ_api_ID _ _).up (by decide)) (.agg A_api_Ver Z_api_Ver (annuletref19_Note.s_Ver x) (annuletref19_Note.s_Ver y) ((EQ_api_Ver _ _).up (by decide)) (.nil))))
  have e : decide (x = y) = (decide (x.ID = y.ID) && (decide (x.Key = y.Key) && (decide (x.Ver = y.Ver) && true))) := by rw [Bool.eq_iff_iff]; cases x; cases y; simp
  rw [e]; exact h
abbrev f_annuletlaw19_CopiesPlays : Nat := 3
theorem E_annuletlaw19_CopiesPlays : enterB PG 3 = true := by kernel_rfl
noncomputable abbrev D_annuletlaw19_CopiesPlays : Func := Go.Proofs.Try.f3
theorem B_annuletlaw19_CopiesPlays : PG.funcs[3]? = some D_annuletlaw19_CopiesPlays := Go.Proofs.Try.func3
abbrev f_annuletlaw19_CopiesMarked : Nat := 4
theorem E_annuletlaw19_CopiesMarked : enterB PG 4 = true := by kernel_rfl
noncomputable abbrev D_annuletlaw19_CopiesMarked : Func := Go.Proofs.Try.f4
theorem B_annuletlaw19_CopiesMarked : PG.funcs[4]? = some D_annuletlaw19_CopiesMarked := Go.Proofs.Try.func4
abbrev f_annuletlaw19_CopiesNil : Nat := 5
theorem E_annuletlaw19_CopiesNil : enterB PG 5 = true := by kernel_rfl
noncomputable abbrev D_annuletlaw19_CopiesNil : Func := Go.Proofs.Try.f5
theorem B_annuletlaw19_CopiesNil : PG.funcs[5]? = some D_annuletlaw19_CopiesNil := Go.Proofs.Try.func5
abbrev f_copies_New : Nat := 6
theorem E_copies_New : enterB PG 6 = true := by kernel_rfl
noncomputable abbrev D_copies_New : Func := Go.Proofs.Try.f6
theorem B_copies_New : PG.funcs[6]? = some D_copies_New := Go.Proofs.Try.func6
abbrev f_annuletlaw19_fixed : Nat := 7
theorem E_annuletlaw19_fixed : enterB PG 7 = true := by kernel_rfl
noncomputable abbrev D_annuletlaw19_fixed : Func := Go.Proofs.Try.f7
theorem B_annuletlaw19_fixed : PG.funcs[7]? = some D_annuletlaw19_fixed := Go.Proofs.Try.func7
abbrev f_annuletlaw19_cut_api_ID : Nat := 8
theorem E_annuletlaw19_cut_api_ID : enterB PG 8 = true := by kernel_rfl
noncomputable abbrev D_annuletlaw19_cut_api_ID : Func := Go.Proofs.Try.f8
theorem B_annuletlaw19_cut_api_ID : PG.funcs[8]? = some D_annuletlaw19_cut_api_ID := Go.Proofs.Try.func8
abbrev f_annuletlaw19_cut_api_Item : Nat := 9
theorem E_annuletlaw19_cut_api_Item : enterB PG 9 = true := by kernel_rfl
noncomputable abbrev D_annuletlaw19_cut_api_Item : Func := Go.Proofs.Try.f9
theorem B_annuletlaw19_cut_api_Item : PG.funcs[9]? = some D_annuletlaw19_cut_api_Item := Go.Proofs.Try.func9
abbrev f_copies_Book_Mark : Nat := 10
theorem E_copies_Book_Mark : enterB PG 10 = true := by kernel_rfl
noncomputable abbrev D_copies_Book_Mark : Func := Go.Proofs.Try.f10
theorem B_copies_Book_Mark : PG.funcs[10]? = some D_copies_Book_Mark := Go.Proofs.Try.func10
abbrev f_annuletref19_Book_Mark : Nat := 11
theorem E_annuletref19_Book_Mark : enterB PG 11 = true := by kernel_rfl
noncomputable abbrev D_annuletref19_Book_Mark : Func := Go.Proofs.Try.f11
theorem B_annuletref19_Book_Mark : PG.funcs[11]? = some D_annuletref19_Book_Mark := Go.Proofs.Try.func11
abbrev f_copies_Book_Retain : Nat := 12
theorem E_copies_Book_Retain : enterB PG 12 = true := by kernel_rfl
noncomputable abbrev D_copies_Book_Retain : Func := Go.Proofs.Try.f12
theorem B_copies_Book_Retain : PG.funcs[12]? = some D_copies_Book_Retain := Go.Proofs.Try.func12
abbrev f_annuletref19_Book_Retain : Nat := 13
theorem E_annuletref19_Book_Retain : enterB PG 13 = true := by kernel_rfl
noncomputable abbrev D_annuletref19_Book_Retain : Func := Go.Proofs.Try.f13
theorem B_annuletref19_Book_Retain : PG.funcs[13]? = some D_annuletref19_Book_Retain := Go.Proofs.Try.func13
abbrev f_copies_Book_Due : Nat := 14
theorem E_copies_Book_Due : enterB PG 14 = true := by kernel_rfl
noncomputable abbrev D_copies_Book_Due : Func := Go.Proofs.Try.f14
theorem B_copies_Book_Due : PG.funcs[14]? = some D_copies_Book_Due := Go.Proofs.Try.func14
abbrev f_annuletref19_Book_Due : Nat := 15
theorem E_annuletref19_Book_Due : enterB PG 15 = true := by kernel_rfl
noncomputable abbrev D_annuletref19_Book_Due : Func := Go.Proofs.Try.f15
theorem B_annuletref19_Book_Due : PG.funcs[15]? = some D_annuletref19_Book_Due := Go.Proofs.Try.func15
abbrev f_annuletref18_Same : Nat := 16
theorem E_annuletref18_Same : enterB PG 16 = true := by kernel_rfl
noncomputable abbrev D_annuletref18_Same : Func := Go.Proofs.Try.f16
theorem B_annuletref18_Same : PG.funcs[16]? = some D_annuletref18_Same := Go.Proofs.Try.func16
abbrev f_annuletref19_Owed : Nat := 17
theorem E_annuletref19_Owed : enterB PG 17 = true := by kernel_rfl
noncomputable abbrev D_annuletref19_Owed : Func := Go.Proofs.Try.f17
theorem B_annuletref19_Owed : PG.funcs[17]? = some D_annuletref19_Owed := Go.Proofs.Try.func17
abbrev f_annuletlaw19_n : Nat := 18
theorem E_annuletlaw19_n : enterB PG 18 = true := by kernel_rfl
noncomputable abbrev D_annuletlaw19_n : Func := Go.Proofs.Try.f18
theorem B_annuletlaw19_n : PG.funcs[18]? = some D_annuletlaw19_n := Go.Proofs.Try.func18
abbrev f_copies_Root : Nat := 19
theorem E_copies_Root : enterB PG 19 = true := by kernel_rfl
noncomputable abbrev D_copies_Root : Func := Go.Proofs.Try.f19
theorem B_copies_Root : PG.funcs[19]? = some D_copies_Root := Go.Proofs.Try.func19
abbrev f_annuletref01_SameIDs : Nat := 20
theorem E_annuletref01_SameIDs : enterB PG 20 = true := by kernel_rfl
noncomputable abbrev D_annuletref01_SameIDs : Func := Go.Proofs.Try.f20
theorem B_annuletref01_SameIDs : PG.funcs[20]? = some D_annuletref01_SameIDs := Go.Proofs.Try.func20
abbrev f_copies_Owed : Nat := 21
theorem E_copies_Owed : enterB PG 21 = true := by kernel_rfl
noncomputable abbrev D_copies_Owed : Func := Go.Proofs.Try.f21
theorem B_copies_Owed : PG.funcs[21]? = some D_copies_Owed := Go.Proofs.Try.func21
abbrev f_slices_Contains_api_ID_api_ID : Nat := 22
theorem E_slices_Contains_api_ID_api_ID : enterB PG 22 = true := by kernel_rfl
noncomputable abbrev D_slices_Contains_api_ID_api_ID : Func := Go.Proofs.Try.f22
theorem B_slices_Contains_api_ID_api_ID : PG.funcs[22]? = some D_slices_Contains_api_ID_api_ID := Go.Proofs.Try.func22
abbrev f_annuletref10_Has : Nat := 23
theorem E_annuletref10_Has : enterB PG 23 = true := by kernel_rfl
noncomputable abbrev D_annuletref10_Has : Func := Go.Proofs.Try.f23
theorem B_annuletref10_Has : PG.funcs[23]? = some D_annuletref10_Has := Go.Proofs.Try.func23
abbrev f_annuletref10_Sorted : Nat := 24
theorem E_annuletref10_Sorted : enterB PG 24 = true := by kernel_rfl
noncomputable abbrev D_annuletref10_Sorted : Func := Go.Proofs.Try.f24
theorem B_annuletref10_Sorted : PG.funcs[24]? = some D_annuletref10_Sorted := Go.Proofs.Try.func24
abbrev f_annuletref19_Root : Nat := 25
theorem E_annuletref19_Root : enterB PG 25 = true := by kernel_rfl
noncomputable abbrev D_annuletref19_Root : Func := Go.Proofs.Try.f25
theorem B_annuletref19_Root : PG.funcs[25]? = some D_annuletref19_Root := Go.Proofs.Try.func25
abbrev f_annuletref01_Nearest : Nat := 26
theorem E_annuletref01_Nearest : enterB PG 26 = true := by kernel_rfl
noncomputable abbrev D_annuletref01_Nearest : Func := Go.Proofs.Try.f26
theorem B_annuletref01_Nearest : PG.funcs[26]? = some D_annuletref01_Nearest := Go.Proofs.Try.func26
abbrev f_ident_Nearest : Nat := 27
theorem E_ident_Nearest : enterB PG 27 = true := by kernel_rfl
noncomputable abbrev D_ident_Nearest : Func := Go.Proofs.Try.f27
theorem B_ident_Nearest : PG.funcs[27]? = some D_ident_Nearest := Go.Proofs.Try.func27
abbrev f_ring_Sorted : Nat := 28
theorem E_ring_Sorted : enterB PG 28 = true := by kernel_rfl
noncomputable abbrev D_ring_Sorted : Func := Go.Proofs.Try.f28
theorem B_ring_Sorted : PG.funcs[28]? = some D_ring_Sorted := Go.Proofs.Try.func28
abbrev f_slices_Index_api_ID_api_ID : Nat := 29
theorem E_slices_Index_api_ID_api_ID : enterB PG 29 = true := by kernel_rfl
noncomputable abbrev D_slices_Index_api_ID_api_ID : Func := Go.Proofs.Try.f29
theorem B_slices_Index_api_ID_api_ID : PG.funcs[29]? = some D_slices_Index_api_ID_api_ID := Go.Proofs.Try.func29
abbrev f_annuletref01_Less : Nat := 30
theorem E_annuletref01_Less : enterB PG 30 = true := by kernel_rfl
noncomputable abbrev D_annuletref01_Less : Func := Go.Proofs.Try.f30
theorem B_annuletref01_Less : PG.funcs[30]? = some D_annuletref01_Less := Go.Proofs.Try.func30
abbrev f_annuletref01_Nearer : Nat := 31
theorem E_annuletref01_Nearer : enterB PG 31 = true := by kernel_rfl
noncomputable abbrev D_annuletref01_Nearer : Func := Go.Proofs.Try.f31
theorem B_annuletref01_Nearer : PG.funcs[31]? = some D_annuletref01_Nearer := Go.Proofs.Try.func31
abbrev f_ident_Nearer : Nat := 32
theorem E_ident_Nearer : enterB PG 32 = true := by kernel_rfl
noncomputable abbrev D_ident_Nearer : Func := Go.Proofs.Try.f32
theorem B_ident_Nearer : PG.funcs[32]? = some D_ident_Nearer := Go.Proofs.Try.func32
abbrev f_slices_DeleteFunc_api_ID_api_ID : Nat := 33
theorem E_slices_DeleteFunc_api_ID_api_ID : enterB PG 33 = true := by kernel_rfl
noncomputable abbrev D_slices_DeleteFunc_api_ID_api_ID : Func := Go.Proofs.Try.f33
theorem B_slices_DeleteFunc_api_ID_api_ID : PG.funcs[33]? = some D_slices_DeleteFunc_api_ID_api_ID := Go.Proofs.Try.func33
abbrev f_slices_Clone_api_ID_api_ID : Nat := 34
theorem E_slices_Clone_api_ID_api_ID : enterB PG 34 = true := by kernel_rfl
noncomputable abbrev D_slices_Clone_api_ID_api_ID : Func := Go.Proofs.Try.f34
theorem B_slices_Clone_api_ID_api_ID : PG.funcs[34]? = some D_slices_Clone_api_ID_api_ID := Go.Proofs.Try.func34
abbrev f_ring_Sorted_f1 : Nat := 35
theorem E_ring_Sorted_f1 : enterB PG 35 = true := by kernel_rfl
noncomputable abbrev D_ring_Sorted_f1 : Func := Go.Proofs.Try.f35
theorem B_ring_Sorted_f1 : PG.funcs[35]? = some D_ring_Sorted_f1 := Go.Proofs.Try.func35
abbrev f_slices_SortFunc_api_ID_api_ID : Nat := 36
theorem E_slices_SortFunc_api_ID_api_ID : enterB PG 36 = true := by kernel_rfl
noncomputable abbrev D_slices_SortFunc_api_ID_api_ID : Func := Go.Proofs.Try.f36
theorem B_slices_SortFunc_api_ID_api_ID : PG.funcs[36]? = some D_slices_SortFunc_api_ID_api_ID := Go.Proofs.Try.func36
abbrev f_ident_Compare : Nat := 37
theorem E_ident_Compare : enterB PG 37 = true := by kernel_rfl
noncomputable abbrev D_ident_Compare : Func := Go.Proofs.Try.f37
theorem B_ident_Compare : PG.funcs[37]? = some D_ident_Compare := Go.Proofs.Try.func37
abbrev f_slices_Compact_api_ID_api_ID : Nat := 38
theorem E_slices_Compact_api_ID_api_ID : enterB PG 38 = true := by kernel_rfl
noncomputable abbrev D_slices_Compact_api_ID_api_ID : Func := Go.Proofs.Try.f38
theorem B_slices_Compact_api_ID_api_ID : PG.funcs[38]? = some D_slices_Compact_api_ID_api_ID := Go.Proofs.Try.func38
abbrev f_annuletref01_Wide : Nat := 39
theorem E_annuletref01_Wide : enterB PG 39 = true := by kernel_rfl
noncomputable abbrev D_annuletref01_Wide : Func := Go.Proofs.Try.f39
theorem B_annuletref01_Wide : PG.funcs[39]? = some D_annuletref01_Wide := Go.Proofs.Try.func39
abbrev f_annuletref01_Far : Nat := 40
theorem E_annuletref01_Far : enterB PG 40 = true := by kernel_rfl
noncomputable abbrev D_annuletref01_Far : Func := Go.Proofs.Try.f40
theorem B_annuletref01_Far : PG.funcs[40]? = some D_annuletref01_Far := Go.Proofs.Try.func40
abbrev f_annuletref01_Sub : Nat := 41
theorem E_annuletref01_Sub : enterB PG 41 = true := by kernel_rfl
noncomputable abbrev D_annuletref01_Sub : Func := Go.Proofs.Try.f41
theorem B_annuletref01_Sub : PG.funcs[41]? = some D_annuletref01_Sub := Go.Proofs.Try.func41
abbrev f_ident_Far : Nat := 42
theorem E_ident_Far : enterB PG 42 = true := by kernel_rfl
noncomputable abbrev D_ident_Far : Func := Go.Proofs.Try.f42
theorem B_ident_Far : PG.funcs[42]? = some D_ident_Far := Go.Proofs.Try.func42
abbrev f_ident_Sub : Nat := 43
theorem E_ident_Sub : enterB PG 43 = true := by kernel_rfl
noncomputable abbrev D_ident_Sub : Func := Go.Proofs.Try.f43
theorem B_ident_Sub : PG.funcs[43]? = some D_ident_Sub := Go.Proofs.Try.func43
abbrev f_slices_IndexFunc_api_ID_api_ID : Nat := 44
theorem E_slices_IndexFunc_api_ID_api_ID : enterB PG 44 = true := by kernel_rfl
noncomputable abbrev D_slices_IndexFunc_api_ID_api_ID : Func := Go.Proofs.Try.f44
theorem B_slices_IndexFunc_api_ID_api_ID : PG.funcs[44]? = some D_slices_IndexFunc_api_ID_api_ID := Go.Proofs.Try.func44
abbrev f_slices_pdqsortCmpFunc_api_ID : Nat := 45
theorem E_slices_pdqsortCmpFunc_api_ID : enterB PG 45 = true := by kernel_rfl
noncomputable abbrev D_slices_pdqsortCmpFunc_api_ID : Func := Go.Proofs.Try.f45
theorem B_slices_pdqsortCmpFunc_api_ID : PG.funcs[45]? = some D_slices_pdqsortCmpFunc_api_ID := Go.Proofs.Try.func45
abbrev f_bits_Len : Nat := 46
theorem E_bits_Len : enterB PG 46 = true := by kernel_rfl
noncomputable abbrev D_bits_Len : Func := Go.Proofs.Try.f46
theorem B_bits_Len : PG.funcs[46]? = some D_bits_Len := Go.Proofs.Try.func46
abbrev f_bytes_Compare : Nat := 47
theorem E_bytes_Compare : enterB PG 47 = true := by kernel_rfl
noncomputable abbrev D_bytes_Compare : Func := Go.Proofs.Try.f47
theorem B_bytes_Compare : PG.funcs[47]? = some D_bytes_Compare := Go.Proofs.Try.func47
abbrev f_annuletref01_ID : Nat := 48
theorem E_annuletref01_ID : enterB PG 48 = true := by kernel_rfl
noncomputable abbrev D_annuletref01_ID : Func := Go.Proofs.Try.f48
theorem B_annuletref01_ID : PG.funcs[48]? = some D_annuletref01_ID := Go.Proofs.Try.func48
abbrev f_slices_insertionSortCmpFunc_api_ID : Nat := 49
theorem E_slices_insertionSortCmpFunc_api_ID : enterB PG 49 = true := by kernel_rfl
noncomputable abbrev D_slices_insertionSortCmpFunc_api_ID : Func := Go.Proofs.Try.f49
theorem B_slices_insertionSortCmpFunc_api_ID : PG.funcs[49]? = some D_slices_insertionSortCmpFunc_api_ID := Go.Proofs.Try.func49
abbrev f_slices_heapSortCmpFunc_api_ID : Nat := 50
theorem E_slices_heapSortCmpFunc_api_ID : enterB PG 50 = true := by kernel_rfl
noncomputable abbrev D_slices_heapSortCmpFunc_api_ID : Func := Go.Proofs.Try.f50
theorem B_slices_heapSortCmpFunc_api_ID : PG.funcs[50]? = some D_slices_heapSortCmpFunc_api_ID := Go.Proofs.Try.func50
abbrev f_slices_breakPatternsCmpFunc_api_ID : Nat := 51
theorem E_slices_breakPatternsCmpFunc_api_ID : enterB PG 51 = true := by kernel_rfl
noncomputable abbrev D_slices_breakPatternsCmpFunc_api_ID : Func := Go.Proofs.Try.f51
theorem B_slices_breakPatternsCmpFunc_api_ID : PG.funcs[51]? = some D_slices_breakPatternsCmpFunc_api_ID := Go.Proofs.Try.func51
abbrev f_slices_choosePivotCmpFunc_api_ID : Nat := 52
theorem E_slices_choosePivotCmpFunc_api_ID : enterB PG 52 = true := by kernel_rfl
noncomputable abbrev D_slices_choosePivotCmpFunc_api_ID : Func := Go.Proofs.Try.f52
theorem B_slices_choosePivotCmpFunc_api_ID : PG.funcs[52]? = some D_slices_choosePivotCmpFunc_api_ID := Go.Proofs.Try.func52
abbrev f_slices_reverseRangeCmpFunc_api_ID : Nat := 53
theorem E_slices_reverseRangeCmpFunc_api_ID : enterB PG 53 = true := by kernel_rfl
noncomputable abbrev D_slices_reverseRangeCmpFunc_api_ID : Func := Go.Proofs.Try.f53
theorem B_slices_reverseRangeCmpFunc_api_ID : PG.funcs[53]? = some D_slices_reverseRangeCmpFunc_api_ID := Go.Proofs.Try.func53
abbrev f_slices_partialInsertionSortCmpFunc_api_ID : Nat := 54
theorem E_slices_partialInsertionSortCmpFunc_api_ID : enterB PG 54 = true := by kernel_rfl
noncomputable abbrev D_slices_partialInsertionSortCmpFunc_api_ID : Func := Go.Proofs.Try.f54
theorem B_slices_partialInsertionSortCmpFunc_api_ID : PG.funcs[54]? = some D_slices_partialInsertionSortCmpFunc_api_ID := Go.Proofs.Try.func54
abbrev f_slices_partitionEqualCmpFunc_api_ID : Nat := 55
theorem E_slices_partitionEqualCmpFunc_api_ID : enterB PG 55 = true := by kernel_rfl
noncomputable abbrev D_slices_partitionEqualCmpFunc_api_ID : Func := Go.Proofs.Try.f55
theorem B_slices_partitionEqualCmpFunc_api_ID : PG.funcs[55]? = some D_slices_partitionEqualCmpFunc_api_ID := Go.Proofs.Try.func55
abbrev f_slices_partitionCmpFunc_api_ID : Nat := 56
theorem E_slices_partitionCmpFunc_api_ID : enterB PG 56 = true := by kernel_rfl
noncomputable abbrev D_slices_partitionCmpFunc_api_ID : Func := Go.Proofs.Try.f56
theorem B_slices_partitionCmpFunc_api_ID : PG.funcs[56]? = some D_slices_partitionCmpFunc_api_ID := Go.Proofs.Try.func56
abbrev f_bits_Len32 : Nat := 57
theorem E_bits_Len32 : enterB PG 57 = true := by kernel_rfl
noncomputable abbrev D_bits_Len32 : Func := Go.Proofs.Try.f57
theorem B_bits_Len32 : PG.funcs[57]? = some D_bits_Len32 := Go.Proofs.Try.func57
abbrev f_bits_Len64 : Nat := 58
theorem E_bits_Len64 : enterB PG 58 = true := by kernel_rfl
noncomputable abbrev D_bits_Len64 : Func := Go.Proofs.Try.f58
theorem B_bits_Len64 : PG.funcs[58]? = some D_bits_Len64 := Go.Proofs.Try.func58
abbrev f_bytealg_Compare : Nat := 59
noncomputable abbrev D_bytealg_Compare : Func := Go.Proofs.Try.f59
theorem B_bytealg_Compare : PG.funcs[59]? = some D_bytealg_Compare := Go.Proofs.Try.func59
abbrev f_slices_siftDownCmpFunc_api_ID : Nat := 60
theorem E_slices_siftDownCmpFunc_api_ID : enterB PG 60 = true := by kernel_rfl
noncomputable abbrev D_slices_siftDownCmpFunc_api_ID : Func := Go.Proofs.Try.f60
theorem B_slices_siftDownCmpFunc_api_ID : PG.funcs[60]? = some D_slices_siftDownCmpFunc_api_ID := Go.Proofs.Try.func60
abbrev f_slices_nextPowerOfTwo : Nat := 61
theorem E_slices_nextPowerOfTwo : enterB PG 61 = true := by kernel_rfl
noncomputable abbrev D_slices_nextPowerOfTwo : Func := Go.Proofs.Try.f61
theorem B_slices_nextPowerOfTwo : PG.funcs[61]? = some D_slices_nextPowerOfTwo := Go.Proofs.Try.func61
abbrev f_slices_xorshift_Next : Nat := 62
theorem E_slices_xorshift_Next : enterB PG 62 = true := by kernel_rfl
noncomputable abbrev D_slices_xorshift_Next : Func := Go.Proofs.Try.f62
theorem B_slices_xorshift_Next : PG.funcs[62]? = some D_slices_xorshift_Next := Go.Proofs.Try.func62
abbrev f_slices_medianAdjacentCmpFunc_api_ID : Nat := 63
theorem E_slices_medianAdjacentCmpFunc_api_ID : enterB PG 63 = true := by kernel_rfl
noncomputable abbrev D_slices_medianAdjacentCmpFunc_api_ID : Func := Go.Proofs.Try.f63
theorem B_slices_medianAdjacentCmpFunc_api_ID : PG.funcs[63]? = some D_slices_medianAdjacentCmpFunc_api_ID := Go.Proofs.Try.func63
abbrev f_slices_medianCmpFunc_api_ID : Nat := 64
theorem E_slices_medianCmpFunc_api_ID : enterB PG 64 = true := by kernel_rfl
noncomputable abbrev D_slices_medianCmpFunc_api_ID : Func := Go.Proofs.Try.f64
theorem B_slices_medianCmpFunc_api_ID : PG.funcs[64]? = some D_slices_medianCmpFunc_api_ID := Go.Proofs.Try.func64
abbrev f_slices_order2CmpFunc_api_ID : Nat := 65
theorem E_slices_order2CmpFunc_api_ID : enterB PG 65 = true := by kernel_rfl
noncomputable abbrev D_slices_order2CmpFunc_api_ID : Func := Go.Proofs.Try.f65
theorem B_slices_order2CmpFunc_api_ID : PG.funcs[65]? = some D_slices_order2CmpFunc_api_ID := Go.Proofs.Try.func65
end Go.Fx
