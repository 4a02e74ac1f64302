/- The types and functions of this translation by name, made by names.py; facts that the kernel reckons. -/
import Derived.Test.YtpkdekhmjjcljaaGreatProg
import Derived.KernelRfl
import Derived.Test.YtpkdekhmjjcljaaGreatFxS
import Derived.Test.YtpkdekhmjjcljaaGreatFxM
namespace Go.Fx

noncomputable abbrev PG : Program := Go.Proofs.Tryz.prog
abbrev T_int64 : Nat := 2
theorem A_int64 : isAggB PG 2 = some false := by kernel_rfl
theorem Z_int64 : sizeB PG 2 = some 1 := by kernel_rfl
theorem Y_int64 : bytesB PG 2 = some 8 := by kernel_rfl
theorem I_int64 : intB PG 2 = some .i64 := by kernel_rfl
theorem N_int64 : zeroB PG 2 = some (.int .i64 0) := by kernel_rfl
theorem U_int64 : (PG.underlying 2).isSome = true := by kernel_rfl
abbrev T_int : Nat := 3
theorem A_int : isAggB PG 3 = some false := by kernel_rfl
theorem Z_int : sizeB PG 3 = some 1 := by kernel_rfl
theorem Y_int : bytesB PG 3 = some 8 := by kernel_rfl
theorem I_int : intB PG 3 = some .i64 := by kernel_rfl
theorem N_int : zeroB PG 3 = some (.int .i64 0) := by kernel_rfl
theorem U_int : (PG.underlying 3).isSome = true := by kernel_rfl
abbrev T_bool : Nat := 4
theorem A_bool : isAggB PG 4 = some false := by kernel_rfl
theorem Z_bool : sizeB PG 4 = some 1 := by kernel_rfl
theorem Y_bool : bytesB PG 4 = some 1 := by kernel_rfl
theorem Q_bool : boolB PG 4 = true := by kernel_rfl
theorem N_bool : zeroB PG 4 = some (.bool false) := by kernel_rfl
theorem U_bool : (PG.underlying 4).isSome = true := by kernel_rfl
abbrev T_uint8 : Nat := 5
theorem A_uint8 : isAggB PG 5 = some false := by kernel_rfl
theorem Z_uint8 : sizeB PG 5 = some 1 := by kernel_rfl
theorem Y_uint8 : bytesB PG 5 = some 1 := by kernel_rfl
theorem I_uint8 : intB PG 5 = some .u8 := by kernel_rfl
theorem N_uint8 : zeroB PG 5 = some (.int .u8 0) := by kernel_rfl
theorem U_uint8 : (PG.underlying 5).isSome = true := by kernel_rfl
abbrev T_st7 : Nat := 7
theorem A_st7 : isAggB PG 7 = some true := by kernel_rfl
theorem Z_st7 : sizeB PG 7 = some 4 := by kernel_rfl
theorem Y_st7 : bytesB PG 7 = some 24 := by kernel_rfl
theorem U_st7 : (PG.underlying 7).isSome = true := by kernel_rfl
abbrev T_string : Nat := 9
theorem A_string : isAggB PG 9 = some false := by kernel_rfl
theorem Z_string : sizeB PG 9 = some 1 := by kernel_rfl
theorem Y_string : bytesB PG 9 = some 16 := by kernel_rfl
theorem U_string : (PG.underlying 9).isSome = true := by kernel_rfl
abbrev T_uintptr : Nat := 12
theorem A_uintptr : isAggB PG 12 = some false := by kernel_rfl
theorem Z_uintptr : sizeB PG 12 = some 1 := by kernel_rfl
theorem Y_uintptr : bytesB PG 12 = some 8 := by kernel_rfl
theorem I_uintptr : intB PG 12 = some .u64 := by kernel_rfl
theorem N_uintptr : zeroB PG 12 = some (.int .u64 0) := by kernel_rfl
theorem U_uintptr : (PG.underlying 12).isSome = true := by kernel_rfl
abbrev T_st13 : Nat := 13
theorem A_st13 : isAggB PG 13 = some true := by kernel_rfl
theorem Z_st13 : sizeB PG 13 = some 2 := by kernel_rfl
theorem Y_st13 : bytesB PG 13 = some 24 := by kernel_rfl
theorem U_st13 : (PG.underlying 13).isSome = true := by kernel_rfl
abbrev T_st18 : Nat := 18
theorem A_st18 : isAggB PG 18 = some true := by kernel_rfl
theorem Z_st18 : sizeB PG 18 = some 1 := by kernel_rfl
theorem Y_st18 : bytesB PG 18 = some 8 := by kernel_rfl
theorem U_st18 : (PG.underlying 18).isSome = true := by kernel_rfl
abbrev T_int32 : Nat := 21
theorem A_int32 : isAggB PG 21 = some false := by kernel_rfl
theorem Z_int32 : sizeB PG 21 = some 1 := by kernel_rfl
theorem Y_int32 : bytesB PG 21 = some 4 := by kernel_rfl
theorem I_int32 : intB PG 21 = some .i32 := by kernel_rfl
theorem N_int32 : zeroB PG 21 = some (.int .i32 0) := by kernel_rfl
theorem U_int32 : (PG.underlying 21).isSome = true := by kernel_rfl
abbrev T_sl_api_Entry : Nat := 22
theorem A_sl_api_Entry : isAggB PG 22 = some false := by kernel_rfl
theorem Z_sl_api_Entry : sizeB PG 22 = some 1 := by kernel_rfl
theorem Y_sl_api_Entry : bytesB PG 22 = some 24 := by kernel_rfl
theorem L_sl_api_Entry : elemB PG 22 = some 33 := by kernel_rfl
theorem N_sl_api_Entry : zeroB PG 22 = some (.slice none 0 0) := by kernel_rfl
theorem U_sl_api_Entry : (PG.underlying 22).isSome = true := by kernel_rfl
abbrev T_ar16_uint8 : Nat := 23
theorem A_ar16_uint8 : isAggB PG 23 = some true := by kernel_rfl
theorem Z_ar16_uint8 : sizeB PG 23 = some 16 := by kernel_rfl
theorem Y_ar16_uint8 : bytesB PG 23 = some 16 := by kernel_rfl
theorem R_ar16_uint8 : arrB PG 23 = some (16, 5) := by kernel_rfl
theorem N_ar16_uint8 : zeroB PG 23 = some (.agg Idn.zero.enc) := by kernel_rfl
theorem U_ar16_uint8 : (PG.underlying 23).isSome = true := by kernel_rfl
abbrev T_api_ID : Nat := 24
theorem A_api_ID : isAggB PG 24 = some true := by kernel_rfl
theorem Z_api_ID : sizeB PG 24 = some 16 := by kernel_rfl
theorem Y_api_ID : bytesB PG 24 = some 16 := by kernel_rfl
theorem R_api_ID : arrB PG 24 = some (16, 5) := by kernel_rfl
theorem N_api_ID : zeroB PG 24 = some (.agg Idn.zero.enc) := by kernel_rfl
theorem U_api_ID : (PG.underlying 24).isSome = true := by kernel_rfl
abbrev T_ar2_api_ID : Nat := 25
theorem A_ar2_api_ID : isAggB PG 25 = some true := by kernel_rfl
theorem Z_ar2_api_ID : sizeB PG 25 = some 32 := by kernel_rfl
theorem Y_ar2_api_ID : bytesB PG 25 = some 32 := by kernel_rfl
theorem R_ar2_api_ID : arrB PG 25 = some (2, 24) := by kernel_rfl
theorem N_ar2_api_ID : zeroB PG 25 = some (.agg ar2_api_ID.zero.enc) := by kernel_rfl
theorem U_ar2_api_ID : (PG.underlying 25).isSome = true := by kernel_rfl
abbrev T_pt_table_Table : Nat := 26
theorem A_pt_table_Table : isAggB PG 26 = some false := by kernel_rfl
theorem Z_pt_table_Table : sizeB PG 26 = some 1 := by kernel_rfl
theorem Y_pt_table_Table : bytesB PG 26 = some 8 := by kernel_rfl
theorem P_pt_table_Table : ptrB PG 26 = true := by kernel_rfl
theorem N_pt_table_Table : zeroB PG 26 = some (.pointer none) := by kernel_rfl
theorem U_pt_table_Table : (PG.underlying 26).isSome = true := by kernel_rfl
abbrev T_pt_annuletref12_Table : Nat := 27
theorem A_pt_annuletref12_Table : isAggB PG 27 = some false := by kernel_rfl
theorem Z_pt_annuletref12_Table : sizeB PG 27 = some 1 := by kernel_rfl
theorem Y_pt_annuletref12_Table : bytesB PG 27 = some 8 := by kernel_rfl
theorem P_pt_annuletref12_Table : ptrB PG 27 = true := by kernel_rfl
theorem N_pt_annuletref12_Table : zeroB PG 27 = some (.pointer none) := by kernel_rfl
theorem U_pt_annuletref12_Table : (PG.underlying 27).isSome = true := by kernel_rfl
abbrev T_st30 : Nat := 30
theorem A_st30 : isAggB PG 30 = some true := by kernel_rfl
theorem Z_st30 : sizeB PG 30 = some 17 := by kernel_rfl
theorem Y_st30 : bytesB PG 30 = some 24 := by kernel_rfl
theorem U_st30 : (PG.underlying 30).isSome = true := by kernel_rfl
abbrev T_api_Path : Nat := 31
theorem A_api_Path : isAggB PG 31 = some true := by kernel_rfl
theorem Z_api_Path : sizeB PG 31 = some 17 := by kernel_rfl
theorem Y_api_Path : bytesB PG 31 = some 24 := by kernel_rfl
theorem F_api_Path_Who : fieldB PG 31 0 = some (0, 24) := by kernel_rfl
theorem F_api_Path_N : fieldB PG 31 1 = some (16, 2) := by kernel_rfl
theorem W_api_Path (w : World) : placesR PG 31 w = .ok #[(0, 16), (16, 1)] w := by kernel_rfl
theorem N_api_Path : zeroB PG 31 = some (.agg api_Path.zero.enc) := by kernel_rfl
theorem U_api_Path : (PG.underlying 31).isSome = true := by kernel_rfl
abbrev T_st32 : Nat := 32
theorem A_st32 : isAggB PG 32 = some true := by kernel_rfl
theorem Z_st32 : sizeB PG 32 = some 51 := by kernel_rfl
theorem Y_st32 : bytesB PG 32 = some 72 := by kernel_rfl
theorem U_st32 : (PG.underlying 32).isSome = true := by kernel_rfl
abbrev T_api_Entry : Nat := 33
theorem A_api_Entry : isAggB PG 33 = some true := by kernel_rfl
theorem Z_api_Entry : sizeB PG 33 = some 51 := by kernel_rfl
theorem Y_api_Entry : bytesB PG 33 = some 72 := by kernel_rfl
theorem F_api_Entry_P : fieldB PG 33 0 = some (0, 31) := by kernel_rfl
theorem F_api_Entry_A : fieldB PG 33 1 = some (17, 24) := by kernel_rfl
theorem F_api_Entry_B : fieldB PG 33 2 = some (33, 24) := by kernel_rfl
theorem F_api_Entry_Na : fieldB PG 33 3 = some (49, 3) := by kernel_rfl
theorem F_api_Entry_Nb : fieldB PG 33 4 = some (50, 3) := by kernel_rfl
theorem W_api_Entry (w : World) : placesR PG 33 w = .ok #[(0, 17), (17, 16), (33, 16), (49, 1), (50, 1)] w := by kernel_rfl
theorem N_api_Entry : zeroB PG 33 = some (.agg api_Entry.zero.enc) := by kernel_rfl
theorem U_api_Entry : (PG.underlying 33).isSome = true := by kernel_rfl
abbrev T_sl_api_ID : Nat := 39
theorem A_sl_api_ID : isAggB PG 39 = some false := by kernel_rfl
theorem Z_sl_api_ID : sizeB PG 39 = some 1 := by kernel_rfl
theorem Y_sl_api_ID : bytesB PG 39 = some 24 := by kernel_rfl
theorem L_sl_api_ID : elemB PG 39 = some 24 := by kernel_rfl
theorem N_sl_api_ID : zeroB PG 39 = some (.slice none 0 0) := by kernel_rfl
theorem U_sl_api_ID : (PG.underlying 39).isSome = true := by kernel_rfl
abbrev T_sl_api_Path : Nat := 43
theorem A_sl_api_Path : isAggB PG 43 = some false := by kernel_rfl
theorem Z_sl_api_Path : sizeB PG 43 = some 1 := by kernel_rfl
theorem Y_sl_api_Path : bytesB PG 43 = some 24 := by kernel_rfl
theorem L_sl_api_Path : elemB PG 43 = some 31 := by kernel_rfl
theorem N_sl_api_Path : zeroB PG 43 = some (.slice none 0 0) := by kernel_rfl
theorem U_sl_api_Path : (PG.underlying 43).isSome = true := by kernel_rfl
abbrev T_st50 : Nat := 50
theorem A_st50 : isAggB PG 50 = some true := by kernel_rfl
theorem Z_st50 : sizeB PG 50 = some 2 := by kernel_rfl
theorem Y_st50 : bytesB PG 50 = some 32 := by kernel_rfl
theorem U_st50 : (PG.underlying 50).isSome = true := by kernel_rfl
abbrev T_annuletref12_Table : Nat := 51
theorem A_annuletref12_Table : isAggB PG 51 = some true := by kernel_rfl
theorem Z_annuletref12_Table : sizeB PG 51 = some 2 := by kernel_rfl
theorem Y_annuletref12_Table : bytesB PG 51 = some 32 := by kernel_rfl
theorem F_annuletref12_Table_L : fieldB PG 51 0 = some (0, 22) := by kernel_rfl
theorem F_annuletref12_Table_Most : fieldB PG 51 1 = some (1, 3) := by kernel_rfl
theorem W_annuletref12_Table (w : World) : placesR PG 51 w = .ok #[(0, 1), (1, 1)] w := by kernel_rfl
theorem N_annuletref12_Table : zeroB PG 51 = some (.agg annuletref12_Table.zero.enc) := by kernel_rfl
theorem U_annuletref12_Table : (PG.underlying 51).isSome = true := by kernel_rfl
abbrev T_sl_api_Hop : Nat := 53
theorem A_sl_api_Hop : isAggB PG 53 = some false := by kernel_rfl
theorem Z_sl_api_Hop : sizeB PG 53 = some 1 := by kernel_rfl
theorem Y_sl_api_Hop : bytesB PG 53 = some 24 := by kernel_rfl
theorem L_sl_api_Hop : elemB PG 53 = some 79 := by kernel_rfl
theorem N_sl_api_Hop : zeroB PG 53 = some (.slice none 0 0) := by kernel_rfl
theorem U_sl_api_Hop : (PG.underlying 53).isSome = true := by kernel_rfl
abbrev T_st54 : Nat := 54
theorem A_st54 : isAggB PG 54 = some true := by kernel_rfl
theorem Z_st54 : sizeB PG 54 = some 2 := by kernel_rfl
theorem Y_st54 : bytesB PG 54 = some 48 := by kernel_rfl
theorem U_st54 : (PG.underlying 54).isSome = true := by kernel_rfl
abbrev T_tear_Torn : Nat := 55
theorem A_tear_Torn : isAggB PG 55 = some true := by kernel_rfl
theorem Z_tear_Torn : sizeB PG 55 = some 2 := by kernel_rfl
theorem Y_tear_Torn : bytesB PG 55 = some 48 := by kernel_rfl
theorem F_tear_Torn_Out : fieldB PG 55 0 = some (0, 53) := by kernel_rfl
theorem F_tear_Torn_Lost : fieldB PG 55 1 = some (1, 43) := by kernel_rfl
theorem W_tear_Torn (w : World) : placesR PG 55 w = .ok #[(0, 1), (1, 1)] w := by kernel_rfl
theorem N_tear_Torn : zeroB PG 55 = some (.agg tear_Torn.zero.enc) := by kernel_rfl
theorem U_tear_Torn : (PG.underlying 55).isSome = true := by kernel_rfl
abbrev T_api_Errno : Nat := 63
theorem A_api_Errno : isAggB PG 63 = some false := by kernel_rfl
theorem Z_api_Errno : sizeB PG 63 = some 1 := by kernel_rfl
theorem Y_api_Errno : bytesB PG 63 = some 8 := by kernel_rfl
theorem I_api_Errno : intB PG 63 = some .i64 := by kernel_rfl
theorem N_api_Errno : zeroB PG 63 = some (.int .i64 0) := by kernel_rfl
theorem U_api_Errno : (PG.underlying 63).isSome = true := by kernel_rfl
abbrev T_st68 : Nat := 68
theorem A_st68 : isAggB PG 68 = some true := by kernel_rfl
theorem Z_st68 : sizeB PG 68 = some 2 := by kernel_rfl
theorem Y_st68 : bytesB PG 68 = some 16 := by kernel_rfl
theorem U_st68 : (PG.underlying 68).isSome = true := by kernel_rfl
abbrev T_api_Num : Nat := 69
theorem A_api_Num : isAggB PG 69 = some true := by kernel_rfl
theorem Z_api_Num : sizeB PG 69 = some 2 := by kernel_rfl
theorem Y_api_Num : bytesB PG 69 = some 16 := by kernel_rfl
theorem F_api_Num_Inc : fieldB PG 69 0 = some (0, 2) := by kernel_rfl
theorem F_api_Num_N : fieldB PG 69 1 = some (1, 2) := by kernel_rfl
theorem W_api_Num (w : World) : placesR PG 69 w = .ok #[(0, 1), (1, 1)] w := by kernel_rfl
theorem N_api_Num : zeroB PG 69 = some (.agg api_Num.zero.enc) := by kernel_rfl
theorem U_api_Num : (PG.underlying 69).isSome = true := by kernel_rfl
abbrev T_sl_int : Nat := 70
theorem A_sl_int : isAggB PG 70 = some false := by kernel_rfl
theorem Z_sl_int : sizeB PG 70 = some 1 := by kernel_rfl
theorem Y_sl_int : bytesB PG 70 = some 24 := by kernel_rfl
theorem L_sl_int : elemB PG 70 = some 3 := by kernel_rfl
theorem N_sl_int : zeroB PG 70 = some (.slice none 0 0) := by kernel_rfl
theorem U_sl_int : (PG.underlying 70).isSome = true := by kernel_rfl
abbrev T_st71 : Nat := 71
theorem A_st71 : isAggB PG 71 = some true := by kernel_rfl
theorem Z_st71 : sizeB PG 71 = some 17 := by kernel_rfl
theorem Y_st71 : bytesB PG 71 = some 24 := by kernel_rfl
theorem U_st71 : (PG.underlying 71).isSome = true := by kernel_rfl
abbrev T_api_Ver : Nat := 72
theorem A_api_Ver : isAggB PG 72 = some true := by kernel_rfl
theorem Z_api_Ver : sizeB PG 72 = some 17 := by kernel_rfl
theorem Y_api_Ver : bytesB PG 72 = some 24 := by kernel_rfl
theorem F_api_Ver_N : fieldB PG 72 0 = some (0, 2) := by kernel_rfl
theorem F_api_Ver_Who : fieldB PG 72 1 = some (1, 24) := by kernel_rfl
theorem W_api_Ver (w : World) : placesR PG 72 w = .ok #[(0, 1), (1, 16)] w := by kernel_rfl
theorem N_api_Ver : zeroB PG 72 = some (.agg api_Ver.zero.enc) := by kernel_rfl
theorem U_api_Ver : (PG.underlying 72).isSome = true := by kernel_rfl
abbrev T_sl_uint8 : Nat := 73
theorem A_sl_uint8 : isAggB PG 73 = some false := by kernel_rfl
theorem Z_sl_uint8 : sizeB PG 73 = some 1 := by kernel_rfl
theorem Y_sl_uint8 : bytesB PG 73 = some 24 := by kernel_rfl
theorem L_sl_uint8 : elemB PG 73 = some 5 := by kernel_rfl
theorem N_sl_uint8 : zeroB PG 73 = some (.slice none 0 0) := by kernel_rfl
theorem U_sl_uint8 : (PG.underlying 73).isSome = true := by kernel_rfl
abbrev T_st74 : Nat := 74
theorem A_st74 : isAggB PG 74 = some true := by kernel_rfl
theorem Z_st74 : sizeB PG 74 = some 34 := by kernel_rfl
theorem Y_st74 : bytesB PG 74 = some 64 := by kernel_rfl
theorem U_st74 : (PG.underlying 74).isSome = true := by kernel_rfl
abbrev T_api_Item : Nat := 75
theorem A_api_Item : isAggB PG 75 = some true := by kernel_rfl
theorem Z_api_Item : sizeB PG 75 = some 34 := by kernel_rfl
theorem Y_api_Item : bytesB PG 75 = some 64 := by kernel_rfl
theorem F_api_Item_Key : fieldB PG 75 0 = some (0, 24) := by kernel_rfl
theorem F_api_Item_Ver : fieldB PG 75 1 = some (16, 72) := by kernel_rfl
theorem F_api_Item_Value : fieldB PG 75 2 = some (33, 73) := by kernel_rfl
theorem W_api_Item (w : World) : placesR PG 75 w = .ok #[(0, 16), (16, 17), (33, 1)] w := by kernel_rfl
theorem N_api_Item : zeroB PG 75 = some (.agg api_Item.zero.enc) := by kernel_rfl
theorem U_api_Item : (PG.underlying 75).isSome = true := by kernel_rfl
abbrev T_st76 : Nat := 76
theorem A_st76 : isAggB PG 76 = some true := by kernel_rfl
theorem Z_st76 : sizeB PG 76 = some 95 := by kernel_rfl
theorem Y_st76 : bytesB PG 76 = some 264 := by kernel_rfl
theorem U_st76 : (PG.underlying 76).isSome = true := by kernel_rfl
abbrev T_api_Frame : Nat := 77
theorem A_api_Frame : isAggB PG 77 = some true := by kernel_rfl
theorem Z_api_Frame : sizeB PG 77 = some 95 := by kernel_rfl
theorem Y_api_Frame : bytesB PG 77 = some 264 := by kernel_rfl
theorem F_api_Frame_Kind : fieldB PG 77 0 = some (0, 3) := by kernel_rfl
theorem F_api_Frame_P : fieldB PG 77 1 = some (1, 31) := by kernel_rfl
theorem F_api_Frame_ToA : fieldB PG 77 2 = some (18, 4) := by kernel_rfl
theorem F_api_Frame_A : fieldB PG 77 3 = some (19, 24) := by kernel_rfl
theorem F_api_Frame_B : fieldB PG 77 4 = some (35, 24) := by kernel_rfl
theorem F_api_Frame_N : fieldB PG 77 5 = some (51, 2) := by kernel_rfl
theorem F_api_Frame_From : fieldB PG 77 6 = some (52, 69) := by kernel_rfl
theorem F_api_Frame_To : fieldB PG 77 7 = some (54, 69) := by kernel_rfl
theorem F_api_Frame_Trail : fieldB PG 77 8 = some (56, 70) := by kernel_rfl
theorem F_api_Frame_IDs : fieldB PG 77 9 = some (57, 39) := by kernel_rfl
theorem F_api_Frame_Item : fieldB PG 77 10 = some (58, 75) := by kernel_rfl
theorem F_api_Frame_Op : fieldB PG 77 11 = some (92, 3) := by kernel_rfl
theorem F_api_Frame_TTL : fieldB PG 77 12 = some (93, 3) := by kernel_rfl
theorem F_api_Frame_Text : fieldB PG 77 13 = some (94, 73) := by kernel_rfl
theorem W_api_Frame (w : World) : placesR PG 77 w = .ok #[(0, 1), (1, 17), (18, 1), (19, 16), (35, 16), (51, 1), (52, 2), (54, 2), (56, 1), (57, 1), (58, 34), (92, 1), (93, 1), (94, 1)] w := by kernel_rfl
theorem N_api_Frame : zeroB PG 77 = some (.agg api_Frame.zero.enc) := by kernel_rfl
theorem U_api_Frame : (PG.underlying 77).isSome = true := by kernel_rfl
abbrev T_st78 : Nat := 78
theorem A_st78 : isAggB PG 78 = some true := by kernel_rfl
theorem Z_st78 : sizeB PG 78 = some 96 := by kernel_rfl
theorem Y_st78 : bytesB PG 78 = some 272 := by kernel_rfl
theorem U_st78 : (PG.underlying 78).isSome = true := by kernel_rfl
abbrev T_api_Hop : Nat := 79
theorem A_api_Hop : isAggB PG 79 = some true := by kernel_rfl
theorem Z_api_Hop : sizeB PG 79 = some 96 := by kernel_rfl
theorem Y_api_Hop : bytesB PG 79 = some 272 := by kernel_rfl
theorem F_api_Hop_N : fieldB PG 79 0 = some (0, 3) := by kernel_rfl
theorem F_api_Hop_F : fieldB PG 79 1 = some (1, 77) := by kernel_rfl
theorem W_api_Hop (w : World) : placesR PG 79 w = .ok #[(0, 1), (1, 95)] w := by kernel_rfl
theorem N_api_Hop : zeroB PG 79 = some (.agg api_Hop.zero.enc) := by kernel_rfl
theorem U_api_Hop : (PG.underlying 79).isSome = true := by kernel_rfl
abbrev T_map_api_Path_api_Entry : Nat := 90
theorem A_map_api_Path_api_Entry : isAggB PG 90 = some false := by kernel_rfl
theorem Z_map_api_Path_api_Entry : sizeB PG 90 = some 1 := by kernel_rfl
theorem Y_map_api_Path_api_Entry : bytesB PG 90 = some 8 := by kernel_rfl
theorem M_map_api_Path_api_Entry : mapB PG 90 = some (31, 33) := by kernel_rfl
theorem N_map_api_Path_api_Entry : zeroB PG 90 = some (.map none) := by kernel_rfl
theorem U_map_api_Path_api_Entry : (PG.underlying 90).isSome = true := by kernel_rfl
abbrev T_st91 : Nat := 91
theorem A_st91 : isAggB PG 91 = some true := by kernel_rfl
theorem Z_st91 : sizeB PG 91 = some 2 := by kernel_rfl
theorem Y_st91 : bytesB PG 91 = some 16 := by kernel_rfl
theorem U_st91 : (PG.underlying 91).isSome = true := by kernel_rfl
abbrev T_table_Table : Nat := 92
theorem A_table_Table : isAggB PG 92 = some true := by kernel_rfl
theorem Z_table_Table : sizeB PG 92 = some 2 := by kernel_rfl
theorem Y_table_Table : bytesB PG 92 = some 16 := by kernel_rfl
theorem F_table_Table_most : fieldB PG 92 0 = some (0, 3) := by kernel_rfl
theorem F_table_Table_m : fieldB PG 92 1 = some (1, 90) := by kernel_rfl
theorem W_table_Table (w : World) : placesR PG 92 w = .ok #[(0, 1), (1, 1)] w := by kernel_rfl
theorem N_table_Table : zeroB PG 92 = some (.agg table_Table.zero.enc) := by kernel_rfl
theorem U_table_Table : (PG.underlying 92).isSome = true := by kernel_rfl
abbrev T_iter_Seq_api_Path : Nat := 103
theorem A_iter_Seq_api_Path : isAggB PG 103 = some false := by kernel_rfl
theorem Z_iter_Seq_api_Path : sizeB PG 103 = some 1 := by kernel_rfl
theorem Y_iter_Seq_api_Path : bytesB PG 103 = some 8 := by kernel_rfl
theorem U_iter_Seq_api_Path : (PG.underlying 103).isSome = true := by kernel_rfl
abbrev T_pt_tear_Torn : Nat := 106
theorem A_pt_tear_Torn : isAggB PG 106 = some false := by kernel_rfl
theorem Z_pt_tear_Torn : sizeB PG 106 = some 1 := by kernel_rfl
theorem Y_pt_tear_Torn : bytesB PG 106 = some 8 := by kernel_rfl
theorem P_pt_tear_Torn : ptrB PG 106 = true := by kernel_rfl
theorem N_pt_tear_Torn : zeroB PG 106 = some (.pointer none) := by kernel_rfl
theorem U_pt_tear_Torn : (PG.underlying 106).isSome = true := by kernel_rfl
abbrev T_st108 : Nat := 108
theorem A_st108 : isAggB PG 108 = some true := by kernel_rfl
theorem Z_st108 : sizeB PG 108 = some 17 := by kernel_rfl
theorem Y_st108 : bytesB PG 108 = some 24 := by kernel_rfl
theorem U_st108 : (PG.underlying 108).isSome = true := by kernel_rfl
abbrev T_frame_Drop : Nat := 109
theorem A_frame_Drop : isAggB PG 109 = some true := by kernel_rfl
theorem Z_frame_Drop : sizeB PG 109 = some 17 := by kernel_rfl
theorem Y_frame_Drop : bytesB PG 109 = some 24 := by kernel_rfl
theorem F_frame_Drop_P : fieldB PG 109 0 = some (0, 31) := by kernel_rfl
theorem W_frame_Drop (w : World) : placesR PG 109 w = .ok #[(0, 17)] w := by kernel_rfl
theorem N_frame_Drop : zeroB PG 109 = some (.agg frame_Drop.zero.enc) := by kernel_rfl
theorem U_frame_Drop : (PG.underlying 109).isSome = true := by kernel_rfl
abbrev T_uint64 : Nat := 110
theorem A_uint64 : isAggB PG 110 = some false := by kernel_rfl
theorem Z_uint64 : sizeB PG 110 = some 1 := by kernel_rfl
theorem Y_uint64 : bytesB PG 110 = some 8 := by kernel_rfl
theorem I_uint64 : intB PG 110 = some .u64 := by kernel_rfl
theorem N_uint64 : zeroB PG 110 = some (.int .u64 0) := by kernel_rfl
theorem U_uint64 : (PG.underlying 110).isSome = true := by kernel_rfl
abbrev T_uint : Nat := 118
theorem A_uint : isAggB PG 118 = some false := by kernel_rfl
theorem Z_uint : sizeB PG 118 = some 1 := by kernel_rfl
theorem Y_uint : bytesB PG 118 = some 8 := by kernel_rfl
theorem I_uint : intB PG 118 = some .u64 := by kernel_rfl
theorem N_uint : zeroB PG 118 = some (.int .u64 0) := by kernel_rfl
theorem U_uint : (PG.underlying 118).isSome = true := by kernel_rfl
abbrev T_frame_Body : Nat := 123
theorem A_frame_Body : isAggB PG 123 = some false := by kernel_rfl
theorem Z_frame_Body : sizeB PG 123 = some 1 := by kernel_rfl
theorem Y_frame_Body : bytesB PG 123 = some 16 := by kernel_rfl
theorem U_frame_Body : (PG.underlying 123).isSome = true := by kernel_rfl
abbrev T_st124 : Nat := 124
theorem A_st124 : isAggB PG 124 = some true := by kernel_rfl
theorem Z_st124 : sizeB PG 124 = some 20 := by kernel_rfl
theorem Y_st124 : bytesB PG 124 = some 48 := by kernel_rfl
theorem U_st124 : (PG.underlying 124).isSome = true := by kernel_rfl
abbrev T_frame_Hello : Nat := 125
theorem A_frame_Hello : isAggB PG 125 = some true := by kernel_rfl
theorem Z_frame_Hello : sizeB PG 125 = some 20 := by kernel_rfl
theorem Y_frame_Hello : bytesB PG 125 = some 48 := by kernel_rfl
theorem F_frame_Hello_Mine : fieldB PG 125 0 = some (0, 69) := by kernel_rfl
theorem F_frame_Hello_Seen : fieldB PG 125 1 = some (2, 69) := by kernel_rfl
theorem F_frame_Hello_ID : fieldB PG 125 2 = some (4, 24) := by kernel_rfl
theorem W_frame_Hello (w : World) : placesR PG 125 w = .ok #[(0, 2), (2, 2), (4, 16)] w := by kernel_rfl
theorem N_frame_Hello : zeroB PG 125 = some (.agg frame_Hello.zero.enc) := by kernel_rfl
theorem U_frame_Hello : (PG.underlying 125).isSome = true := by kernel_rfl
abbrev T_st126 : Nat := 126
theorem A_st126 : isAggB PG 126 = some true := by kernel_rfl
theorem Z_st126 : sizeB PG 126 = some 6 := by kernel_rfl
theorem Y_st126 : bytesB PG 126 = some 64 := by kernel_rfl
theorem U_st126 : (PG.underlying 126).isSome = true := by kernel_rfl
abbrev T_frame_Data : Nat := 127
theorem A_frame_Data : isAggB PG 127 = some true := by kernel_rfl
theorem Z_frame_Data : sizeB PG 127 = some 6 := by kernel_rfl
theorem Y_frame_Data : bytesB PG 127 = some 64 := by kernel_rfl
theorem F_frame_Data_From : fieldB PG 127 0 = some (0, 69) := by kernel_rfl
theorem F_frame_Data_To : fieldB PG 127 1 = some (2, 69) := by kernel_rfl
theorem F_frame_Data_N : fieldB PG 127 2 = some (4, 2) := by kernel_rfl
theorem F_frame_Data_Text : fieldB PG 127 3 = some (5, 73) := by kernel_rfl
theorem W_frame_Data (w : World) : placesR PG 127 w = .ok #[(0, 2), (2, 2), (4, 1), (5, 1)] w := by kernel_rfl
theorem N_frame_Data : zeroB PG 127 = some (.agg frame_Data.zero.enc) := by kernel_rfl
theorem U_frame_Data : (PG.underlying 127).isSome = true := by kernel_rfl
abbrev T_st128 : Nat := 128
theorem A_st128 : isAggB PG 128 = some true := by kernel_rfl
theorem Z_st128 : sizeB PG 128 = some 5 := by kernel_rfl
theorem Y_st128 : bytesB PG 128 = some 40 := by kernel_rfl
theorem U_st128 : (PG.underlying 128).isSome = true := by kernel_rfl
abbrev T_frame_Ack : Nat := 129
theorem A_frame_Ack : isAggB PG 129 = some true := by kernel_rfl
theorem Z_frame_Ack : sizeB PG 129 = some 5 := by kernel_rfl
theorem Y_frame_Ack : bytesB PG 129 = some 40 := by kernel_rfl
theorem F_frame_Ack_From : fieldB PG 129 0 = some (0, 69) := by kernel_rfl
theorem F_frame_Ack_To : fieldB PG 129 1 = some (2, 69) := by kernel_rfl
theorem F_frame_Ack_N : fieldB PG 129 2 = some (4, 2) := by kernel_rfl
theorem W_frame_Ack (w : World) : placesR PG 129 w = .ok #[(0, 2), (2, 2), (4, 1)] w := by kernel_rfl
theorem N_frame_Ack : zeroB PG 129 = some (.agg frame_Ack.zero.enc) := by kernel_rfl
theorem U_frame_Ack : (PG.underlying 129).isSome = true := by kernel_rfl
abbrev T_st130 : Nat := 130
theorem A_st130 : isAggB PG 130 = some true := by kernel_rfl
theorem Z_st130 : sizeB PG 130 = some 50 := by kernel_rfl
theorem Y_st130 : bytesB PG 130 = some 80 := by kernel_rfl
theorem U_st130 : (PG.underlying 130).isSome = true := by kernel_rfl
abbrev T_frame_Setup : Nat := 131
theorem A_frame_Setup : isAggB PG 131 = some true := by kernel_rfl
theorem Z_frame_Setup : sizeB PG 131 = some 50 := by kernel_rfl
theorem Y_frame_Setup : bytesB PG 131 = some 80 := by kernel_rfl
theorem F_frame_Setup_P : fieldB PG 131 0 = some (0, 31) := by kernel_rfl
theorem F_frame_Setup_A : fieldB PG 131 1 = some (17, 24) := by kernel_rfl
theorem F_frame_Setup_B : fieldB PG 131 2 = some (33, 24) := by kernel_rfl
theorem F_frame_Setup_Trail : fieldB PG 131 3 = some (49, 70) := by kernel_rfl
theorem W_frame_Setup (w : World) : placesR PG 131 w = .ok #[(0, 17), (17, 16), (33, 16), (49, 1)] w := by kernel_rfl
theorem N_frame_Setup : zeroB PG 131 = some (.agg frame_Setup.zero.enc) := by kernel_rfl
theorem U_frame_Setup : (PG.underlying 131).isSome = true := by kernel_rfl
abbrev T_st132 : Nat := 132
theorem A_st132 : isAggB PG 132 = some true := by kernel_rfl
theorem Z_st132 : sizeB PG 132 = some 18 := by kernel_rfl
theorem Y_st132 : bytesB PG 132 = some 32 := by kernel_rfl
theorem U_st132 : (PG.underlying 132).isSome = true := by kernel_rfl
abbrev T_frame_Part : Nat := 133
theorem A_frame_Part : isAggB PG 133 = some true := by kernel_rfl
theorem Z_frame_Part : sizeB PG 133 = some 18 := by kernel_rfl
theorem Y_frame_Part : bytesB PG 133 = some 32 := by kernel_rfl
theorem F_frame_Part_P : fieldB PG 133 0 = some (0, 31) := by kernel_rfl
theorem F_frame_Part_ToA : fieldB PG 133 1 = some (17, 4) := by kernel_rfl
theorem W_frame_Part (w : World) : placesR PG 133 w = .ok #[(0, 17), (17, 1)] w := by kernel_rfl
theorem N_frame_Part : zeroB PG 133 = some (.agg frame_Part.zero.enc) := by kernel_rfl
theorem U_frame_Part : (PG.underlying 133).isSome = true := by kernel_rfl
abbrev T_st134 : Nat := 134
theorem A_st134 : isAggB PG 134 = some true := by kernel_rfl
theorem Z_st134 : sizeB PG 134 = some 19 := by kernel_rfl
theorem Y_st134 : bytesB PG 134 = some 56 := by kernel_rfl
theorem U_st134 : (PG.underlying 134).isSome = true := by kernel_rfl
abbrev T_frame_Peers : Nat := 135
theorem A_frame_Peers : isAggB PG 135 = some true := by kernel_rfl
theorem Z_frame_Peers : sizeB PG 135 = some 19 := by kernel_rfl
theorem Y_frame_Peers : bytesB PG 135 = some 56 := by kernel_rfl
theorem F_frame_Peers_P : fieldB PG 135 0 = some (0, 31) := by kernel_rfl
theorem F_frame_Peers_ToA : fieldB PG 135 1 = some (17, 4) := by kernel_rfl
theorem F_frame_Peers_IDs : fieldB PG 135 2 = some (18, 39) := by kernel_rfl
theorem W_frame_Peers (w : World) : placesR PG 135 w = .ok #[(0, 17), (17, 1), (18, 1)] w := by kernel_rfl
theorem N_frame_Peers : zeroB PG 135 = some (.agg frame_Peers.zero.enc) := by kernel_rfl
theorem U_frame_Peers : (PG.underlying 135).isSome = true := by kernel_rfl
abbrev T_st136 : Nat := 136
theorem A_st136 : isAggB PG 136 = some true := by kernel_rfl
theorem Z_st136 : sizeB PG 136 = some 52 := by kernel_rfl
theorem Y_st136 : bytesB PG 136 = some 96 := by kernel_rfl
theorem U_st136 : (PG.underlying 136).isSome = true := by kernel_rfl
abbrev T_frame_Ask : Nat := 137
theorem A_frame_Ask : isAggB PG 137 = some true := by kernel_rfl
theorem Z_frame_Ask : sizeB PG 137 = some 52 := by kernel_rfl
theorem Y_frame_Ask : bytesB PG 137 = some 96 := by kernel_rfl
theorem F_frame_Ask_Who : fieldB PG 137 0 = some (0, 24) := by kernel_rfl
theorem F_frame_Ask_Want : fieldB PG 137 1 = some (16, 24) := by kernel_rfl
theorem F_frame_Ask_Leg : fieldB PG 137 2 = some (32, 3) := by kernel_rfl
theorem F_frame_Ask_P : fieldB PG 137 3 = some (33, 31) := by kernel_rfl
theorem F_frame_Ask_ToA : fieldB PG 137 4 = some (50, 4) := by kernel_rfl
theorem F_frame_Ask_Trail : fieldB PG 137 5 = some (51, 70) := by kernel_rfl
theorem W_frame_Ask (w : World) : placesR PG 137 w = .ok #[(0, 16), (16, 16), (32, 1), (33, 17), (50, 1), (51, 1)] w := by kernel_rfl
theorem N_frame_Ask : zeroB PG 137 = some (.agg frame_Ask.zero.enc) := by kernel_rfl
theorem U_frame_Ask : (PG.underlying 137).isSome = true := by kernel_rfl
abbrev T_st138 : Nat := 138
theorem A_st138 : isAggB PG 138 = some true := by kernel_rfl
theorem Z_st138 : sizeB PG 138 = some 17 := by kernel_rfl
theorem Y_st138 : bytesB PG 138 = some 24 := by kernel_rfl
theorem U_st138 : (PG.underlying 138).isSome = true := by kernel_rfl
abbrev T_frame_Advert : Nat := 139
theorem A_frame_Advert : isAggB PG 139 = some true := by kernel_rfl
theorem Z_frame_Advert : sizeB PG 139 = some 17 := by kernel_rfl
theorem Y_frame_Advert : bytesB PG 139 = some 24 := by kernel_rfl
theorem F_frame_Advert_ID : fieldB PG 139 0 = some (0, 24) := by kernel_rfl
theorem F_frame_Advert_Far : fieldB PG 139 1 = some (16, 2) := by kernel_rfl
theorem W_frame_Advert (w : World) : placesR PG 139 w = .ok #[(0, 16), (16, 1)] w := by kernel_rfl
theorem N_frame_Advert : zeroB PG 139 = some (.agg frame_Advert.zero.enc) := by kernel_rfl
theorem U_frame_Advert : (PG.underlying 139).isSome = true := by kernel_rfl
abbrev T_st140 : Nat := 140
theorem A_st140 : isAggB PG 140 = some true := by kernel_rfl
theorem Z_st140 : sizeB PG 140 = some 70 := by kernel_rfl
theorem Y_st140 : bytesB PG 140 = some 144 := by kernel_rfl
theorem U_st140 : (PG.underlying 140).isSome = true := by kernel_rfl
abbrev T_frame_Packet : Nat := 141
theorem A_frame_Packet : isAggB PG 141 = some true := by kernel_rfl
theorem Z_frame_Packet : sizeB PG 141 = some 70 := by kernel_rfl
theorem Y_frame_Packet : bytesB PG 141 = some 144 := by kernel_rfl
theorem F_frame_Packet_Src : fieldB PG 141 0 = some (0, 24) := by kernel_rfl
theorem F_frame_Packet_Dst : fieldB PG 141 1 = some (16, 24) := by kernel_rfl
theorem F_frame_Packet_Req : fieldB PG 141 2 = some (32, 2) := by kernel_rfl
theorem F_frame_Packet_Op : fieldB PG 141 3 = some (33, 3) := by kernel_rfl
theorem F_frame_Packet_TTL : fieldB PG 141 4 = some (34, 3) := by kernel_rfl
theorem F_frame_Packet_Item : fieldB PG 141 5 = some (35, 75) := by kernel_rfl
theorem F_frame_Packet_Text : fieldB PG 141 6 = some (69, 73) := by kernel_rfl
theorem W_frame_Packet (w : World) : placesR PG 141 w = .ok #[(0, 16), (16, 16), (32, 1), (33, 1), (34, 1), (35, 34), (69, 1)] w := by kernel_rfl
theorem N_frame_Packet : zeroB PG 141 = some (.agg frame_Packet.zero.enc) := by kernel_rfl
theorem U_frame_Packet : (PG.underlying 141).isSome = true := by kernel_rfl
abbrev T_st143 : Nat := 143
theorem A_st143 : isAggB PG 143 = some true := by kernel_rfl
theorem Z_st143 : sizeB PG 143 = some 52 := by kernel_rfl
theorem Y_st143 : bytesB PG 143 = some 96 := by kernel_rfl
theorem U_st143 : (PG.underlying 143).isSome = true := by kernel_rfl
abbrev T_frame_Copy : Nat := 144
theorem A_frame_Copy : isAggB PG 144 = some true := by kernel_rfl
theorem Z_frame_Copy : sizeB PG 144 = some 52 := by kernel_rfl
theorem Y_frame_Copy : bytesB PG 144 = some 96 := by kernel_rfl
theorem F_frame_Copy_P : fieldB PG 144 0 = some (0, 31) := by kernel_rfl
theorem F_frame_Copy_ToA : fieldB PG 144 1 = some (17, 4) := by kernel_rfl
theorem F_frame_Copy_Item : fieldB PG 144 2 = some (18, 75) := by kernel_rfl
theorem W_frame_Copy (w : World) : placesR PG 144 w = .ok #[(0, 17), (17, 1), (18, 34)] w := by kernel_rfl
theorem N_frame_Copy : zeroB PG 144 = some (.agg frame_Copy.zero.enc) := by kernel_rfl
theorem U_frame_Copy : (PG.underlying 144).isSome = true := by kernel_rfl
abbrev T_st145 : Nat := 145
theorem A_st145 : isAggB PG 145 = some true := by kernel_rfl
theorem Z_st145 : sizeB PG 145 = some 51 := by kernel_rfl
theorem Y_st145 : bytesB PG 145 = some 72 := by kernel_rfl
theorem U_st145 : (PG.underlying 145).isSome = true := by kernel_rfl
abbrev T_frame_Got : Nat := 146
theorem A_frame_Got : isAggB PG 146 = some true := by kernel_rfl
theorem Z_frame_Got : sizeB PG 146 = some 51 := by kernel_rfl
theorem Y_frame_Got : bytesB PG 146 = some 72 := by kernel_rfl
theorem F_frame_Got_P : fieldB PG 146 0 = some (0, 31) := by kernel_rfl
theorem F_frame_Got_ToA : fieldB PG 146 1 = some (17, 4) := by kernel_rfl
theorem F_frame_Got_Key : fieldB PG 146 2 = some (18, 24) := by kernel_rfl
theorem F_frame_Got_Ver : fieldB PG 146 3 = some (34, 72) := by kernel_rfl
theorem W_frame_Got (w : World) : placesR PG 146 w = .ok #[(0, 17), (17, 1), (18, 16), (34, 17)] w := by kernel_rfl
theorem N_frame_Got : zeroB PG 146 = some (.agg frame_Got.zero.enc) := by kernel_rfl
theorem U_frame_Got : (PG.underlying 146).isSome = true := by kernel_rfl
abbrev T_slices_sortedHint : Nat := 148
theorem A_slices_sortedHint : isAggB PG 148 = some false := by kernel_rfl
theorem Z_slices_sortedHint : sizeB PG 148 = some 1 := by kernel_rfl
theorem Y_slices_sortedHint : bytesB PG 148 = some 8 := by kernel_rfl
theorem I_slices_sortedHint : intB PG 148 = some .i64 := by kernel_rfl
theorem N_slices_sortedHint : zeroB PG 148 = some (.int .i64 0) := by kernel_rfl
theorem U_slices_sortedHint : (PG.underlying 148).isSome = true := by kernel_rfl
abbrev T_uint32 : Nat := 156
theorem A_uint32 : isAggB PG 156 = some false := by kernel_rfl
theorem Z_uint32 : sizeB PG 156 = some 1 := by kernel_rfl
theorem Y_uint32 : bytesB PG 156 = some 4 := by kernel_rfl
theorem I_uint32 : intB PG 156 = some .u32 := by kernel_rfl
theorem N_uint32 : zeroB PG 156 = some (.int .u32 0) := by kernel_rfl
theorem U_uint32 : (PG.underlying 156).isSome = true := by kernel_rfl
abbrev T_slices_xorshift : Nat := 160
theorem A_slices_xorshift : isAggB PG 160 = some false := by kernel_rfl
theorem Z_slices_xorshift : sizeB PG 160 = some 1 := by kernel_rfl
theorem Y_slices_xorshift : bytesB PG 160 = some 8 := by kernel_rfl
theorem I_slices_xorshift : intB PG 160 = some .u64 := by kernel_rfl
theorem N_slices_xorshift : zeroB PG 160 = some (.int .u64 0) := by kernel_rfl
theorem U_slices_xorshift : (PG.underlying 160).isSome = true := by kernel_rfl
abbrev T_pt_x3 : Nat := 164
theorem A_pt_x3 : isAggB PG 164 = some false := by kernel_rfl
theorem Z_pt_x3 : sizeB PG 164 = some 1 := by kernel_rfl
theorem Y_pt_x3 : bytesB PG 164 = some 8 := by kernel_rfl
theorem P_pt_x3 : ptrB PG 164 = true := by kernel_rfl
theorem N_pt_x3 : zeroB PG 164 = some (.pointer none) := by kernel_rfl
theorem U_pt_x3 : (PG.underlying 164).isSome = true := by kernel_rfl
abbrev T_pt_slices_xorshift : Nat := 171
theorem A_pt_slices_xorshift : isAggB PG 171 = some false := by kernel_rfl
theorem Z_pt_slices_xorshift : sizeB PG 171 = some 1 := by kernel_rfl
theorem Y_pt_slices_xorshift : bytesB PG 171 = some 8 := by kernel_rfl
theorem P_pt_slices_xorshift : ptrB PG 171 = true := by kernel_rfl
theorem N_pt_slices_xorshift : zeroB PG 171 = some (.pointer none) := by kernel_rfl
theorem U_pt_slices_xorshift : (PG.underlying 171).isSome = true := by kernel_rfl
abbrev T_st178 : Nat := 178
theorem A_st178 : isAggB PG 178 = some true := by kernel_rfl
theorem Z_st178 : sizeB PG 178 = some 4 := by kernel_rfl
theorem Y_st178 : bytesB PG 178 = some 40 := by kernel_rfl
theorem U_st178 : (PG.underlying 178).isSome = true := by kernel_rfl
abbrev T_st181 : Nat := 181
theorem A_st181 : isAggB PG 181 = some true := by kernel_rfl
theorem Z_st181 : sizeB PG 181 = some 0 := by kernel_rfl
theorem Y_st181 : bytesB PG 181 = some 0 := by kernel_rfl
theorem U_st181 : (PG.underlying 181).isSome = true := by kernel_rfl
abbrev T_pt_x5 : Nat := 186
theorem A_pt_x5 : isAggB PG 186 = some false := by kernel_rfl
theorem Z_pt_x5 : sizeB PG 186 = some 1 := by kernel_rfl
theorem Y_pt_x5 : bytesB PG 186 = some 8 := by kernel_rfl
theorem P_pt_x5 : ptrB PG 186 = true := by kernel_rfl
theorem N_pt_x5 : zeroB PG 186 = some (.pointer none) := by kernel_rfl
theorem U_pt_x5 : (PG.underlying 186).isSome = true := by kernel_rfl
abbrev T_st189 : Nat := 189
theorem A_st189 : isAggB PG 189 = some true := by kernel_rfl
theorem Z_st189 : sizeB PG 189 = some 11 := by kernel_rfl
theorem Y_st189 : bytesB PG 189 = some 48 := by kernel_rfl
theorem U_st189 : (PG.underlying 189).isSome = true := by kernel_rfl
theorem G_ar16_uint8 : PG.eqGuardType PG.depth 23 = false := by kernel_rfl
theorem EQ_ar16_uint8 (x y : Idn) : EqV PG 2 23 (.agg x.enc) (.agg y.enc) (decide (x = y)) := .idn R_ar16_uint8 I_uint8 A_uint8 Z_uint8 x y
theorem G_api_ID : PG.eqGuardType PG.depth 24 = false := by kernel_rfl
theorem EQ_api_ID (x y : Idn) : EqV PG 2 24 (.agg x.enc) (.agg y.enc) (decide (x = y)) := .idn R_api_ID I_uint8 A_uint8 Z_uint8 x y
theorem G_api_Path : PG.eqGuardType PG.depth 31 = false := by kernel_rfl
theorem V_api_Path : fieldsB PG 31 = some [(0, 24), (16, 2)] := by kernel_rfl
theorem EQ_api_Path (x y : api_Path) : EqV PG 3 31 (.agg x.enc) (.agg y.enc) (decide (x = y)) := by
  have h : EqV PG 3 31 (.agg x.enc) (.agg y.enc) _ := .str V_api_Path (.agg A_api_ID Z_api_ID (api_Path.s_Who x) (api_Path.s_Who y) ((EQ_api_ID _ _).up (by decide)) (.one A_int64 (api_Path.g_N x) (api_Path.g_N y) ((EqV.int I_int64 _ _).up (by decide)) (.nil)))
  have e : decide (x = y) = (decide (x.Who = y.Who) && (decide (x.N = y.N) && true)) := by rw [Bool.eq_iff_iff]; cases x; cases y; simp
  rw [e]; exact h
theorem G_api_Entry : PG.eqGuardType PG.depth 33 = false := by kernel_rfl
theorem V_api_Entry : fieldsB PG 33 = some [(0, 31), (17, 24), (33, 24), (49, 3), (50, 3)] := by kernel_rfl
theorem EQ_api_Entry (x y : api_Entry) : EqV PG 4 33 (.agg x.enc) (.agg y.enc) (decide (x = y)) := by
  have h : EqV PG 4 33 (.agg x.enc) (.agg y.enc) _ := .str V_api_Entry (.agg A_api_Path Z_api_Path (api_Entry.s_P x) (api_Entry.s_P y) ((EQ_api_Path _ _).up (by decide)) (.agg A_api_ID Z_api_ID (api_Entry.s_A x) (api_Entry.s_A y) ((EQ_api_ID _ _).up (by decide)) (.agg A_api_ID Z_api_ID (api_Entry.s_B x) (api_Entry.s_B y) ((EQ_api_ID _ _).up (by decide)) (.one A_int (api_Entry.g_Na x) (api_Entry.g_Na y) ((EqV.int I_int _ _).up (by decide)) (.one A_int (api_Entry.g_Nb x) (api_Entry.g_Nb y) ((EqV.int I_int _ _).up (by decide)) (.nil))))))
  have e : decide (x = y) = (decide (x.P = y.P) && (decide (x.A = y.A) && (decide (x.B = y.B) && (decide (x.Na = y.Na) && (decide (x.Nb = y.Nb) && true))))) := by rw [Bool.eq_iff_iff]; cases x; cases y; simp
  rw [e]; exact h
theorem G_api_Num : PG.eqGuardType PG.depth 69 = false := by kernel_rfl
theorem V_api_Num : fieldsB PG 69 = some [(0, 2), (1, 2)] := by kernel_rfl
theorem EQ_api_Num (x y : api_Num) : EqV PG 2 69 (.agg x.enc) (.agg y.enc) (decide (x = y)) := by
  have h : EqV PG 2 69 (.agg x.enc) (.agg y.enc) _ := .str V_api_Num (.one A_int64 (api_Num.g_Inc x) (api_Num.g_Inc y) ((EqV.int I_int64 _ _).up (by decide)) (.one A_int64 (api_Num.g_N x) (api_Num.g_N y) ((EqV.int I_int64 _ _).up (by decide)) (.nil)))
  have e : decide (x = y) = (decide (x.Inc = y.Inc) && (decide (x.N = y.N) && true)) := by rw [Bool.eq_iff_iff]; cases x; cases y; simp
  rw [e]; exact h
theorem G_api_Ver : PG.eqGuardType PG.depth 72 = false := by kernel_rfl
theorem V_api_Ver : fieldsB PG 72 = some [(0, 2), (1, 24)] := by kernel_rfl
theorem EQ_api_Ver (x y : api_Ver) : EqV PG 3 72 (.agg x.enc) (.agg y.enc) (decide (x = y)) := by
  have h : EqV PG 3 72 (.agg x.enc) (.agg y.enc) _ := .str V_api_Ver (.one A_int64 (api_Ver.g_N x) (api_Ver.g_N y) ((EqV.int I_int64 _ _).up (by decide)) (.agg A_api_ID Z_api_ID (api_Ver.s_Who x) (api_Ver.s_Who y) ((EQ_api_ID _ _).up (by decide)) (.nil)))
  have e : decide (x = y) = (decide (x.N = y.N) && (decide (x.Who = y.Who) && true)) := by rw [Bool.eq_iff_iff]; cases x; cases y; simp
  rw [e]; exact h
theorem G_frame_Drop : PG.eqGuardType PG.depth 109 = false := by kernel_rfl
theorem V_frame_Drop : fieldsB PG 109 = some [(0, 31)] := by kernel_rfl
theorem EQ_frame_Drop (x y : frame_Drop) : EqV PG 4 109 (.agg x.enc) (.agg y.enc) (decide (x = y)) := by
  have h : EqV PG 4 109 (.agg x.enc) (.agg y.enc) _ := .str V_frame_Drop (.agg A_api_Path Z_api_Path (frame_Drop.s_P x) (frame_Drop.s_P y) ((EQ_api_Path _ _).up (by decide)) (.nil))
  have e : decide (x = y) = (decide (x.P = y.P) && true) := by rw [Bool.eq_iff_iff]; cases x; cases y; simp
  rw [e]; exact h
theorem G_frame_Hello : PG.eqGuardType PG.depth 125 = false := by kernel_rfl
theorem V_frame_Hello : fieldsB PG 125 = some [(0, 69), (2, 69), (4, 24)] := by kernel_rfl
theorem EQ_frame_Hello (x y : frame_Hello) : EqV PG 3 125 (.agg x.enc) (.agg y.enc) (decide (x = y)) := by
  have h : EqV PG 3 125 (.agg x.enc) (.agg y.enc) _ := .str V_frame_Hello (.agg A_api_Num Z_api_Num (frame_Hello.s_Mine x) (frame_Hello.s_Mine y) ((EQ_api_Num _ _).up (by decide)) (.agg A_api_Num Z_api_Num (frame_Hello.s_Seen x) (frame_Hello.s_Seen y) ((EQ_api_Num _ _).up (by decide)) (.agg A_api_ID Z_api_ID (frame_Hello.s_ID x) (frame_Hello.s_ID y) ((EQ_api_ID _ _).up (by decide)) (.nil))))
  have e : decide (x = y) = (decide (x.Mine = y.Mine) && (decide (x.Seen = y.Seen) && (decide (x.ID = y.ID) && true))) := by rw [Bool.eq_iff_iff]; cases x; cases y; simp
  rw [e]; exact h
theorem G_frame_Ack : PG.eqGuardType PG.depth 129 = false := by kernel_rfl
theorem V_frame_Ack : fieldsB PG 129 = some [(0, 69), (2, 69), (4, 2)] := by kernel_rfl
theorem EQ_frame_Ack (x y : frame_Ack) : EqV PG 3 129 (.agg x.enc) (.agg y.enc) (decide (x = y)) := by
  have h : EqV PG 3 129 (.agg x.enc) (.agg y.enc) _ := .str V_frame_Ack (.agg A_api_Num Z_api_Num (frame_Ack.s_From x) (frame_Ack.s_From y) ((EQ_api_Num _ _).up (by decide)) (.agg A_api_Num Z_api_Num (frame_Ack.s_To x) (frame_Ack.s_To y) ((EQ_api_Num _ _).up (by decide)) (.one A_int64 (frame_Ack.g_N x) (frame_Ack.g_N y) ((EqV.int I_int64 _ _).up (by decide)) (.nil))))
  have e : decide (x = y) = (decide (x.From = y.From) && (decide (x.To = y.To) && (decide (x.N = y.N) && true))) := by rw [Bool.eq_iff_iff]; cases x; cases y; simp
  rw [e]; exact h
theorem G_frame_Part : PG.eqGuardType PG.depth 133 = false := by kernel_rfl
theorem V_frame_Part : fieldsB PG 133 = some [(0, 31), (17, 4)] := by kernel_rfl
theorem EQ_frame_Part (x y : frame_Part) : EqV PG 4 133 (.agg x.enc) (.agg y.enc) (decide (x = y)) := by
  have h : EqV PG 4 133 (.agg x.enc) (.agg y.enc) _ := .str V_frame_Part (.agg A_api_Path Z_api_Path (frame_Part.s_P x) (frame_Part.s_P y) ((EQ_api_Path _ _).up (by decide)) (.one A_bool (frame_Part.g_ToA x) (frame_Part.g_ToA y) ((EqV.bool Q_bool _ _).up (by decide)) (.nil)))
  have e : decide (x = y) = (decide (x.P = y.P) && (decide (x.ToA = y.ToA) && true)) := by rw [Bool.eq_iff_iff]; cases x; cases y; simp
  rw [e]; exact h
theorem G_frame_Advert : PG.eqGuardType PG.depth 139 = false := by kernel_rfl
theorem V_frame_Advert : fieldsB PG 139 = some [(0, 24), (16, 2)] := by kernel_rfl
theorem EQ_frame_Advert (x y : frame_Advert) : EqV PG 3 139 (.agg x.enc) (.agg y.enc) (decide (x = y)) := by
  have h : EqV PG 3 139 (.agg x.enc) (.agg y.enc) _ := .str V_frame_Advert (.agg A_api_ID Z_api_ID (frame_Advert.s_ID x) (frame_Advert.s_ID y) ((EQ_api_ID _ _).up (by decide)) (.one A_int64 (frame_Advert.g_Far x) (frame_Advert.g_Far y) ((EqV.int I_int64 _ _).up (by decide)) (.nil)))
  have e : decide (x = y) = (decide (x.ID = y.ID) && (decide (x.Far = y.Far) && true)) := by rw [Bool.eq_iff_iff]; cases x; cases y; simp
  rw [e]; exact h
theorem G_frame_Got : PG.eqGuardType PG.depth 146 = false := by kernel_rfl
theorem V_frame_Got : fieldsB PG 146 = some [(0, 31), (17, 4), (18, 24), (34, 72)] := by kernel_rfl
theorem EQ_frame_Got (x y : frame_Got) : EqV PG 4 146 (.agg x.enc) (.agg y.enc) (decide (x = y)) := by
  have h : EqV PG 4 146 (.agg x.enc) (.agg y.enc) _ := .str V_frame_Got (.agg A_api_Path Z_api_Path (frame_Got.s_P x) (frame_Got.s_P y) ((EQ_api_Path _ _).up (by decide)) (.one A_bool (frame_Got.g_ToA x) (frame_Got.g_ToA y) ((EqV.bool Q_bool _ _).up (by decide)) (.agg A_api_ID Z_api_ID (frame_Got.s_Key x) (frame_Got.s_Key y) ((EQ_api_ID _ _).up (by decide)) (.agg A_api_Ver Z_api_Ver (frame_Got.s_Ver x) (frame_Got.s_Ver y) ((EQ_api_Ver _ _).up (by decide)) (.nil)))))
  have e : decide (x = y) = (decide (x.P = y.P) && (decide (x.ToA = y.ToA) && (decide (x.Key = y.Key) && (decide (x.Ver = y.Ver) && true)))) := by rw [Bool.eq_iff_iff]; cases x; cases y; simp
  rw [e]; exact h
theorem KO_api_Path : KeyOk PG 31 (fun x : api_Path => Value.agg x.enc) where
  ck := ⟨3, by decide, fun x => (CkV.str (k := 2) V_api_Path (.agg A_api_ID Z_api_ID (api_Path.s_Who _) (CkV.up (CkV.idn R_api_ID I_uint8 A_uint8 Z_uint8 _) (by decide)) (.one A_int64 (api_Path.g_N _) ((CkV.int I_int64 _).up (by decide)) (.nil))))⟩
  eq := ⟨3, by decide, fun x y => EQ_api_Path x y⟩
  now := fun dd hd x v => by
    have h := Option.some.inj (hd.symm.trans Go.Proofs.Tryz.underlying31)
    subst h
    rfl
  bits := fun x => sameBits_agg x.pl
abbrev f_annuletlaw15_TearAsks : Nat := 3
theorem E_annuletlaw15_TearAsks : enterB PG 3 = true := by kernel_rfl
noncomputable abbrev D_annuletlaw15_TearAsks : Func := Go.Proofs.Tryz.f3
theorem B_annuletlaw15_TearAsks : PG.funcs[3]? = some D_annuletlaw15_TearAsks := Go.Proofs.Tryz.func3
abbrev f_annuletlaw15_TearTidy : Nat := 4
theorem E_annuletlaw15_TearTidy : enterB PG 4 = true := by kernel_rfl
noncomputable abbrev D_annuletlaw15_TearTidy : Func := Go.Proofs.Tryz.f4
theorem B_annuletlaw15_TearTidy : PG.funcs[4]? = some D_annuletlaw15_TearTidy := Go.Proofs.Tryz.func4
abbrev f_annuletlaw15_laid : Nat := 5
theorem E_annuletlaw15_laid : enterB PG 5 = true := by kernel_rfl
noncomputable abbrev D_annuletlaw15_laid : Func := Go.Proofs.Tryz.f5
theorem B_annuletlaw15_laid : PG.funcs[5]? = some D_annuletlaw15_laid := Go.Proofs.Tryz.func5
abbrev f_tear_First : Nat := 6
theorem E_tear_First : enterB PG 6 = true := by kernel_rfl
noncomputable abbrev D_tear_First : Func := Go.Proofs.Tryz.f6
theorem B_tear_First : PG.funcs[6]? = some D_tear_First := Go.Proofs.Tryz.func6
abbrev f_annuletref15_First : Nat := 7
theorem E_annuletref15_First : enterB PG 7 = true := by kernel_rfl
noncomputable abbrev D_annuletref15_First : Func := Go.Proofs.Tryz.f7
theorem B_annuletref15_First : PG.funcs[7]? = some D_annuletref15_First := Go.Proofs.Tryz.func7
abbrev f_annuletlaw15_fixed : Nat := 8
theorem E_annuletlaw15_fixed : enterB PG 8 = true := by kernel_rfl
noncomputable abbrev D_annuletlaw15_fixed : Func := Go.Proofs.Tryz.f8
theorem B_annuletlaw15_fixed : PG.funcs[8]? = some D_annuletlaw15_fixed := Go.Proofs.Tryz.func8
abbrev f_annuletref01_SameIDs : Nat := 9
theorem E_annuletref01_SameIDs : enterB PG 9 = true := by kernel_rfl
noncomputable abbrev D_annuletref01_SameIDs : Func := Go.Proofs.Tryz.f9
theorem B_annuletref01_SameIDs : PG.funcs[9]? = some D_annuletref01_SameIDs := Go.Proofs.Tryz.func9
abbrev f_tear_Friends : Nat := 10
theorem E_tear_Friends : enterB PG 10 = true := by kernel_rfl
noncomputable abbrev D_tear_Friends : Func := Go.Proofs.Tryz.f10
theorem B_tear_Friends : PG.funcs[10]? = some D_tear_Friends := Go.Proofs.Tryz.func10
abbrev f_annuletref15_Friends : Nat := 11
theorem E_annuletref15_Friends : enterB PG 11 = true := by kernel_rfl
noncomputable abbrev D_annuletref15_Friends : Func := Go.Proofs.Tryz.f11
theorem B_annuletref15_Friends : PG.funcs[11]? = some D_annuletref15_Friends := Go.Proofs.Tryz.func11
abbrev f_annuletref15_SamePaths : Nat := 12
theorem E_annuletref15_SamePaths : enterB PG 12 = true := by kernel_rfl
noncomputable abbrev D_annuletref15_SamePaths : Func := Go.Proofs.Tryz.f12
theorem B_annuletref15_SamePaths : PG.funcs[12]? = some D_annuletref15_SamePaths := Go.Proofs.Tryz.func12
abbrev f_tear_Spare : Nat := 13
theorem E_tear_Spare : enterB PG 13 = true := by kernel_rfl
noncomputable abbrev D_tear_Spare : Func := Go.Proofs.Tryz.f13
theorem B_tear_Spare : PG.funcs[13]? = some D_tear_Spare := Go.Proofs.Tryz.func13
abbrev f_annuletref15_Spare : Nat := 14
theorem E_annuletref15_Spare : enterB PG 14 = true := by kernel_rfl
noncomputable abbrev D_annuletref15_Spare : Func := Go.Proofs.Tryz.f14
theorem B_annuletref15_Spare : PG.funcs[14]? = some D_annuletref15_Spare := Go.Proofs.Tryz.func14
abbrev f_tear_Twins : Nat := 15
theorem E_tear_Twins : enterB PG 15 = true := by kernel_rfl
noncomputable abbrev D_tear_Twins : Func := Go.Proofs.Tryz.f15
theorem B_tear_Twins : PG.funcs[15]? = some D_tear_Twins := Go.Proofs.Tryz.func15
abbrev f_annuletref15_Twins : Nat := 16
theorem E_annuletref15_Twins : enterB PG 16 = true := by kernel_rfl
noncomputable abbrev D_annuletref15_Twins : Func := Go.Proofs.Tryz.f16
theorem B_annuletref15_Twins : PG.funcs[16]? = some D_annuletref15_Twins := Go.Proofs.Tryz.func16
abbrev f_annuletref12_Same : Nat := 17
theorem E_annuletref12_Same : enterB PG 17 = true := by kernel_rfl
noncomputable abbrev D_annuletref12_Same : Func := Go.Proofs.Tryz.f17
theorem B_annuletref12_Same : PG.funcs[17]? = some D_annuletref12_Same := Go.Proofs.Tryz.func17
abbrev f_table_Table_All : Nat := 18
theorem E_table_Table_All : enterB PG 18 = true := by kernel_rfl
noncomputable abbrev D_table_Table_All : Func := Go.Proofs.Tryz.f18
theorem B_table_Table_All : PG.funcs[18]? = some D_table_Table_All := Go.Proofs.Tryz.func18
abbrev f_tear_End : Nat := 19
theorem E_tear_End : enterB PG 19 = true := by kernel_rfl
noncomputable abbrev D_tear_End : Func := Go.Proofs.Tryz.f19
theorem B_tear_End : PG.funcs[19]? = some D_tear_End := Go.Proofs.Tryz.func19
abbrev f_table_Table_Own : Nat := 20
theorem E_table_Table_Own : enterB PG 20 = true := by kernel_rfl
noncomputable abbrev D_table_Table_Own : Func := Go.Proofs.Tryz.f20
theorem B_table_Table_Own : PG.funcs[20]? = some D_table_Table_Own := Go.Proofs.Tryz.func20
abbrev f_table_Other : Nat := 21
theorem E_table_Other : enterB PG 21 = true := by kernel_rfl
noncomputable abbrev D_table_Other : Func := Go.Proofs.Tryz.f21
theorem B_table_Other : PG.funcs[21]? = some D_table_Other := Go.Proofs.Tryz.func21
abbrev f_annuletref10_Want : Nat := 22
theorem E_annuletref10_Want : enterB PG 22 = true := by kernel_rfl
noncomputable abbrev D_annuletref10_Want : Func := Go.Proofs.Tryz.f22
theorem B_annuletref10_Want : PG.funcs[22]? = some D_annuletref10_Want := Go.Proofs.Tryz.func22
abbrev f_table_New : Nat := 23
theorem E_table_New : enterB PG 23 = true := by kernel_rfl
noncomputable abbrev D_table_New : Func := Go.Proofs.Tryz.f23
theorem B_table_New : PG.funcs[23]? = some D_table_New := Go.Proofs.Tryz.func23
abbrev f_annuletref12_New : Nat := 24
theorem E_annuletref12_New : enterB PG 24 = true := by kernel_rfl
noncomputable abbrev D_annuletref12_New : Func := Go.Proofs.Tryz.f24
theorem B_annuletref12_New : PG.funcs[24]? = some D_annuletref12_New := Go.Proofs.Tryz.func24
abbrev f_table_Table_Add : Nat := 25
theorem E_table_Table_Add : enterB PG 25 = true := by kernel_rfl
noncomputable abbrev D_table_Table_Add : Func := Go.Proofs.Tryz.f25
theorem B_table_Table_Add : PG.funcs[25]? = some D_table_Table_Add := Go.Proofs.Tryz.func25
abbrev f_annuletref12_Table_Add : Nat := 26
theorem E_annuletref12_Table_Add : enterB PG 26 = true := by kernel_rfl
noncomputable abbrev D_annuletref12_Table_Add : Func := Go.Proofs.Tryz.f26
theorem B_annuletref12_Table_Add : PG.funcs[26]? = some D_annuletref12_Table_Add := Go.Proofs.Tryz.func26
abbrev f_ident_Compare : Nat := 27
theorem E_ident_Compare : enterB PG 27 = true := by kernel_rfl
noncomputable abbrev D_ident_Compare : Func := Go.Proofs.Tryz.f27
theorem B_ident_Compare : PG.funcs[27]? = some D_ident_Compare := Go.Proofs.Tryz.func27
abbrev f_annuletref12_Table_Own : Nat := 28
theorem E_annuletref12_Table_Own : enterB PG 28 = true := by kernel_rfl
noncomputable abbrev D_annuletref12_Table_Own : Func := Go.Proofs.Tryz.f28
theorem B_annuletref12_Table_Own : PG.funcs[28]? = some D_annuletref12_Table_Own := Go.Proofs.Tryz.func28
abbrev f_annuletref12_Other : Nat := 29
theorem E_annuletref12_Other : enterB PG 29 = true := by kernel_rfl
noncomputable abbrev D_annuletref12_Other : Func := Go.Proofs.Tryz.f29
theorem B_annuletref12_Other : PG.funcs[29]? = some D_annuletref12_Other := Go.Proofs.Tryz.func29
abbrev f_tear_Drop : Nat := 30
theorem E_tear_Drop : enterB PG 30 = true := by kernel_rfl
noncomputable abbrev D_tear_Drop : Func := Go.Proofs.Tryz.f30
theorem B_tear_Drop : PG.funcs[30]? = some D_tear_Drop := Go.Proofs.Tryz.func30
abbrev f_tear_Dead : Nat := 31
theorem E_tear_Dead : enterB PG 31 = true := by kernel_rfl
noncomputable abbrev D_tear_Dead : Func := Go.Proofs.Tryz.f31
theorem B_tear_Dead : PG.funcs[31]? = some D_tear_Dead := Go.Proofs.Tryz.func31
abbrev f_table_Table_Len : Nat := 32
theorem E_table_Table_Len : enterB PG 32 = true := by kernel_rfl
noncomputable abbrev D_table_Table_Len : Func := Go.Proofs.Tryz.f32
theorem B_table_Table_Len : PG.funcs[32]? = some D_table_Table_Len := Go.Proofs.Tryz.func32
abbrev f_ring_Sorted : Nat := 33
theorem E_ring_Sorted : enterB PG 33 = true := by kernel_rfl
noncomputable abbrev D_ring_Sorted : Func := Go.Proofs.Tryz.f33
theorem B_ring_Sorted : PG.funcs[33]? = some D_ring_Sorted := Go.Proofs.Tryz.func33
abbrev f_annuletref10_Sorted : Nat := 34
theorem E_annuletref10_Sorted : enterB PG 34 = true := by kernel_rfl
noncomputable abbrev D_annuletref10_Sorted : Func := Go.Proofs.Tryz.f34
theorem B_annuletref10_Sorted : PG.funcs[34]? = some D_annuletref10_Sorted := Go.Proofs.Tryz.func34
abbrev f_ring_Want : Nat := 35
theorem E_ring_Want : enterB PG 35 = true := by kernel_rfl
noncomputable abbrev D_ring_Want : Func := Go.Proofs.Tryz.f35
theorem B_ring_Want : PG.funcs[35]? = some D_ring_Want := Go.Proofs.Tryz.func35
abbrev f_ring_Has : Nat := 36
theorem E_ring_Has : enterB PG 36 = true := by kernel_rfl
noncomputable abbrev D_ring_Has : Func := Go.Proofs.Tryz.f36
theorem B_ring_Has : PG.funcs[36]? = some D_ring_Has := Go.Proofs.Tryz.func36
abbrev f_annuletref10_Has : Nat := 37
theorem E_annuletref10_Has : enterB PG 37 = true := by kernel_rfl
noncomputable abbrev D_annuletref10_Has : Func := Go.Proofs.Tryz.f37
theorem B_annuletref10_Has : PG.funcs[37]? = some D_annuletref10_Has := Go.Proofs.Tryz.func37
abbrev f_table_Table_of : Nat := 38
theorem E_table_Table_of : enterB PG 38 = true := by kernel_rfl
noncomputable abbrev D_table_Table_of : Func := Go.Proofs.Tryz.f38
theorem B_table_Table_of : PG.funcs[38]? = some D_table_Table_of := Go.Proofs.Tryz.func38
abbrev f_table_Table_All_f1 : Nat := 39
theorem E_table_Table_All_f1 : enterB PG 39 = true := by kernel_rfl
noncomputable abbrev D_table_Table_All_f1 : Func := Go.Proofs.Tryz.f39
theorem B_table_Table_All_f1 : PG.funcs[39]? = some D_table_Table_All_f1 := Go.Proofs.Tryz.func39
abbrev f_table_Table_Get : Nat := 40
theorem E_table_Table_Get : enterB PG 40 = true := by kernel_rfl
noncomputable abbrev D_table_Table_Get : Func := Go.Proofs.Tryz.f40
theorem B_table_Table_Get : PG.funcs[40]? = some D_table_Table_Get := Go.Proofs.Tryz.func40
abbrev f_table_Table_Remove : Nat := 41
theorem E_table_Table_Remove : enterB PG 41 = true := by kernel_rfl
noncomputable abbrev D_table_Table_Remove : Func := Go.Proofs.Tryz.f41
theorem B_table_Table_Remove : PG.funcs[41]? = some D_table_Table_Remove := Go.Proofs.Tryz.func41
abbrev f_tear_Torn_hop : Nat := 42
theorem E_tear_Torn_hop : enterB PG 42 = true := by kernel_rfl
noncomputable abbrev D_tear_Torn_hop : Func := Go.Proofs.Tryz.f42
theorem B_tear_Torn_hop : PG.funcs[42]? = some D_tear_Torn_hop := Go.Proofs.Tryz.func42
abbrev f_table_Table_Own_f1 : Nat := 43
theorem E_table_Table_Own_f1 : enterB PG 43 = true := by kernel_rfl
noncomputable abbrev D_table_Table_Own_f1 : Func := Go.Proofs.Tryz.f43
theorem B_table_Table_Own_f1 : PG.funcs[43]? = some D_table_Table_Own_f1 := Go.Proofs.Tryz.func43
abbrev f_annuletref01_Less : Nat := 44
theorem E_annuletref01_Less : enterB PG 44 = true := by kernel_rfl
noncomputable abbrev D_annuletref01_Less : Func := Go.Proofs.Tryz.f44
theorem B_annuletref01_Less : PG.funcs[44]? = some D_annuletref01_Less := Go.Proofs.Tryz.func44
abbrev f_annuletref01_Sub : Nat := 45
theorem E_annuletref01_Sub : enterB PG 45 = true := by kernel_rfl
noncomputable abbrev D_annuletref01_Sub : Func := Go.Proofs.Tryz.f45
theorem B_annuletref01_Sub : PG.funcs[45]? = some D_annuletref01_Sub := Go.Proofs.Tryz.func45
abbrev f_table_Right : Nat := 46
theorem E_table_Right : enterB PG 46 = true := by kernel_rfl
noncomputable abbrev D_table_Right : Func := Go.Proofs.Tryz.f46
theorem B_table_Right : PG.funcs[46]? = some D_table_Right := Go.Proofs.Tryz.func46
abbrev f_table_Table_has : Nat := 47
theorem E_table_Table_has : enterB PG 47 = true := by kernel_rfl
noncomputable abbrev D_table_Table_has : Func := Go.Proofs.Tryz.f47
theorem B_table_Table_has : PG.funcs[47]? = some D_table_Table_has := Go.Proofs.Tryz.func47
abbrev f_annuletref12_Right : Nat := 48
theorem E_annuletref12_Right : enterB PG 48 = true := by kernel_rfl
noncomputable abbrev D_annuletref12_Right : Func := Go.Proofs.Tryz.f48
theorem B_annuletref12_Right : PG.funcs[48]? = some D_annuletref12_Right := Go.Proofs.Tryz.func48
abbrev f_annuletref12_Table_Get : Nat := 49
theorem E_annuletref12_Table_Get : enterB PG 49 = true := by kernel_rfl
noncomputable abbrev D_annuletref12_Table_Get : Func := Go.Proofs.Tryz.f49
theorem B_annuletref12_Table_Get : PG.funcs[49]? = some D_annuletref12_Table_Get := Go.Proofs.Tryz.func49
abbrev f_annuletref12_Less : Nat := 50
theorem E_annuletref12_Less : enterB PG 50 = true := by kernel_rfl
noncomputable abbrev D_annuletref12_Less : Func := Go.Proofs.Tryz.f50
theorem B_annuletref12_Less : PG.funcs[50]? = some D_annuletref12_Less := Go.Proofs.Tryz.func50
abbrev f_bytes_Compare : Nat := 51
theorem E_bytes_Compare : enterB PG 51 = true := by kernel_rfl
noncomputable abbrev D_bytes_Compare : Func := Go.Proofs.Tryz.f51
theorem B_bytes_Compare : PG.funcs[51]? = some D_bytes_Compare := Go.Proofs.Tryz.func51
abbrev f_table_Table_Via : Nat := 52
theorem E_table_Table_Via : enterB PG 52 = true := by kernel_rfl
noncomputable abbrev D_table_Table_Via : Func := Go.Proofs.Tryz.f52
theorem B_table_Table_Via : PG.funcs[52]? = some D_table_Table_Via := Go.Proofs.Tryz.func52
abbrev f_slices_DeleteFunc_api_ID_api_ID : Nat := 53
theorem E_slices_DeleteFunc_api_ID_api_ID : enterB PG 53 = true := by kernel_rfl
noncomputable abbrev D_slices_DeleteFunc_api_ID_api_ID : Func := Go.Proofs.Tryz.f53
theorem B_slices_DeleteFunc_api_ID_api_ID : PG.funcs[53]? = some D_slices_DeleteFunc_api_ID_api_ID := Go.Proofs.Tryz.func53
abbrev f_slices_Clone_api_ID_api_ID : Nat := 54
theorem E_slices_Clone_api_ID_api_ID : enterB PG 54 = true := by kernel_rfl
noncomputable abbrev D_slices_Clone_api_ID_api_ID : Func := Go.Proofs.Tryz.f54
theorem B_slices_Clone_api_ID_api_ID : PG.funcs[54]? = some D_slices_Clone_api_ID_api_ID := Go.Proofs.Tryz.func54
abbrev f_ring_Sorted_f1 : Nat := 55
theorem E_ring_Sorted_f1 : enterB PG 55 = true := by kernel_rfl
noncomputable abbrev D_ring_Sorted_f1 : Func := Go.Proofs.Tryz.f55
theorem B_ring_Sorted_f1 : PG.funcs[55]? = some D_ring_Sorted_f1 := Go.Proofs.Tryz.func55
abbrev f_slices_SortFunc_api_ID_api_ID : Nat := 56
theorem E_slices_SortFunc_api_ID_api_ID : enterB PG 56 = true := by kernel_rfl
noncomputable abbrev D_slices_SortFunc_api_ID_api_ID : Func := Go.Proofs.Tryz.f56
theorem B_slices_SortFunc_api_ID_api_ID : PG.funcs[56]? = some D_slices_SortFunc_api_ID_api_ID := Go.Proofs.Tryz.func56
abbrev f_slices_Compact_api_ID_api_ID : Nat := 57
theorem E_slices_Compact_api_ID_api_ID : enterB PG 57 = true := by kernel_rfl
noncomputable abbrev D_slices_Compact_api_ID_api_ID : Func := Go.Proofs.Tryz.f57
theorem B_slices_Compact_api_ID_api_ID : PG.funcs[57]? = some D_slices_Compact_api_ID_api_ID := Go.Proofs.Tryz.func57
abbrev f_ring_Want_f1 : Nat := 58
theorem E_ring_Want_f1 : enterB PG 58 = true := by kernel_rfl
noncomputable abbrev D_ring_Want_f1 : Func := Go.Proofs.Tryz.f58
theorem B_ring_Want_f1 : PG.funcs[58]? = some D_ring_Want_f1 := Go.Proofs.Tryz.func58
abbrev f_ident_Sub : Nat := 59
theorem E_ident_Sub : enterB PG 59 = true := by kernel_rfl
noncomputable abbrev D_ident_Sub : Func := Go.Proofs.Tryz.f59
theorem B_ident_Sub : PG.funcs[59]? = some D_ident_Sub := Go.Proofs.Tryz.func59
abbrev f_slices_Contains_api_ID_api_ID : Nat := 60
theorem E_slices_Contains_api_ID_api_ID : enterB PG 60 = true := by kernel_rfl
noncomputable abbrev D_slices_Contains_api_ID_api_ID : Func := Go.Proofs.Tryz.f60
theorem B_slices_Contains_api_ID_api_ID : PG.funcs[60]? = some D_slices_Contains_api_ID_api_ID := Go.Proofs.Tryz.func60
abbrev f_slices_SortedFunc_api_Path : Nat := 61
theorem E_slices_SortedFunc_api_Path : enterB PG 61 = true := by kernel_rfl
noncomputable abbrev D_slices_SortedFunc_api_Path : Func := Go.Proofs.Tryz.f61
theorem B_slices_SortedFunc_api_Path : PG.funcs[61]? = some D_slices_SortedFunc_api_Path := Go.Proofs.Tryz.func61
abbrev f_maps_Keys_map_api_Path_api_Entry_api_Path_api_Entry : Nat := 62
theorem E_maps_Keys_map_api_Path_api_Entry_api_Path_api_Entry : enterB PG 62 = true := by kernel_rfl
noncomputable abbrev D_maps_Keys_map_api_Path_api_Entry_api_Path_api_Entry : Func := Go.Proofs.Tryz.f62
theorem B_maps_Keys_map_api_Path_api_Entry_api_Path_api_Entry : PG.funcs[62]? = some D_maps_Keys_map_api_Path_api_Entry_api_Path_api_Entry := Go.Proofs.Tryz.func62
abbrev f_table_order : Nat := 63
theorem E_table_order : enterB PG 63 = true := by kernel_rfl
noncomputable abbrev D_table_order : Func := Go.Proofs.Tryz.f63
theorem B_table_order : PG.funcs[63]? = some D_table_order := Go.Proofs.Tryz.func63
abbrev f_frame_Plain : Nat := 64
theorem E_frame_Plain : enterB PG 64 = true := by kernel_rfl
noncomputable abbrev D_frame_Plain : Func := Go.Proofs.Tryz.f64
theorem B_frame_Plain : PG.funcs[64]? = some D_frame_Plain := Go.Proofs.Tryz.func64
abbrev f_annuletref01_Wide : Nat := 65
theorem E_annuletref01_Wide : enterB PG 65 = true := by kernel_rfl
noncomputable abbrev D_annuletref01_Wide : Func := Go.Proofs.Tryz.f65
theorem B_annuletref01_Wide : PG.funcs[65]? = some D_annuletref01_Wide := Go.Proofs.Tryz.func65
abbrev f_annuletref01_ID : Nat := 66
theorem E_annuletref01_ID : enterB PG 66 = true := by kernel_rfl
noncomputable abbrev D_annuletref01_ID : Func := Go.Proofs.Tryz.f66
theorem B_annuletref01_ID : PG.funcs[66]? = some D_annuletref01_ID := Go.Proofs.Tryz.func66
abbrev f_table_Right_f1 : Nat := 67
theorem E_table_Right_f1 : enterB PG 67 = true := by kernel_rfl
noncomputable abbrev D_table_Right_f1 : Func := Go.Proofs.Tryz.f67
theorem B_table_Right_f1 : PG.funcs[67]? = some D_table_Right_f1 := Go.Proofs.Tryz.func67
abbrev f_bytealg_Compare : Nat := 68
noncomputable abbrev D_bytealg_Compare : Func := Go.Proofs.Tryz.f68
theorem B_bytealg_Compare : PG.funcs[68]? = some D_bytealg_Compare := Go.Proofs.Tryz.func68
abbrev f_table_Table_Via_f1 : Nat := 69
theorem E_table_Table_Via_f1 : enterB PG 69 = true := by kernel_rfl
noncomputable abbrev D_table_Table_Via_f1 : Func := Go.Proofs.Tryz.f69
theorem B_table_Table_Via_f1 : PG.funcs[69]? = some D_table_Table_Via_f1 := Go.Proofs.Tryz.func69
abbrev f_slices_IndexFunc_api_ID_api_ID : Nat := 70
theorem E_slices_IndexFunc_api_ID_api_ID : enterB PG 70 = true := by kernel_rfl
noncomputable abbrev D_slices_IndexFunc_api_ID_api_ID : Func := Go.Proofs.Tryz.f70
theorem B_slices_IndexFunc_api_ID_api_ID : PG.funcs[70]? = some D_slices_IndexFunc_api_ID_api_ID := Go.Proofs.Tryz.func70
abbrev f_slices_pdqsortCmpFunc_api_ID : Nat := 71
theorem E_slices_pdqsortCmpFunc_api_ID : enterB PG 71 = true := by kernel_rfl
noncomputable abbrev D_slices_pdqsortCmpFunc_api_ID : Func := Go.Proofs.Tryz.f71
theorem B_slices_pdqsortCmpFunc_api_ID : PG.funcs[71]? = some D_slices_pdqsortCmpFunc_api_ID := Go.Proofs.Tryz.func71
abbrev f_bits_Len : Nat := 72
theorem E_bits_Len : enterB PG 72 = true := by kernel_rfl
noncomputable abbrev D_bits_Len : Func := Go.Proofs.Tryz.f72
theorem B_bits_Len : PG.funcs[72]? = some D_bits_Len := Go.Proofs.Tryz.func72
abbrev f_slices_Index_api_ID_api_ID : Nat := 73
theorem E_slices_Index_api_ID_api_ID : enterB PG 73 = true := by kernel_rfl
noncomputable abbrev D_slices_Index_api_ID_api_ID : Func := Go.Proofs.Tryz.f73
theorem B_slices_Index_api_ID_api_ID : PG.funcs[73]? = some D_slices_Index_api_ID_api_ID := Go.Proofs.Tryz.func73
abbrev f_slices_Collect_api_Path : Nat := 74
theorem E_slices_Collect_api_Path : enterB PG 74 = true := by kernel_rfl
noncomputable abbrev D_slices_Collect_api_Path : Func := Go.Proofs.Tryz.f74
theorem B_slices_Collect_api_Path : PG.funcs[74]? = some D_slices_Collect_api_Path := Go.Proofs.Tryz.func74
abbrev f_slices_SortFunc_api_Path_api_Path : Nat := 75
theorem E_slices_SortFunc_api_Path_api_Path : enterB PG 75 = true := by kernel_rfl
noncomputable abbrev D_slices_SortFunc_api_Path_api_Path : Func := Go.Proofs.Tryz.f75
theorem B_slices_SortFunc_api_Path_api_Path : PG.funcs[75]? = some D_slices_SortFunc_api_Path_api_Path := Go.Proofs.Tryz.func75
abbrev f_maps_Keys_map_api_Path_api_Entry_api_Path_api_Entry_f1 : Nat := 76
theorem E_maps_Keys_map_api_Path_api_Entry_api_Path_api_Entry_f1 : enterB PG 76 = true := by kernel_rfl
noncomputable abbrev D_maps_Keys_map_api_Path_api_Entry_api_Path_api_Entry_f1 : Func := Go.Proofs.Tryz.f76
theorem B_maps_Keys_map_api_Path_api_Entry_api_Path_api_Entry_f1 : PG.funcs[76]? = some D_maps_Keys_map_api_Path_api_Entry_api_Path_api_Entry_f1 := Go.Proofs.Tryz.func76
abbrev f_table_Less : Nat := 77
theorem E_table_Less : enterB PG 77 = true := by kernel_rfl
noncomputable abbrev D_table_Less : Func := Go.Proofs.Tryz.f77
theorem B_table_Less : PG.funcs[77]? = some D_table_Less := Go.Proofs.Tryz.func77
abbrev f_frame_item : Nat := 78
theorem E_frame_item : enterB PG 78 = true := by kernel_rfl
noncomputable abbrev D_frame_item : Func := Go.Proofs.Tryz.f78
theorem B_frame_item : PG.funcs[78]? = some D_frame_item := Go.Proofs.Tryz.func78
abbrev f_slices_insertionSortCmpFunc_api_ID : Nat := 79
theorem E_slices_insertionSortCmpFunc_api_ID : enterB PG 79 = true := by kernel_rfl
noncomputable abbrev D_slices_insertionSortCmpFunc_api_ID : Func := Go.Proofs.Tryz.f79
theorem B_slices_insertionSortCmpFunc_api_ID : PG.funcs[79]? = some D_slices_insertionSortCmpFunc_api_ID := Go.Proofs.Tryz.func79
abbrev f_slices_heapSortCmpFunc_api_ID : Nat := 80
theorem E_slices_heapSortCmpFunc_api_ID : enterB PG 80 = true := by kernel_rfl
noncomputable abbrev D_slices_heapSortCmpFunc_api_ID : Func := Go.Proofs.Tryz.f80
theorem B_slices_heapSortCmpFunc_api_ID : PG.funcs[80]? = some D_slices_heapSortCmpFunc_api_ID := Go.Proofs.Tryz.func80
abbrev f_slices_breakPatternsCmpFunc_api_ID : Nat := 81
theorem E_slices_breakPatternsCmpFunc_api_ID : enterB PG 81 = true := by kernel_rfl
noncomputable abbrev D_slices_breakPatternsCmpFunc_api_ID : Func := Go.Proofs.Tryz.f81
theorem B_slices_breakPatternsCmpFunc_api_ID : PG.funcs[81]? = some D_slices_breakPatternsCmpFunc_api_ID := Go.Proofs.Tryz.func81
abbrev f_slices_choosePivotCmpFunc_api_ID : Nat := 82
theorem E_slices_choosePivotCmpFunc_api_ID : enterB PG 82 = true := by kernel_rfl
noncomputable abbrev D_slices_choosePivotCmpFunc_api_ID : Func := Go.Proofs.Tryz.f82
theorem B_slices_choosePivotCmpFunc_api_ID : PG.funcs[82]? = some D_slices_choosePivotCmpFunc_api_ID := Go.Proofs.Tryz.func82
abbrev f_slices_reverseRangeCmpFunc_api_ID : Nat := 83
theorem E_slices_reverseRangeCmpFunc_api_ID : enterB PG 83 = true := by kernel_rfl
noncomputable abbrev D_slices_reverseRangeCmpFunc_api_ID : Func := Go.Proofs.Tryz.f83
theorem B_slices_reverseRangeCmpFunc_api_ID : PG.funcs[83]? = some D_slices_reverseRangeCmpFunc_api_ID := Go.Proofs.Tryz.func83
abbrev f_slices_partialInsertionSortCmpFunc_api_ID : Nat := 84
theorem E_slices_partialInsertionSortCmpFunc_api_ID : enterB PG 84 = true := by kernel_rfl
noncomputable abbrev D_slices_partialInsertionSortCmpFunc_api_ID : Func := Go.Proofs.Tryz.f84
theorem B_slices_partialInsertionSortCmpFunc_api_ID : PG.funcs[84]? = some D_slices_partialInsertionSortCmpFunc_api_ID := Go.Proofs.Tryz.func84
abbrev f_slices_partitionEqualCmpFunc_api_ID : Nat := 85
theorem E_slices_partitionEqualCmpFunc_api_ID : enterB PG 85 = true := by kernel_rfl
noncomputable abbrev D_slices_partitionEqualCmpFunc_api_ID : Func := Go.Proofs.Tryz.f85
theorem B_slices_partitionEqualCmpFunc_api_ID : PG.funcs[85]? = some D_slices_partitionEqualCmpFunc_api_ID := Go.Proofs.Tryz.func85
abbrev f_slices_partitionCmpFunc_api_ID : Nat := 86
theorem E_slices_partitionCmpFunc_api_ID : enterB PG 86 = true := by kernel_rfl
noncomputable abbrev D_slices_partitionCmpFunc_api_ID : Func := Go.Proofs.Tryz.f86
theorem B_slices_partitionCmpFunc_api_ID : PG.funcs[86]? = some D_slices_partitionCmpFunc_api_ID := Go.Proofs.Tryz.func86
abbrev f_bits_Len32 : Nat := 87
theorem E_bits_Len32 : enterB PG 87 = true := by kernel_rfl
noncomputable abbrev D_bits_Len32 : Func := Go.Proofs.Tryz.f87
theorem B_bits_Len32 : PG.funcs[87]? = some D_bits_Len32 := Go.Proofs.Tryz.func87
abbrev f_bits_Len64 : Nat := 88
theorem E_bits_Len64 : enterB PG 88 = true := by kernel_rfl
noncomputable abbrev D_bits_Len64 : Func := Go.Proofs.Tryz.f88
theorem B_bits_Len64 : PG.funcs[88]? = some D_bits_Len64 := Go.Proofs.Tryz.func88
abbrev f_slices_AppendSeq_api_Path_api_Path : Nat := 89
theorem E_slices_AppendSeq_api_Path_api_Path : enterB PG 89 = true := by kernel_rfl
noncomputable abbrev D_slices_AppendSeq_api_Path_api_Path : Func := Go.Proofs.Tryz.f89
theorem B_slices_AppendSeq_api_Path_api_Path : PG.funcs[89]? = some D_slices_AppendSeq_api_Path_api_Path := Go.Proofs.Tryz.func89
abbrev f_slices_pdqsortCmpFunc_api_Path : Nat := 90
theorem E_slices_pdqsortCmpFunc_api_Path : enterB PG 90 = true := by kernel_rfl
noncomputable abbrev D_slices_pdqsortCmpFunc_api_Path : Func := Go.Proofs.Tryz.f90
theorem B_slices_pdqsortCmpFunc_api_Path : PG.funcs[90]? = some D_slices_pdqsortCmpFunc_api_Path := Go.Proofs.Tryz.func90
abbrev f_slices_siftDownCmpFunc_api_ID : Nat := 91
theorem E_slices_siftDownCmpFunc_api_ID : enterB PG 91 = true := by kernel_rfl
noncomputable abbrev D_slices_siftDownCmpFunc_api_ID : Func := Go.Proofs.Tryz.f91
theorem B_slices_siftDownCmpFunc_api_ID : PG.funcs[91]? = some D_slices_siftDownCmpFunc_api_ID := Go.Proofs.Tryz.func91
abbrev f_slices_nextPowerOfTwo : Nat := 92
theorem E_slices_nextPowerOfTwo : enterB PG 92 = true := by kernel_rfl
noncomputable abbrev D_slices_nextPowerOfTwo : Func := Go.Proofs.Tryz.f92
theorem B_slices_nextPowerOfTwo : PG.funcs[92]? = some D_slices_nextPowerOfTwo := Go.Proofs.Tryz.func92
abbrev f_slices_xorshift_Next : Nat := 93
theorem E_slices_xorshift_Next : enterB PG 93 = true := by kernel_rfl
noncomputable abbrev D_slices_xorshift_Next : Func := Go.Proofs.Tryz.f93
theorem B_slices_xorshift_Next : PG.funcs[93]? = some D_slices_xorshift_Next := Go.Proofs.Tryz.func93
abbrev f_slices_medianAdjacentCmpFunc_api_ID : Nat := 94
theorem E_slices_medianAdjacentCmpFunc_api_ID : enterB PG 94 = true := by kernel_rfl
noncomputable abbrev D_slices_medianAdjacentCmpFunc_api_ID : Func := Go.Proofs.Tryz.f94
theorem B_slices_medianAdjacentCmpFunc_api_ID : PG.funcs[94]? = some D_slices_medianAdjacentCmpFunc_api_ID := Go.Proofs.Tryz.func94
abbrev f_slices_medianCmpFunc_api_ID : Nat := 95
theorem E_slices_medianCmpFunc_api_ID : enterB PG 95 = true := by kernel_rfl
noncomputable abbrev D_slices_medianCmpFunc_api_ID : Func := Go.Proofs.Tryz.f95
theorem B_slices_medianCmpFunc_api_ID : PG.funcs[95]? = some D_slices_medianCmpFunc_api_ID := Go.Proofs.Tryz.func95
abbrev f_slices_insertionSortCmpFunc_api_Path : Nat := 96
theorem E_slices_insertionSortCmpFunc_api_Path : enterB PG 96 = true := by kernel_rfl
noncomputable abbrev D_slices_insertionSortCmpFunc_api_Path : Func := Go.Proofs.Tryz.f96
theorem B_slices_insertionSortCmpFunc_api_Path : PG.funcs[96]? = some D_slices_insertionSortCmpFunc_api_Path := Go.Proofs.Tryz.func96
abbrev f_slices_heapSortCmpFunc_api_Path : Nat := 97
theorem E_slices_heapSortCmpFunc_api_Path : enterB PG 97 = true := by kernel_rfl
noncomputable abbrev D_slices_heapSortCmpFunc_api_Path : Func := Go.Proofs.Tryz.f97
theorem B_slices_heapSortCmpFunc_api_Path : PG.funcs[97]? = some D_slices_heapSortCmpFunc_api_Path := Go.Proofs.Tryz.func97
abbrev f_slices_breakPatternsCmpFunc_api_Path : Nat := 98
theorem E_slices_breakPatternsCmpFunc_api_Path : enterB PG 98 = true := by kernel_rfl
noncomputable abbrev D_slices_breakPatternsCmpFunc_api_Path : Func := Go.Proofs.Tryz.f98
theorem B_slices_breakPatternsCmpFunc_api_Path : PG.funcs[98]? = some D_slices_breakPatternsCmpFunc_api_Path := Go.Proofs.Tryz.func98
abbrev f_slices_choosePivotCmpFunc_api_Path : Nat := 99
theorem E_slices_choosePivotCmpFunc_api_Path : enterB PG 99 = true := by kernel_rfl
noncomputable abbrev D_slices_choosePivotCmpFunc_api_Path : Func := Go.Proofs.Tryz.f99
theorem B_slices_choosePivotCmpFunc_api_Path : PG.funcs[99]? = some D_slices_choosePivotCmpFunc_api_Path := Go.Proofs.Tryz.func99
abbrev f_slices_reverseRangeCmpFunc_api_Path : Nat := 100
theorem E_slices_reverseRangeCmpFunc_api_Path : enterB PG 100 = true := by kernel_rfl
noncomputable abbrev D_slices_reverseRangeCmpFunc_api_Path : Func := Go.Proofs.Tryz.f100
theorem B_slices_reverseRangeCmpFunc_api_Path : PG.funcs[100]? = some D_slices_reverseRangeCmpFunc_api_Path := Go.Proofs.Tryz.func100
abbrev f_slices_partialInsertionSortCmpFunc_api_Path : Nat := 101
theorem E_slices_partialInsertionSortCmpFunc_api_Path : enterB PG 101 = true := by kernel_rfl
noncomputable abbrev D_slices_partialInsertionSortCmpFunc_api_Path : Func := Go.Proofs.Tryz.f101
theorem B_slices_partialInsertionSortCmpFunc_api_Path : PG.funcs[101]? = some D_slices_partialInsertionSortCmpFunc_api_Path := Go.Proofs.Tryz.func101
abbrev f_slices_partitionEqualCmpFunc_api_Path : Nat := 102
theorem E_slices_partitionEqualCmpFunc_api_Path : enterB PG 102 = true := by kernel_rfl
noncomputable abbrev D_slices_partitionEqualCmpFunc_api_Path : Func := Go.Proofs.Tryz.f102
theorem B_slices_partitionEqualCmpFunc_api_Path : PG.funcs[102]? = some D_slices_partitionEqualCmpFunc_api_Path := Go.Proofs.Tryz.func102
abbrev f_slices_partitionCmpFunc_api_Path : Nat := 103
theorem E_slices_partitionCmpFunc_api_Path : enterB PG 103 = true := by kernel_rfl
noncomputable abbrev D_slices_partitionCmpFunc_api_Path : Func := Go.Proofs.Tryz.f103
theorem B_slices_partitionCmpFunc_api_Path : PG.funcs[103]? = some D_slices_partitionCmpFunc_api_Path := Go.Proofs.Tryz.func103
abbrev f_slices_order2CmpFunc_api_ID : Nat := 104
theorem E_slices_order2CmpFunc_api_ID : enterB PG 104 = true := by kernel_rfl
noncomputable abbrev D_slices_order2CmpFunc_api_ID : Func := Go.Proofs.Tryz.f104
theorem B_slices_order2CmpFunc_api_ID : PG.funcs[104]? = some D_slices_order2CmpFunc_api_ID := Go.Proofs.Tryz.func104
abbrev f_slices_siftDownCmpFunc_api_Path : Nat := 105
theorem E_slices_siftDownCmpFunc_api_Path : enterB PG 105 = true := by kernel_rfl
noncomputable abbrev D_slices_siftDownCmpFunc_api_Path : Func := Go.Proofs.Tryz.f105
theorem B_slices_siftDownCmpFunc_api_Path : PG.funcs[105]? = some D_slices_siftDownCmpFunc_api_Path := Go.Proofs.Tryz.func105
abbrev f_slices_medianAdjacentCmpFunc_api_Path : Nat := 106
theorem E_slices_medianAdjacentCmpFunc_api_Path : enterB PG 106 = true := by kernel_rfl
noncomputable abbrev D_slices_medianAdjacentCmpFunc_api_Path : Func := Go.Proofs.Tryz.f106
theorem B_slices_medianAdjacentCmpFunc_api_Path : PG.funcs[106]? = some D_slices_medianAdjacentCmpFunc_api_Path := Go.Proofs.Tryz.func106
abbrev f_slices_medianCmpFunc_api_Path : Nat := 107
theorem E_slices_medianCmpFunc_api_Path : enterB PG 107 = true := by kernel_rfl
noncomputable abbrev D_slices_medianCmpFunc_api_Path : Func := Go.Proofs.Tryz.f107
theorem B_slices_medianCmpFunc_api_Path : PG.funcs[107]? = some D_slices_medianCmpFunc_api_Path := Go.Proofs.Tryz.func107
abbrev f_slices_order2CmpFunc_api_Path : Nat := 108
theorem E_slices_order2CmpFunc_api_Path : enterB PG 108 = true := by kernel_rfl
noncomputable abbrev D_slices_order2CmpFunc_api_Path : Func := Go.Proofs.Tryz.f108
theorem B_slices_order2CmpFunc_api_Path : PG.funcs[108]? = some D_slices_order2CmpFunc_api_Path := Go.Proofs.Tryz.func108
end Go.Fx
