/- The types and functions of this translation by name, made by names.py; facts that the kernel reckons. -/
import Derived.Test.YtpkdekhmjjcljaaProg
import Derived.KernelRfl
import Derived.Test.YtpkdekhmjjcljaaFxS
import Derived.Test.YtpkdekhmjjcljaaFxM
namespace Go.Fx

noncomputable abbrev PG : Program := Go.Proofs.Try.prog
abbrev T_int64 : Nat := 2
theorem A_int64 : isAggB PG 2 = some false := by kernel_rfl
theorem Z_int64 : sizeB PG 2 = some 1 := by kernel_rfl
theorem Y_int64 : bytesB PG 2 = some 8 := by kernel_rfl
theorem I_int64 : intB PG 2 = some .i64 := by kernel_rfl
theorem N_int64 : zeroB PG 2 = some (.int .i64 0) := by kernel_rfl
theorem U_int64 : (PG.underlying 2).isSome = true := by kernel_rfl
abbrev T_int : Nat := 3
theorem A_int : isAggB PG 3 = some false := by kernel_rfl
theorem Z_int : sizeB PG 3 = some 1 := by kernel_rfl
theorem Y_int : bytesB PG 3 = some 8 := by kernel_rfl
theorem I_int : intB PG 3 = some .i64 := by kernel_rfl
theorem N_int : zeroB PG 3 = some (.int .i64 0) := by kernel_rfl
theorem U_int : (PG.underlying 3).isSome = true := by kernel_rfl
abbrev T_bool : Nat := 4
theorem A_bool : isAggB PG 4 = some false := by kernel_rfl
theorem Z_bool : sizeB PG 4 = some 1 := by kernel_rfl
theorem Y_bool : bytesB PG 4 = some 1 := by kernel_rfl
theorem Q_bool : boolB PG 4 = true := by kernel_rfl
theorem N_bool : zeroB PG 4 = some (.bool false) := by kernel_rfl
theorem U_bool : (PG.underlying 4).isSome = true := by kernel_rfl
abbrev T_uint8 : Nat := 5
theorem A_uint8 : isAggB PG 5 = some false := by kernel_rfl
theorem Z_uint8 : sizeB PG 5 = some 1 := by kernel_rfl
theorem Y_uint8 : bytesB PG 5 = some 1 := by kernel_rfl
theorem I_uint8 : intB PG 5 = some .u8 := by kernel_rfl
theorem N_uint8 : zeroB PG 5 = some (.int .u8 0) := by kernel_rfl
theorem U_uint8 : (PG.underlying 5).isSome = true := by kernel_rfl
abbrev T_st7 : Nat := 7
theorem A_st7 : isAggB PG 7 = some true := by kernel_rfl
theorem Z_st7 : sizeB PG 7 = some 4 := by kernel_rfl
theorem Y_st7 : bytesB PG 7 = some 24 := by kernel_rfl
theorem U_st7 : (PG.underlying 7).isSome = true := by kernel_rfl
abbrev T_string : Nat := 9
theorem A_string : isAggB PG 9 = some false := by kernel_rfl
theorem Z_string : sizeB PG 9 = some 1 := by kernel_rfl
theorem Y_string : bytesB PG 9 = some 16 := by kernel_rfl
theorem U_string : (PG.underlying 9).isSome = true := by kernel_rfl
abbrev T_uintptr : Nat := 12
theorem A_uintptr : isAggB PG 12 = some false := by kernel_rfl
theorem Z_uintptr : sizeB PG 12 = some 1 := by kernel_rfl
theorem Y_uintptr : bytesB PG 12 = some 8 := by kernel_rfl
theorem I_uintptr : intB PG 12 = some .u64 := by kernel_rfl
theorem N_uintptr : zeroB PG 12 = some (.int .u64 0) := by kernel_rfl
theorem U_uintptr : (PG.underlying 12).isSome = true := by kernel_rfl
abbrev T_st13 : Nat := 13
theorem A_st13 : isAggB PG 13 = some true := by kernel_rfl
theorem Z_st13 : sizeB PG 13 = some 2 := by kernel_rfl
theorem Y_st13 : bytesB PG 13 = some 24 := by kernel_rfl
theorem U_st13 : (PG.underlying 13).isSome = true := by kernel_rfl
abbrev T_st18 : Nat := 18
theorem A_st18 : isAggB PG 18 = some true := by kernel_rfl
theorem Z_st18 : sizeB PG 18 = some 1 := by kernel_rfl
theorem Y_st18 : bytesB PG 18 = some 8 := by kernel_rfl
theorem U_st18 : (PG.underlying 18).isSome = true := by kernel_rfl
abbrev T_int32 : Nat := 21
theorem A_int32 : isAggB PG 21 = some false := by kernel_rfl
theorem Z_int32 : sizeB PG 21 = some 1 := by kernel_rfl
theorem Y_int32 : bytesB PG 21 = some 4 := by kernel_rfl
theorem I_int32 : intB PG 21 = some .i32 := by kernel_rfl
theorem N_int32 : zeroB PG 21 = some (.int .i32 0) := by kernel_rfl
theorem U_int32 : (PG.underlying 21).isSome = true := by kernel_rfl
abbrev T_sl_int : Nat := 22
theorem A_sl_int : isAggB PG 22 = some false := by kernel_rfl
theorem Z_sl_int : sizeB PG 22 = some 1 := by kernel_rfl
theorem Y_sl_int : bytesB PG 22 = some 24 := by kernel_rfl
theorem L_sl_int : elemB PG 22 = some 3 := by kernel_rfl
theorem N_sl_int : zeroB PG 22 = some (.slice none 0 0) := by kernel_rfl
theorem U_sl_int : (PG.underlying 22).isSome = true := by kernel_rfl
abbrev T_ar16_uint8 : Nat := 23
theorem A_ar16_uint8 : isAggB PG 23 = some true := by kernel_rfl
theorem Z_ar16_uint8 : sizeB PG 23 = some 16 := by kernel_rfl
theorem Y_ar16_uint8 : bytesB PG 23 = some 16 := by kernel_rfl
theorem R_ar16_uint8 : arrB PG 23 = some (16, 5) := by kernel_rfl
theorem N_ar16_uint8 : zeroB PG 23 = some (.agg Idn.zero.enc) := by kernel_rfl
theorem U_ar16_uint8 : (PG.underlying 23).isSome = true := by kernel_rfl
abbrev T_api_ID : Nat := 24
theorem A_api_ID : isAggB PG 24 = some true := by kernel_rfl
theorem Z_api_ID : sizeB PG 24 = some 16 := by kernel_rfl
theorem Y_api_ID : bytesB PG 24 = some 16 := by kernel_rfl
theorem R_api_ID : arrB PG 24 = some (16, 5) := by kernel_rfl
theorem N_api_ID : zeroB PG 24 = some (.agg Idn.zero.enc) := by kernel_rfl
theorem U_api_ID : (PG.underlying 24).isSome = true := by kernel_rfl
abbrev T_st25 : Nat := 25
theorem A_st25 : isAggB PG 25 = some true := by kernel_rfl
theorem Z_st25 : sizeB PG 25 = some 17 := by kernel_rfl
theorem Y_st25 : bytesB PG 25 = some 24 := by kernel_rfl
theorem U_st25 : (PG.underlying 25).isSome = true := by kernel_rfl
abbrev T_api_Path : Nat := 26
theorem A_api_Path : isAggB PG 26 = some true := by kernel_rfl
theorem Z_api_Path : sizeB PG 26 = some 17 := by kernel_rfl
theorem Y_api_Path : bytesB PG 26 = some 24 := by kernel_rfl
theorem F_api_Path_Who : fieldB PG 26 0 = some (0, 24) := by kernel_rfl
theorem F_api_Path_N : fieldB PG 26 1 = some (16, 2) := by kernel_rfl
theorem W_api_Path (w : World) : placesR PG 26 w = .ok #[(0, 16), (16, 1)] w := by kernel_rfl
theorem N_api_Path : zeroB PG 26 = some (.agg api_Path.zero.enc) := by kernel_rfl
theorem U_api_Path : (PG.underlying 26).isSome = true := by kernel_rfl
abbrev T_sl_pt_table_Table : Nat := 27
theorem A_sl_pt_table_Table : isAggB PG 27 = some false := by kernel_rfl
theorem Z_sl_pt_table_Table : sizeB PG 27 = some 1 := by kernel_rfl
theorem Y_sl_pt_table_Table : bytesB PG 27 = some 24 := by kernel_rfl
theorem L_sl_pt_table_Table : elemB PG 27 = some 37 := by kernel_rfl
theorem N_sl_pt_table_Table : zeroB PG 27 = some (.slice none 0 0) := by kernel_rfl
theorem U_sl_pt_table_Table : (PG.underlying 27).isSome = true := by kernel_rfl
abbrev T_uint : Nat := 31
theorem A_uint : isAggB PG 31 = some false := by kernel_rfl
theorem Z_uint : sizeB PG 31 = some 1 := by kernel_rfl
theorem Y_uint : bytesB PG 31 = some 8 := by kernel_rfl
theorem I_uint : intB PG 31 = some .u64 := by kernel_rfl
theorem N_uint : zeroB PG 31 = some (.int .u64 0) := by kernel_rfl
theorem U_uint : (PG.underlying 31).isSome = true := by kernel_rfl
abbrev T_sl_api_Hop : Nat := 32
theorem A_sl_api_Hop : isAggB PG 32 = some false := by kernel_rfl
theorem Z_sl_api_Hop : sizeB PG 32 = some 1 := by kernel_rfl
theorem Y_sl_api_Hop : bytesB PG 32 = some 24 := by kernel_rfl
theorem L_sl_api_Hop : elemB PG 32 = some 53 := by kernel_rfl
theorem N_sl_api_Hop : zeroB PG 32 = some (.slice none 0 0) := by kernel_rfl
theorem U_sl_api_Hop : (PG.underlying 32).isSome = true := by kernel_rfl
abbrev T_sl_api_Path : Nat := 33
theorem A_sl_api_Path : isAggB PG 33 = some false := by kernel_rfl
theorem Z_sl_api_Path : sizeB PG 33 = some 1 := by kernel_rfl
theorem Y_sl_api_Path : bytesB PG 33 = some 24 := by kernel_rfl
theorem L_sl_api_Path : elemB PG 33 = some 26 := by kernel_rfl
theorem N_sl_api_Path : zeroB PG 33 = some (.slice none 0 0) := by kernel_rfl
theorem U_sl_api_Path : (PG.underlying 33).isSome = true := by kernel_rfl
abbrev T_st34 : Nat := 34
theorem A_st34 : isAggB PG 34 = some true := by kernel_rfl
theorem Z_st34 : sizeB PG 34 = some 2 := by kernel_rfl
theorem Y_st34 : bytesB PG 34 = some 48 := by kernel_rfl
theorem U_st34 : (PG.underlying 34).isSome = true := by kernel_rfl
abbrev T_tear_Torn : Nat := 35
theorem A_tear_Torn : isAggB PG 35 = some true := by kernel_rfl
theorem Z_tear_Torn : sizeB PG 35 = some 2 := by kernel_rfl
theorem Y_tear_Torn : bytesB PG 35 = some 48 := by kernel_rfl
theorem F_tear_Torn_Out : fieldB PG 35 0 = some (0, 32) := by kernel_rfl
theorem F_tear_Torn_Lost : fieldB PG 35 1 = some (1, 33) := by kernel_rfl
theorem W_tear_Torn (w : World) : placesR PG 35 w = .ok #[(0, 1), (1, 1)] w := by kernel_rfl
theorem N_tear_Torn : zeroB PG 35 = some (.agg tear_Torn.zero.enc) := by kernel_rfl
theorem U_tear_Torn : (PG.underlying 35).isSome = true := by kernel_rfl
abbrev T_pt_table_Table : Nat := 37
theorem A_pt_table_Table : isAggB PG 37 = some false := by kernel_rfl
theorem Z_pt_table_Table : sizeB PG 37 = some 1 := by kernel_rfl
theorem Y_pt_table_Table : bytesB PG 37 = some 8 := by kernel_rfl
theorem P_pt_table_Table : ptrB PG 37 = true := by kernel_rfl
theorem N_pt_table_Table : zeroB PG 37 = some (.pointer none) := by kernel_rfl
theorem U_pt_table_Table : (PG.underlying 37).isSome = true := by kernel_rfl
abbrev T_st38 : Nat := 38
theorem A_st38 : isAggB PG 38 = some true := by kernel_rfl
theorem Z_st38 : sizeB PG 38 = some 51 := by kernel_rfl
theorem Y_st38 : bytesB PG 38 = some 72 := by kernel_rfl
theorem U_st38 : (PG.underlying 38).isSome = true := by kernel_rfl
abbrev T_api_Entry : Nat := 39
theorem A_api_Entry : isAggB PG 39 = some true := by kernel_rfl
theorem Z_api_Entry : sizeB PG 39 = some 51 := by kernel_rfl
theorem Y_api_Entry : bytesB PG 39 = some 72 := by kernel_rfl
theorem F_api_Entry_P : fieldB PG 39 0 = some (0, 26) := by kernel_rfl
theorem F_api_Entry_A : fieldB PG 39 1 = some (17, 24) := by kernel_rfl
theorem F_api_Entry_B : fieldB PG 39 2 = some (33, 24) := by kernel_rfl
theorem F_api_Entry_Na : fieldB PG 39 3 = some (49, 3) := by kernel_rfl
theorem F_api_Entry_Nb : fieldB PG 39 4 = some (50, 3) := by kernel_rfl
theorem W_api_Entry (w : World) : placesR PG 39 w = .ok #[(0, 17), (17, 16), (33, 16), (49, 1), (50, 1)] w := by kernel_rfl
theorem N_api_Entry : zeroB PG 39 = some (.agg api_Entry.zero.enc) := by kernel_rfl
theorem U_api_Entry : (PG.underlying 39).isSome = true := by kernel_rfl
abbrev T_st42 : Nat := 42
theorem A_st42 : isAggB PG 42 = some true := by kernel_rfl
theorem Z_st42 : sizeB PG 42 = some 2 := by kernel_rfl
theorem Y_st42 : bytesB PG 42 = some 16 := by kernel_rfl
theorem U_st42 : (PG.underlying 42).isSome = true := by kernel_rfl
abbrev T_api_Num : Nat := 43
theorem A_api_Num : isAggB PG 43 = some true := by kernel_rfl
theorem Z_api_Num : sizeB PG 43 = some 2 := by kernel_rfl
theorem Y_api_Num : bytesB PG 43 = some 16 := by kernel_rfl
theorem F_api_Num_Inc : fieldB PG 43 0 = some (0, 2) := by kernel_rfl
theorem F_api_Num_N : fieldB PG 43 1 = some (1, 2) := by kernel_rfl
theorem W_api_Num (w : World) : placesR PG 43 w = .ok #[(0, 1), (1, 1)] w := by kernel_rfl
theorem N_api_Num : zeroB PG 43 = some (.agg api_Num.zero.enc) := by kernel_rfl
theorem U_api_Num : (PG.underlying 43).isSome = true := by kernel_rfl
abbrev T_sl_api_ID : Nat := 44
theorem A_sl_api_ID : isAggB PG 44 = some false := by kernel_rfl
theorem Z_sl_api_ID : sizeB PG 44 = some 1 := by kernel_rfl
theorem Y_sl_api_ID : bytesB PG 44 = some 24 := by kernel_rfl
theorem L_sl_api_ID : elemB PG 44 = some 24 := by kernel_rfl
theorem N_sl_api_ID : zeroB PG 44 = some (.slice none 0 0) := by kernel_rfl
theorem U_sl_api_ID : (PG.underlying 44).isSome = true := by kernel_rfl
abbrev T_st45 : Nat := 45
theorem A_st45 : isAggB PG 45 = some true := by kernel_rfl
theorem Z_st45 : sizeB PG 45 = some 17 := by kernel_rfl
theorem Y_st45 : bytesB PG 45 = some 24 := by kernel_rfl
theorem U_st45 : (PG.underlying 45).isSome = true := by kernel_rfl
abbrev T_api_Ver : Nat := 46
theorem A_api_Ver : isAggB PG 46 = some true := by kernel_rfl
theorem Z_api_Ver : sizeB PG 46 = some 17 := by kernel_rfl
theorem Y_api_Ver : bytesB PG 46 = some 24 := by kernel_rfl
theorem F_api_Ver_N : fieldB PG 46 0 = some (0, 2) := by kernel_rfl
theorem F_api_Ver_Who : fieldB PG 46 1 = some (1, 24) := by kernel_rfl
theorem W_api_Ver (w : World) : placesR PG 46 w = .ok #[(0, 1), (1, 16)] w := by kernel_rfl
theorem N_api_Ver : zeroB PG 46 = some (.agg api_Ver.zero.enc) := by kernel_rfl
theorem U_api_Ver : (PG.underlying 46).isSome = true := by kernel_rfl
abbrev T_sl_uint8 : Nat := 47
theorem A_sl_uint8 : isAggB PG 47 = some false := by kernel_rfl
theorem Z_sl_uint8 : sizeB PG 47 = some 1 := by kernel_rfl
theorem Y_sl_uint8 : bytesB PG 47 = some 24 := by kernel_rfl
theorem L_sl_uint8 : elemB PG 47 = some 5 := by kernel_rfl
theorem N_sl_uint8 : zeroB PG 47 = some (.slice none 0 0) := by kernel_rfl
theorem U_sl_uint8 : (PG.underlying 47).isSome = true := by kernel_rfl
abbrev T_st48 : Nat := 48
theorem A_st48 : isAggB PG 48 = some true := by kernel_rfl
theorem Z_st48 : sizeB PG 48 = some 34 := by kernel_rfl
theorem Y_st48 : bytesB PG 48 = some 64 := by kernel_rfl
theorem U_st48 : (PG.underlying 48).isSome = true := by kernel_rfl
abbrev T_api_Item : Nat := 49
theorem A_api_Item : isAggB PG 49 = some true := by kernel_rfl
theorem Z_api_Item : sizeB PG 49 = some 34 := by kernel_rfl
theorem Y_api_Item : bytesB PG 49 = some 64 := by kernel_rfl
theorem F_api_Item_Key : fieldB PG 49 0 = some (0, 24) := by kernel_rfl
theorem F_api_Item_Ver : fieldB PG 49 1 = some (16, 46) := by kernel_rfl
theorem F_api_Item_Value : fieldB PG 49 2 = some (33, 47) := by kernel_rfl
theorem W_api_Item (w : World) : placesR PG 49 w = .ok #[(0, 16), (16, 17), (33, 1)] w := by kernel_rfl
theorem N_api_Item : zeroB PG 49 = some (.agg api_Item.zero.enc) := by kernel_rfl
theorem U_api_Item : (PG.underlying 49).isSome = true := by kernel_rfl
abbrev T_st50 : Nat := 50
theorem A_st50 : isAggB PG 50 = some true := by kernel_rfl
theorem Z_st50 : sizeB PG 50 = some 95 := by kernel_rfl
theorem Y_st50 : bytesB PG 50 = some 264 := by kernel_rfl
theorem U_st50 : (PG.underlying 50).isSome = true := by kernel_rfl
abbrev T_api_Frame : Nat := 51
theorem A_api_Frame : isAggB PG 51 = some true := by kernel_rfl
theorem Z_api_Frame : sizeB PG 51 = some 95 := by kernel_rfl
theorem Y_api_Frame : bytesB PG 51 = some 264 := by kernel_rfl
theorem F_api_Frame_Kind : fieldB PG 51 0 = some (0, 3) := by kernel_rfl
theorem F_api_Frame_P : fieldB PG 51 1 = some (1, 26) := by kernel_rfl
theorem F_api_Frame_ToA : fieldB PG 51 2 = some (18, 4) := by kernel_rfl
theorem F_api_Frame_A : fieldB PG 51 3 = some (19, 24) := by kernel_rfl
theorem F_api_Frame_B : fieldB PG 51 4 = some (35, 24) := by kernel_rfl
theorem F_api_Frame_N : fieldB PG 51 5 = some (51, 2) := by kernel_rfl
theorem F_api_Frame_From : fieldB PG 51 6 = some (52, 43) := by kernel_rfl
theorem F_api_Frame_To : fieldB PG 51 7 = some (54, 43) := by kernel_rfl
theorem F_api_Frame_Trail : fieldB PG 51 8 = some (56, 22) := by kernel_rfl
theorem F_api_Frame_IDs : fieldB PG 51 9 = some (57, 44) := by kernel_rfl
theorem F_api_Frame_Item : fieldB PG 51 10 = some (58, 49) := by kernel_rfl
theorem F_api_Frame_Op : fieldB PG 51 11 = some (92, 3) := by kernel_rfl
theorem F_api_Frame_TTL : fieldB PG 51 12 = some (93, 3) := by kernel_rfl
theorem F_api_Frame_Text : fieldB PG 51 13 = some (94, 47) := by kernel_rfl
theorem W_api_Frame (w : World) : placesR PG 51 w = .ok #[(0, 1), (1, 17), (18, 1), (19, 16), (35, 16), (51, 1), (52, 2), (54, 2), (56, 1), (57, 1), (58, 34), (92, 1), (93, 1), (94, 1)] w := by kernel_rfl
theorem N_api_Frame : zeroB PG 51 = some (.agg api_Frame.zero.enc) := by kernel_rfl
theorem U_api_Frame : (PG.underlying 51).isSome = true := by kernel_rfl
abbrev T_st52 : Nat := 52
theorem A_st52 : isAggB PG 52 = some true := by kernel_rfl
theorem Z_st52 : sizeB PG 52 = some 96 := by kernel_rfl
theorem Y_st52 : bytesB PG 52 = some 272 := by kernel_rfl
theorem U_st52 : (PG.underlying 52).isSome = true := by kernel_rfl
abbrev T_api_Hop : Nat := 53
theorem A_api_Hop : isAggB PG 53 = some true := by kernel_rfl
theorem Z_api_Hop : sizeB PG 53 = some 96 := by kernel_rfl
theorem Y_api_Hop : bytesB PG 53 = some 272 := by kernel_rfl
theorem F_api_Hop_N : fieldB PG 53 0 = some (0, 3) := by kernel_rfl
theorem F_api_Hop_F : fieldB PG 53 1 = some (1, 51) := by kernel_rfl
theorem W_api_Hop (w : World) : placesR PG 53 w = .ok #[(0, 1), (1, 95)] w := by kernel_rfl
theorem N_api_Hop : zeroB PG 53 = some (.agg api_Hop.zero.enc) := by kernel_rfl
theorem U_api_Hop : (PG.underlying 53).isSome = true := by kernel_rfl
abbrev T_sl_api_Entry : Nat := 57
theorem A_sl_api_Entry : isAggB PG 57 = some false := by kernel_rfl
theorem Z_sl_api_Entry : sizeB PG 57 = some 1 := by kernel_rfl
theorem Y_sl_api_Entry : bytesB PG 57 = some 24 := by kernel_rfl
theorem L_sl_api_Entry : elemB PG 57 = some 39 := by kernel_rfl
theorem N_sl_api_Entry : zeroB PG 57 = some (.slice none 0 0) := by kernel_rfl
theorem U_sl_api_Entry : (PG.underlying 57).isSome = true := by kernel_rfl
abbrev T_pt_annuletref12_Table : Nat := 58
theorem A_pt_annuletref12_Table : isAggB PG 58 = some false := by kernel_rfl
theorem Z_pt_annuletref12_Table : sizeB PG 58 = some 1 := by kernel_rfl
theorem Y_pt_annuletref12_Table : bytesB PG 58 = some 8 := by kernel_rfl
theorem P_pt_annuletref12_Table : ptrB PG 58 = true := by kernel_rfl
theorem N_pt_annuletref12_Table : zeroB PG 58 = some (.pointer none) := by kernel_rfl
theorem U_pt_annuletref12_Table : (PG.underlying 58).isSome = true := by kernel_rfl
abbrev T_annuletref15_Torn : Nat := 62
theorem A_annuletref15_Torn : isAggB PG 62 = some true := by kernel_rfl
theorem Z_annuletref15_Torn : sizeB PG 62 = some 2 := by kernel_rfl
theorem Y_annuletref15_Torn : bytesB PG 62 = some 48 := by kernel_rfl
theorem F_annuletref15_Torn_Out : fieldB PG 62 0 = some (0, 32) := by kernel_rfl
theorem F_annuletref15_Torn_Lost : fieldB PG 62 1 = some (1, 33) := by kernel_rfl
theorem W_annuletref15_Torn (w : World) : placesR PG 62 w = .ok #[(0, 1), (1, 1)] w := by kernel_rfl
theorem N_annuletref15_Torn : zeroB PG 62 = some (.agg annuletref15_Torn.zero.enc) := by kernel_rfl
theorem U_annuletref15_Torn : (PG.underlying 62).isSome = true := by kernel_rfl
abbrev T_st66 : Nat := 66
theorem A_st66 : isAggB PG 66 = some true := by kernel_rfl
theorem Z_st66 : sizeB PG 66 = some 2 := by kernel_rfl
theorem Y_st66 : bytesB PG 66 = some 32 := by kernel_rfl
theorem U_st66 : (PG.underlying 66).isSome = true := by kernel_rfl
abbrev T_annuletref12_Table : Nat := 67
theorem A_annuletref12_Table : isAggB PG 67 = some true := by kernel_rfl
theorem Z_annuletref12_Table : sizeB PG 67 = some 2 := by kernel_rfl
theorem Y_annuletref12_Table : bytesB PG 67 = some 32 := by kernel_rfl
theorem F_annuletref12_Table_L : fieldB PG 67 0 = some (0, 57) := by kernel_rfl
theorem F_annuletref12_Table_Most : fieldB PG 67 1 = some (1, 3) := by kernel_rfl
theorem W_annuletref12_Table (w : World) : placesR PG 67 w = .ok #[(0, 1), (1, 1)] w := by kernel_rfl
theorem N_annuletref12_Table : zeroB PG 67 = some (.agg annuletref12_Table.zero.enc) := by kernel_rfl
theorem U_annuletref12_Table : (PG.underlying 67).isSome = true := by kernel_rfl
abbrev T_api_Errno : Nat := 76
theorem A_api_Errno : isAggB PG 76 = some false := by kernel_rfl
theorem Z_api_Errno : sizeB PG 76 = some 1 := by kernel_rfl
theorem Y_api_Errno : bytesB PG 76 = some 8 := by kernel_rfl
theorem I_api_Errno : intB PG 76 = some .i64 := by kernel_rfl
theorem N_api_Errno : zeroB PG 76 = some (.int .i64 0) := by kernel_rfl
theorem U_api_Errno : (PG.underlying 76).isSome = true := by kernel_rfl
abbrev T_map_api_Path_api_Entry : Nat := 79
theorem A_map_api_Path_api_Entry : isAggB PG 79 = some false := by kernel_rfl
theorem Z_map_api_Path_api_Entry : sizeB PG 79 = some 1 := by kernel_rfl
theorem Y_map_api_Path_api_Entry : bytesB PG 79 = some 8 := by kernel_rfl
theorem M_map_api_Path_api_Entry : mapB PG 79 = some (26, 39) := by kernel_rfl
theorem N_map_api_Path_api_Entry : zeroB PG 79 = some (.map none) := by kernel_rfl
theorem U_map_api_Path_api_Entry : (PG.underlying 79).isSome = true := by kernel_rfl
abbrev T_st80 : Nat := 80
theorem A_st80 : isAggB PG 80 = some true := by kernel_rfl
theorem Z_st80 : sizeB PG 80 = some 2 := by kernel_rfl
theorem Y_st80 : bytesB PG 80 = some 16 := by kernel_rfl
theorem U_st80 : (PG.underlying 80).isSome = true := by kernel_rfl
abbrev T_table_Table : Nat := 81
theorem A_table_Table : isAggB PG 81 = some true := by kernel_rfl
theorem Z_table_Table : sizeB PG 81 = some 2 := by kernel_rfl
theorem Y_table_Table : bytesB PG 81 = some 16 := by kernel_rfl
theorem F_table_Table_most : fieldB PG 81 0 = some (0, 3) := by kernel_rfl
theorem F_table_Table_m : fieldB PG 81 1 = some (1, 79) := by kernel_rfl
theorem W_table_Table (w : World) : placesR PG 81 w = .ok #[(0, 1), (1, 1)] w := by kernel_rfl
theorem N_table_Table : zeroB PG 81 = some (.agg table_Table.zero.enc) := by kernel_rfl
theorem U_table_Table : (PG.underlying 81).isSome = true := by kernel_rfl
abbrev T_pt_tear_Torn : Nat := 88
theorem A_pt_tear_Torn : isAggB PG 88 = some false := by kernel_rfl
theorem Z_pt_tear_Torn : sizeB PG 88 = some 1 := by kernel_rfl
theorem Y_pt_tear_Torn : bytesB PG 88 = some 8 := by kernel_rfl
theorem P_pt_tear_Torn : ptrB PG 88 = true := by kernel_rfl
theorem N_pt_tear_Torn : zeroB PG 88 = some (.pointer none) := by kernel_rfl
theorem U_pt_tear_Torn : (PG.underlying 88).isSome = true := by kernel_rfl
abbrev T_st90 : Nat := 90
theorem A_st90 : isAggB PG 90 = some true := by kernel_rfl
theorem Z_st90 : sizeB PG 90 = some 17 := by kernel_rfl
theorem Y_st90 : bytesB PG 90 = some 24 := by kernel_rfl
theorem U_st90 : (PG.underlying 90).isSome = true := by kernel_rfl
abbrev T_frame_Drop : Nat := 91
theorem A_frame_Drop : isAggB PG 91 = some true := by kernel_rfl
theorem Z_frame_Drop : sizeB PG 91 = some 17 := by kernel_rfl
theorem Y_frame_Drop : bytesB PG 91 = some 24 := by kernel_rfl
theorem F_frame_Drop_P : fieldB PG 91 0 = some (0, 26) := by kernel_rfl
theorem W_frame_Drop (w : World) : placesR PG 91 w = .ok #[(0, 17)] w := by kernel_rfl
theorem N_frame_Drop : zeroB PG 91 = some (.agg frame_Drop.zero.enc) := by kernel_rfl
theorem U_frame_Drop : (PG.underlying 91).isSome = true := by kernel_rfl
abbrev T_pt_annuletref15_Torn : Nat := 94
theorem A_pt_annuletref15_Torn : isAggB PG 94 = some false := by kernel_rfl
theorem Z_pt_annuletref15_Torn : sizeB PG 94 = some 1 := by kernel_rfl
theorem Y_pt_annuletref15_Torn : bytesB PG 94 = some 8 := by kernel_rfl
theorem P_pt_annuletref15_Torn : ptrB PG 94 = true := by kernel_rfl
theorem N_pt_annuletref15_Torn : zeroB PG 94 = some (.pointer none) := by kernel_rfl
theorem U_pt_annuletref15_Torn : (PG.underlying 94).isSome = true := by kernel_rfl
abbrev T_iter_Seq_api_Path : Nat := 97
theorem A_iter_Seq_api_Path : isAggB PG 97 = some false := by kernel_rfl
theorem Z_iter_Seq_api_Path : sizeB PG 97 = some 1 := by kernel_rfl
theorem Y_iter_Seq_api_Path : bytesB PG 97 = some 8 := by kernel_rfl
theorem U_iter_Seq_api_Path : (PG.underlying 97).isSome = true := by kernel_rfl
abbrev T_frame_Body : Nat := 102
theorem A_frame_Body : isAggB PG 102 = some false := by kernel_rfl
theorem Z_frame_Body : sizeB PG 102 = some 1 := by kernel_rfl
theorem Y_frame_Body : bytesB PG 102 = some 16 := by kernel_rfl
theorem U_frame_Body : (PG.underlying 102).isSome = true := by kernel_rfl
abbrev T_st103 : Nat := 103
theorem A_st103 : isAggB PG 103 = some true := by kernel_rfl
theorem Z_st103 : sizeB PG 103 = some 20 := by kernel_rfl
theorem Y_st103 : bytesB PG 103 = some 48 := by kernel_rfl
theorem U_st103 : (PG.underlying 103).isSome = true := by kernel_rfl
abbrev T_frame_Hello : Nat := 104
theorem A_frame_Hello : isAggB PG 104 = some true := by kernel_rfl
theorem Z_frame_Hello : sizeB PG 104 = some 20 := by kernel_rfl
theorem Y_frame_Hello : bytesB PG 104 = some 48 := by kernel_rfl
theorem F_frame_Hello_Mine : fieldB PG 104 0 = some (0, 43) := by kernel_rfl
theorem F_frame_Hello_Seen : fieldB PG 104 1 = some (2, 43) := by kernel_rfl
theorem F_frame_Hello_ID : fieldB PG 104 2 = some (4, 24) := by kernel_rfl
theorem W_frame_Hello (w : World) : placesR PG 104 w = .ok #[(0, 2), (2, 2), (4, 16)] w := by kernel_rfl
theorem N_frame_Hello : zeroB PG 104 = some (.agg frame_Hello.zero.enc) := by kernel_rfl
theorem U_frame_Hello : (PG.underlying 104).isSome = true := by kernel_rfl
abbrev T_st105 : Nat := 105
theorem A_st105 : isAggB PG 105 = some true := by kernel_rfl
theorem Z_st105 : sizeB PG 105 = some 6 := by kernel_rfl
theorem Y_st105 : bytesB PG 105 = some 64 := by kernel_rfl
theorem U_st105 : (PG.underlying 105).isSome = true := by kernel_rfl
abbrev T_frame_Data : Nat := 106
theorem A_frame_Data : isAggB PG 106 = some true := by kernel_rfl
theorem Z_frame_Data : sizeB PG 106 = some 6 := by kernel_rfl
theorem Y_frame_Data : bytesB PG 106 = some 64 := by kernel_rfl
theorem F_frame_Data_From : fieldB PG 106 0 = some (0, 43) := by kernel_rfl
theorem F_frame_Data_To : fieldB PG 106 1 = some (2, 43) := by kernel_rfl
theorem F_frame_Data_N : fieldB PG 106 2 = some (4, 2) := by kernel_rfl
theorem F_frame_Data_Text : fieldB PG 106 3 = some (5, 47) := by kernel_rfl
theorem W_frame_Data (w : World) : placesR PG 106 w = .ok #[(0, 2), (2, 2), (4, 1), (5, 1)] w := by kernel_rfl
theorem N_frame_Data : zeroB PG 106 = some (.agg frame_Data.zero.enc) := by kernel_rfl
theorem U_frame_Data : (PG.underlying 106).isSome = true := by kernel_rfl
abbrev T_st107 : Nat := 107
theorem A_st107 : isAggB PG 107 = some true := by kernel_rfl
theorem Z_st107 : sizeB PG 107 = some 5 := by kernel_rfl
theorem Y_st107 : bytesB PG 107 = some 40 := by kernel_rfl
theorem U_st107 : (PG.underlying 107).isSome = true := by kernel_rfl
abbrev T_frame_Ack : Nat := 108
theorem A_frame_Ack : isAggB PG 108 = some true := by kernel_rfl
theorem Z_frame_Ack : sizeB PG 108 = some 5 := by kernel_rfl
theorem Y_frame_Ack : bytesB PG 108 = some 40 := by kernel_rfl
theorem F_frame_Ack_From : fieldB PG 108 0 = some (0, 43) := by kernel_rfl
theorem F_frame_Ack_To : fieldB PG 108 1 = some (2, 43) := by kernel_rfl
theorem F_frame_Ack_N : fieldB PG 108 2 = some (4, 2) := by kernel_rfl
theorem W_frame_Ack (w : World) : placesR PG 108 w = .ok #[(0, 2), (2, 2), (4, 1)] w := by kernel_rfl
theorem N_frame_Ack : zeroB PG 108 = some (.agg frame_Ack.zero.enc) := by kernel_rfl
theorem U_frame_Ack : (PG.underlying 108).isSome = true := by kernel_rfl
abbrev T_st109 : Nat := 109
theorem A_st109 : isAggB PG 109 = some true := by kernel_rfl
theorem Z_st109 : sizeB PG 109 = some 50 := by kernel_rfl
theorem Y_st109 : bytesB PG 109 = some 80 := by kernel_rfl
theorem U_st109 : (PG.underlying 109).isSome = true := by kernel_rfl
abbrev T_frame_Setup : Nat := 110
theorem A_frame_Setup : isAggB PG 110 = some true := by kernel_rfl
theorem Z_frame_Setup : sizeB PG 110 = some 50 := by kernel_rfl
theorem Y_frame_Setup : bytesB PG 110 = some 80 := by kernel_rfl
theorem F_frame_Setup_P : fieldB PG 110 0 = some (0, 26) := by kernel_rfl
theorem F_frame_Setup_A : fieldB PG 110 1 = some (17, 24) := by kernel_rfl
theorem F_frame_Setup_B : fieldB PG 110 2 = some (33, 24) := by kernel_rfl
theorem F_frame_Setup_Trail : fieldB PG 110 3 = some (49, 22) := by kernel_rfl
theorem W_frame_Setup (w : World) : placesR PG 110 w = .ok #[(0, 17), (17, 16), (33, 16), (49, 1)] w := by kernel_rfl
theorem N_frame_Setup : zeroB PG 110 = some (.agg frame_Setup.zero.enc) := by kernel_rfl
theorem U_frame_Setup : (PG.underlying 110).isSome = true := by kernel_rfl
abbrev T_st111 : Nat := 111
theorem A_st111 : isAggB PG 111 = some true := by kernel_rfl
theorem Z_st111 : sizeB PG 111 = some 18 := by kernel_rfl
theorem Y_st111 : bytesB PG 111 = some 32 := by kernel_rfl
theorem U_st111 : (PG.underlying 111).isSome = true := by kernel_rfl
abbrev T_frame_Part : Nat := 112
theorem A_frame_Part : isAggB PG 112 = some true := by kernel_rfl
theorem Z_frame_Part : sizeB PG 112 = some 18 := by kernel_rfl
theorem Y_frame_Part : bytesB PG 112 = some 32 := by kernel_rfl
theorem F_frame_Part_P : fieldB PG 112 0 = some (0, 26) := by kernel_rfl
theorem F_frame_Part_ToA : fieldB PG 112 1 = some (17, 4) := by kernel_rfl
theorem W_frame_Part (w : World) : placesR PG 112 w = .ok #[(0, 17), (17, 1)] w := by kernel_rfl
theorem N_frame_Part : zeroB PG 112 = some (.agg frame_Part.zero.enc) := by kernel_rfl
theorem U_frame_Part : (PG.underlying 112).isSome = true := by kernel_rfl
abbrev T_st113 : Nat := 113
theorem A_st113 : isAggB PG 113 = some true := by kernel_rfl
theorem Z_st113 : sizeB PG 113 = some 19 := by kernel_rfl
theorem Y_st113 : bytesB PG 113 = some 56 := by kernel_rfl
theorem U_st113 : (PG.underlying 113).isSome = true := by kernel_rfl
abbrev T_frame_Peers : Nat := 114
theorem A_frame_Peers : isAggB PG 114 = some true := by kernel_rfl
theorem Z_frame_Peers : sizeB PG 114 = some 19 := by kernel_rfl
theorem Y_frame_Peers : bytesB PG 114 = some 56 := by kernel_rfl
theorem F_frame_Peers_P : fieldB PG 114 0 = some (0, 26) := by kernel_rfl
theorem F_frame_Peers_ToA : fieldB PG 114 1 = some (17, 4) := by kernel_rfl
theorem F_frame_Peers_IDs : fieldB PG 114 2 = some (18, 44) := by kernel_rfl
theorem W_frame_Peers (w : World) : placesR PG 114 w = .ok #[(0, 17), (17, 1), (18, 1)] w := by kernel_rfl
theorem N_frame_Peers : zeroB PG 114 = some (.agg frame_Peers.zero.enc) := by kernel_rfl
theorem U_frame_Peers : (PG.underlying 114).isSome = true := by kernel_rfl
abbrev T_st115 : Nat := 115
theorem A_st115 : isAggB PG 115 = some true := by kernel_rfl
theorem Z_st115 : sizeB PG 115 = some 52 := by kernel_rfl
theorem Y_st115 : bytesB PG 115 = some 96 := by kernel_rfl
theorem U_st115 : (PG.underlying 115).isSome = true := by kernel_rfl
abbrev T_frame_Ask : Nat := 116
theorem A_frame_Ask : isAggB PG 116 = some true := by kernel_rfl
theorem Z_frame_Ask : sizeB PG 116 = some 52 := by kernel_rfl
theorem Y_frame_Ask : bytesB PG 116 = some 96 := by kernel_rfl
theorem F_frame_Ask_Who : fieldB PG 116 0 = some (0, 24) := by kernel_rfl
theorem F_frame_Ask_Want : fieldB PG 116 1 = some (16, 24) := by kernel_rfl
theorem F_frame_Ask_Leg : fieldB PG 116 2 = some (32, 3) := by kernel_rfl
theorem F_frame_Ask_P : fieldB PG 116 3 = some (33, 26) := by kernel_rfl
theorem F_frame_Ask_ToA : fieldB PG 116 4 = some (50, 4) := by kernel_rfl
theorem F_frame_Ask_Trail : fieldB PG 116 5 = some (51, 22) := by kernel_rfl
theorem W_frame_Ask (w : World) : placesR PG 116 w = .ok #[(0, 16), (16, 16), (32, 1), (33, 17), (50, 1), (51, 1)] w := by kernel_rfl
theorem N_frame_Ask : zeroB PG 116 = some (.agg frame_Ask.zero.enc) := by kernel_rfl
theorem U_frame_Ask : (PG.underlying 116).isSome = true := by kernel_rfl
abbrev T_st117 : Nat := 117
theorem A_st117 : isAggB PG 117 = some true := by kernel_rfl
theorem Z_st117 : sizeB PG 117 = some 17 := by kernel_rfl
theorem Y_st117 : bytesB PG 117 = some 24 := by kernel_rfl
theorem U_st117 : (PG.underlying 117).isSome = true := by kernel_rfl
abbrev T_frame_Advert : Nat := 118
theorem A_frame_Advert : isAggB PG 118 = some true := by kernel_rfl
theorem Z_frame_Advert : sizeB PG 118 = some 17 := by kernel_rfl
theorem Y_frame_Advert : bytesB PG 118 = some 24 := by kernel_rfl
theorem F_frame_Advert_ID : fieldB PG 118 0 = some (0, 24) := by kernel_rfl
theorem F_frame_Advert_Far : fieldB PG 118 1 = some (16, 2) := by kernel_rfl
theorem W_frame_Advert (w : World) : placesR PG 118 w = .ok #[(0, 16), (16, 1)] w := by kernel_rfl
theorem N_frame_Advert : zeroB PG 118 = some (.agg frame_Advert.zero.enc) := by kernel_rfl
theorem U_frame_Advert : (PG.underlying 118).isSome = true := by kernel_rfl
abbrev T_st119 : Nat := 119
theorem A_st119 : isAggB PG 119 = some true := by kernel_rfl
theorem Z_st119 : sizeB PG 119 = some 70 := by kernel_rfl
theorem Y_st119 : bytesB PG 119 = some 144 := by kernel_rfl
theorem U_st119 : (PG.underlying 119).isSome = true := by kernel_rfl
abbrev T_frame_Packet : Nat := 120
theorem A_frame_Packet : isAggB PG 120 = some true := by kernel_rfl
theorem Z_frame_Packet : sizeB PG 120 = some 70 := by kernel_rfl
theorem Y_frame_Packet : bytesB PG 120 = some 144 := by kernel_rfl
theorem F_frame_Packet_Src : fieldB PG 120 0 = some (0, 24) := by kernel_rfl
theorem F_frame_Packet_Dst : fieldB PG 120 1 = some (16, 24) := by kernel_rfl
theorem F_frame_Packet_Req : fieldB PG 120 2 = some (32, 2) := by kernel_rfl
theorem F_frame_Packet_Op : fieldB PG 120 3 = some (33, 3) := by kernel_rfl
theorem F_frame_Packet_TTL : fieldB PG 120 4 = some (34, 3) := by kernel_rfl
theorem F_frame_Packet_Item : fieldB PG 120 5 = some (35, 49) := by kernel_rfl
theorem F_frame_Packet_Text : fieldB PG 120 6 = some (69, 47) := by kernel_rfl
theorem W_frame_Packet (w : World) : placesR PG 120 w = .ok #[(0, 16), (16, 16), (32, 1), (33, 1), (34, 1), (35, 34), (69, 1)] w := by kernel_rfl
theorem N_frame_Packet : zeroB PG 120 = some (.agg frame_Packet.zero.enc) := by kernel_rfl
theorem U_frame_Packet : (PG.underlying 120).isSome = true := by kernel_rfl
abbrev T_st122 : Nat := 122
theorem A_st122 : isAggB PG 122 = some true := by kernel_rfl
theorem Z_st122 : sizeB PG 122 = some 52 := by kernel_rfl
theorem Y_st122 : bytesB PG 122 = some 96 := by kernel_rfl
theorem U_st122 : (PG.underlying 122).isSome = true := by kernel_rfl
abbrev T_frame_Copy : Nat := 123
theorem A_frame_Copy : isAggB PG 123 = some true := by kernel_rfl
theorem Z_frame_Copy : sizeB PG 123 = some 52 := by kernel_rfl
theorem Y_frame_Copy : bytesB PG 123 = some 96 := by kernel_rfl
theorem F_frame_Copy_P : fieldB PG 123 0 = some (0, 26) := by kernel_rfl
theorem F_frame_Copy_ToA : fieldB PG 123 1 = some (17, 4) := by kernel_rfl
theorem F_frame_Copy_Item : fieldB PG 123 2 = some (18, 49) := by kernel_rfl
theorem W_frame_Copy (w : World) : placesR PG 123 w = .ok #[(0, 17), (17, 1), (18, 34)] w := by kernel_rfl
theorem N_frame_Copy : zeroB PG 123 = some (.agg frame_Copy.zero.enc) := by kernel_rfl
theorem U_frame_Copy : (PG.underlying 123).isSome = true := by kernel_rfl
abbrev T_st124 : Nat := 124
theorem A_st124 : isAggB PG 124 = some true := by kernel_rfl
theorem Z_st124 : sizeB PG 124 = some 51 := by kernel_rfl
theorem Y_st124 : bytesB PG 124 = some 72 := by kernel_rfl
theorem U_st124 : (PG.underlying 124).isSome = true := by kernel_rfl
abbrev T_frame_Got : Nat := 125
theorem A_frame_Got : isAggB PG 125 = some true := by kernel_rfl
theorem Z_frame_Got : sizeB PG 125 = some 51 := by kernel_rfl
theorem Y_frame_Got : bytesB PG 125 = some 72 := by kernel_rfl
theorem F_frame_Got_P : fieldB PG 125 0 = some (0, 26) := by kernel_rfl
theorem F_frame_Got_ToA : fieldB PG 125 1 = some (17, 4) := by kernel_rfl
theorem F_frame_Got_Key : fieldB PG 125 2 = some (18, 24) := by kernel_rfl
theorem F_frame_Got_Ver : fieldB PG 125 3 = some (34, 46) := by kernel_rfl
theorem W_frame_Got (w : World) : placesR PG 125 w = .ok #[(0, 17), (17, 1), (18, 16), (34, 17)] w := by kernel_rfl
theorem N_frame_Got : zeroB PG 125 = some (.agg frame_Got.zero.enc) := by kernel_rfl
theorem U_frame_Got : (PG.underlying 125).isSome = true := by kernel_rfl
abbrev T_uint64 : Nat := 129
theorem A_uint64 : isAggB PG 129 = some false := by kernel_rfl
theorem Z_uint64 : sizeB PG 129 = some 1 := by kernel_rfl
theorem Y_uint64 : bytesB PG 129 = some 8 := by kernel_rfl
theorem I_uint64 : intB PG 129 = some .u64 := by kernel_rfl
theorem N_uint64 : zeroB PG 129 = some (.int .u64 0) := by kernel_rfl
theorem U_uint64 : (PG.underlying 129).isSome = true := by kernel_rfl
abbrev T_slices_sortedHint : Nat := 137
theorem A_slices_sortedHint : isAggB PG 137 = some false := by kernel_rfl
theorem Z_slices_sortedHint : sizeB PG 137 = some 1 := by kernel_rfl
theorem Y_slices_sortedHint : bytesB PG 137 = some 8 := by kernel_rfl
theorem I_slices_sortedHint : intB PG 137 = some .i64 := by kernel_rfl
theorem N_slices_sortedHint : zeroB PG 137 = some (.int .i64 0) := by kernel_rfl
theorem U_slices_sortedHint : (PG.underlying 137).isSome = true := by kernel_rfl
abbrev T_uint32 : Nat := 145
theorem A_uint32 : isAggB PG 145 = some false := by kernel_rfl
theorem Z_uint32 : sizeB PG 145 = some 1 := by kernel_rfl
theorem Y_uint32 : bytesB PG 145 = some 4 := by kernel_rfl
theorem I_uint32 : intB PG 145 = some .u32 := by kernel_rfl
theorem N_uint32 : zeroB PG 145 = some (.int .u32 0) := by kernel_rfl
theorem U_uint32 : (PG.underlying 145).isSome = true := by kernel_rfl
abbrev T_slices_xorshift : Nat := 148
theorem A_slices_xorshift : isAggB PG 148 = some false := by kernel_rfl
theorem Z_slices_xorshift : sizeB PG 148 = some 1 := by kernel_rfl
theorem Y_slices_xorshift : bytesB PG 148 = some 8 := by kernel_rfl
theorem I_slices_xorshift : intB PG 148 = some .u64 := by kernel_rfl
theorem N_slices_xorshift : zeroB PG 148 = some (.int .u64 0) := by kernel_rfl
theorem U_slices_xorshift : (PG.underlying 148).isSome = true := by kernel_rfl
abbrev T_pt_x3 : Nat := 152
theorem A_pt_x3 : isAggB PG 152 = some false := by kernel_rfl
theorem Z_pt_x3 : sizeB PG 152 = some 1 := by kernel_rfl
theorem Y_pt_x3 : bytesB PG 152 = some 8 := by kernel_rfl
theorem P_pt_x3 : ptrB PG 152 = true := by kernel_rfl
theorem N_pt_x3 : zeroB PG 152 = some (.pointer none) := by kernel_rfl
theorem U_pt_x3 : (PG.underlying 152).isSome = true := by kernel_rfl
abbrev T_pt_slices_xorshift : Nat := 154
theorem A_pt_slices_xorshift : isAggB PG 154 = some false := by kernel_rfl
theorem Z_pt_slices_xorshift : sizeB PG 154 = some 1 := by kernel_rfl
theorem Y_pt_slices_xorshift : bytesB PG 154 = some 8 := by kernel_rfl
theorem P_pt_slices_xorshift : ptrB PG 154 = true := by kernel_rfl
theorem N_pt_slices_xorshift : zeroB PG 154 = some (.pointer none) := by kernel_rfl
theorem U_pt_slices_xorshift : (PG.underlying 154).isSome = true := by kernel_rfl
abbrev T_st158 : Nat := 158
theorem A_st158 : isAggB PG 158 = some true := by kernel_rfl
theorem Z_st158 : sizeB PG 158 = some 4 := by kernel_rfl
theorem Y_st158 : bytesB PG 158 = some 40 := by kernel_rfl
theorem U_st158 : (PG.underlying 158).isSome = true := by kernel_rfl
abbrev T_st161 : Nat := 161
theorem A_st161 : isAggB PG 161 = some true := by kernel_rfl
theorem Z_st161 : sizeB PG 161 = some 0 := by kernel_rfl
theorem Y_st161 : bytesB PG 161 = some 0 := by kernel_rfl
theorem U_st161 : (PG.underlying 161).isSome = true := by kernel_rfl
abbrev T_pt_x5 : Nat := 166
theorem A_pt_x5 : isAggB PG 166 = some false := by kernel_rfl
theorem Z_pt_x5 : sizeB PG 166 = some 1 := by kernel_rfl
theorem Y_pt_x5 : bytesB PG 166 = some 8 := by kernel_rfl
theorem P_pt_x5 : ptrB PG 166 = true := by kernel_rfl
theorem N_pt_x5 : zeroB PG 166 = some (.pointer none) := by kernel_rfl
theorem U_pt_x5 : (PG.underlying 166).isSome = true := by kernel_rfl
abbrev T_st169 : Nat := 169
theorem A_st169 : isAggB PG 169 = some true := by kernel_rfl
theorem Z_st169 : sizeB PG 169 = some 11 := by kernel_rfl
theorem Y_st169 : bytesB PG 169 = some 48 := by kernel_rfl
theorem U_st169 : (PG.underlying 169).isSome = true := by kernel_rfl
theorem G_ar16_uint8 : PG.eqGuardType PG.depth 23 = false := by kernel_rfl
theorem EQ_ar16_uint8 (x y : Idn) : EqV PG 2 23 (.agg x.enc) (.agg y.enc) (decide (x = y)) := .idn R_ar16_uint8 I_uint8 A_uint8 Z_uint8 x y
theorem G_api_ID : PG.eqGuardType PG.depth 24 = false := by kernel_rfl
theorem EQ_api_ID (x y : Idn) : EqV PG 2 24 (.agg x.enc) (.agg y.enc) (decide (x = y)) := .idn R_api_ID I_uint8 A_uint8 Z_uint8 x y
theorem G_api_Path : PG.eqGuardType PG.depth 26 = false := by kernel_rfl
theorem V_api_Path : fieldsB PG 26 = some [(0, 24), (16, 2)] := by kernel_rfl
theorem EQ_api_Path (x y : api_Path) : EqV PG 3 26 (.agg x.enc) (.agg y.enc) (decide (x = y)) := by
  have h : EqV PG 3 26 (.agg x.enc) (.agg y.enc) _ := .str V_api_Path (.agg A_api_ID Z_api_ID (api_Path.s_Who x) (api_Path.s_Who y) ((EQ_api_ID _ _).up (by decide)) (.one A_int64 (api_Path.g_N x) (api_Path.g_N y) ((EqV.int I_int64 _ _).up (by decide)) (.nil)))
  have e : decide (x = y) = (decide (x.Who = y.Who) && (decide (x.N = y.N) && true)) := by rw [Bool.eq_iff_iff]; cases x; cases y; simp
  rw [e]; exact h
theorem G_api_Entry : PG.eqGuardType PG.depth 39 = false := by kernel_rfl
theorem V_api_Entry : fieldsB PG 39 = some [(0, 26), (17, 24), (33, 24), (49, 3), (50, 3)] := by kernel_rfl
theorem EQ_api_Entry (x y : api_Entry) : EqV PG 4 39 (.agg x.enc) (.agg y.enc) (decide (x = y)) := by
  have h : EqV PG 4 39 (.agg x.enc) (.agg y.enc) _ := .str V_api_Entry (.agg A_api_Path Z_api_Path (api_Entry.s_P x) (api_Entry.s_P y) ((EQ_api_Path _ _).up (by decide)) (.agg A_api_ID Z_api_ID (api_Entry.s_A x) (api_Entry.s_A y) ((EQ_api_ID _ _).up (by decide)) (.agg A_api_ID Z_api_ID (api_Entry.s_B x) (api_Entry.s_B y) ((EQ_api_ID _ _).up (by decide)) (.one A_int (api_Entry.g_Na x) (api_Entry.g_Na y) ((EqV.int I_int _ _).up (by decide)) (.one A_int (api_Entry.g_Nb x) (api_Entry.g_Nb y) ((EqV.int I_int _ _).up (by decide)) (.nil))))))
  have e : decide (x = y) = (decide (x.P = y.P) && (decide (x.A = y.A) && (decide (x.B = y.B) && (decide (x.Na = y.Na) && (decide (x.Nb = y.Nb) && true))))) := by rw [Bool.eq_iff_iff]; cases x; cases y; simp
  rw [e]; exact h
theorem G_api_Num : PG.eqGuardType PG.depth 43 = false := by kernel_rfl
theorem V_api_Num : fieldsB PG 43 = some [(0, 2), (1, 2)] := by kernel_rfl
theorem EQ_api_Num (x y : api_Num) : EqV PG 2 43 (.agg x.enc) (.agg y.enc) (decide (x = y)) := by
  have h : EqV PG 2 43 (.agg x.enc) (.agg y.enc) _ := .str V_api_Num (.one A_int64 (api_Num.g_Inc x) (api_Num.g_Inc y) ((EqV.int I_int64 _ _).up (by decide)) (.one A_int64 (api_Num.g_N x) (api_Num.g_N y) ((EqV.int I_int64 _ _).up (by decide)) (.nil)))
  have e : decide (x = y) = (decide (x.Inc = y.Inc) && (decide (x.N = y.N) && true)) := by rw [Bool.eq_iff_iff]; cases x; cases y; simp
  rw [e]; exact h
theorem G_api_Ver : PG.eqGuardType PG.depth 46 = false := by kernel_rfl
theorem V_api_Ver : fieldsB PG 46 = some [(0, 2), (1, 24)] := by kernel_rfl
theorem EQ_api_Ver (x y : api_Ver) : EqV PG 3 46 (.agg x.enc) (.agg y.enc) (decide (x = y)) := by
  have h : EqV PG 3 46 (.agg x.enc) (.agg y.enc) _ := .str V_api_Ver (.one A_int64 (api_Ver.g_N x) (api_Ver.g_N y) ((EqV.int I_int64 _ _).up (by decide)) (.agg A_api_ID Z_api_ID (api_Ver.s_Who x) (api_Ver.s_Who y) ((EQ_api_ID _ _).up (by decide)) (.nil)))
  have e : decide (x = y) = (decide (x.N = y.N) && (decide (x.Who = y.Who) && true)) := by rw [Bool.eq_iff_iff]; cases x; cases y; simp
  rw [e]; exact h
theorem G_frame_Drop : PG.eqGuardType PG.depth 91 = false := by kernel_rfl
theorem V_frame_Drop : fieldsB PG 91 = some [(0, 26)] := by kernel_rfl
theorem EQ_frame_Drop (x y : frame_Drop) : EqV PG 4 91 (.agg x.enc) (.agg y.enc) (decide (x = y)) := by
  have h : EqV PG 4 91 (.agg x.enc) (.agg y.enc) _ := .str V_frame_Drop (.agg A_api_Path Z_api_Path (frame_Drop.s_P x) (frame_Drop.s_P y) ((EQ_api_Path _ _).up (by decide)) (.nil))
  have e : decide (x = y) = (decide (x.P = y.P) && true) := by rw [Bool.eq_iff_iff]; cases x; cases y; simp
  rw [e]; exact h
theorem G_frame_Hello : PG.eqGuardType PG.depth 104 = false := by kernel_rfl
theorem V_frame_Hello : fieldsB PG 104 = some [(0, 43), (2, 43), (4, 24)] := by kernel_rfl
theorem EQ_frame_Hello (x y : frame_Hello) : EqV PG 3 104 (.agg x.enc) (.agg y.enc) (decide (x = y)) := by
  have h : EqV PG 3 104 (.agg x.enc) (.agg y.enc) _ := .str V_frame_Hello (.agg A_api_Num Z_api_Num (frame_Hello.s_Mine x) (frame_Hello.s_Mine y) ((EQ_api_Num _ _).up (by decide)) (.agg A_api_Num Z_api_Num (frame_Hello.s_Seen x) (frame_Hello.s_Seen y) ((EQ_api_Num _ _).up (by decide)) (.agg A_api_ID Z_api_ID (frame_Hello.s_ID x) (frame_Hello.s_ID y) ((EQ_api_ID _ _).up (by decide)) (.nil))))
  have e : decide (x = y) = (decide (x.Mine = y.Mine) && (decide (x.Seen = y.Seen) && (decide (x.ID = y.ID) && true))) := by rw [Bool.eq_iff_iff]; cases x; cases y; simp
  rw [e]; exact h
theorem G_frame_Ack : PG.eqGuardType PG.depth 108 = false := by kernel_rfl
theorem V_frame_Ack : fieldsB PG 108 = some [(0, 43), (2, 43), (4, 2)] := by kernel_rfl
theorem EQ_frame_Ack (x y : frame_Ack) : EqV PG 3 108 (.agg x.enc) (.agg y.enc) (decide (x = y)) := by
  have h : EqV PG 3 108 (.agg x.enc) (.agg y.enc) _ := .str V_frame_Ack (.agg A_api_Num Z_api_Num (frame_Ack.s_From x) (frame_Ack.s_From y) ((EQ_api_Num _ _).up (by decide)) (.agg A_api_Num Z_api_Num (frame_Ack.s_To x) (frame_Ack.s_To y) ((EQ_api_Num _ _).up (by decide)) (.one A_int64 (frame_Ack.g_N x) (frame_Ack.g_N y) ((EqV.int I_int64 _ _).up (by decide)) (.nil))))
  have e : decide (x = y) = (decide (x.From = y.From) && (decide (x.To = y.To) && (decide (x.N = y.N) && true))) := by rw [Bool.eq_iff_iff]; cases x; cases y; simp
  rw [e]; exact h
theorem G_frame_Part : PG.eqGuardType PG.depth 112 = false := by kernel_rfl
theorem V_frame_Part : fieldsB PG 112 = some [(0, 26), (17, 4)] := by kernel_rfl
theorem EQ_frame_Part (x y : frame_Part) : EqV PG 4 112 (.agg x.enc) (.agg y.enc) (decide (x = y)) := by
  have h : EqV PG 4 112 (.agg x.enc) (.agg y.enc) _ := .str V_frame_Part (.agg A_api_Path Z_api_Path (frame_Part.s_P x) (frame_Part.s_P y) ((EQ_api_Path _ _).up (by decide)) (.one A_bool (frame_Part.g_ToA x) (frame_Part.g_ToA y) ((EqV.bool Q_bool _ _).up (by decide)) (.nil)))
  have e : decide (x = y) = (decide (x.P = y.P) && (decide (x.ToA = y.ToA) && true)) := by rw [Bool.eq_iff_iff]; cases x; cases y; simp
  rw [e]; exact h
theorem G_frame_Advert : PG.eqGuardType PG.depth 118 = false := by kernel_rfl
theorem V_frame_Advert : fieldsB PG 118 = some [(0, 24), (16, 2)] := by kernel_rfl
theorem EQ_frame_Advert (x y : frame_Advert) : EqV PG 3 118 (.agg x.enc) (.agg y.enc) (decide (x = y)) := by
  have h : EqV PG 3 118 (.agg x.enc) (.agg y.enc) _ := .str V_frame_Advert (.agg A_api_ID Z_api_ID (frame_Advert.s_ID x) (frame_Advert.s_ID y) ((EQ_api_ID _ _).up (by decide)) (.one A_int64 (frame_Advert.g_Far x) (frame_Advert.g_Far y) ((EqV.int I_int64 _ _).up (by decide)) (.nil)))
  have e : decide (x = y) = (decide (x.ID = y.ID) && (decide (x.Far = y.Far) && true)) := by rw [Bool.eq_iff_iff]; cases x; cases y; simp
  rw [e]; exact h
theorem G_frame_Got : PG.eqGuardType PG.depth 125 = false := by kernel_rfl
theorem V_frame_Got : fieldsB PG 125 = some [(0, 26), (17, 4), (18, 24), (34, 46)] := by kernel_rfl
theorem EQ_frame_Got (x y : frame_Got) : EqV PG 4 125 (.agg x.enc) (.agg y.enc) (decide (x = y)) := by
  have h : EqV PG 4 125 (.agg x.enc) (.agg y.enc) _ := .str V_frame_Got (.agg A_api_Path Z_api_Path (frame_Got.s_P x) (frame_Got.s_P y) ((EQ_api_Path _ _).up (by decide)) (.one A_bool (frame_Got.g_ToA x) (frame_Got.g_ToA y) ((EqV.bool Q_bool _ _).up (by decide)) (.agg A_api_ID Z_api_ID (frame_Got.s_Key x) (frame_Got.s_Key y) ((EQ_api_ID _ _).up (by decide)) (.agg A_api_Ver Z_api_Ver (frame_Got.s_Ver x) (frame_Got.s_Ver y) ((EQ_api_Ver _ _).up (by decide)) (.nil)))))
  have e : decide (x = y) = (decide (x.P = y.P) && (decide (x.ToA = y.ToA) && (decide (x.Key = y.Key) && (decide (x.Ver = y.Ver) && true)))) := by rw [Bool.eq_iff_iff]; cases x; cases y; simp
  rw [e]; exact h
theorem KO_api_Path : KeyOk PG 26 (fun x : api_Path => Value.agg x.enc) where
  ck := ⟨3, by decide, fun x => (CkV.str (k := 2) V_api_Path (.agg A_api_ID Z_api_ID (api_Path.s_Who _) (CkV.up (CkV.idn R_api_ID I_uint8 A_uint8 Z_uint8 _) (by decide)) (.one A_int64 (api_Path.g_N _) ((CkV.int I_int64 _).up (by decide)) (.nil))))⟩
  eq := ⟨3, by decide, fun x y => EQ_api_Path x y⟩
  now := fun dd hd x v => by
    have h := Option.some.inj (hd.symm.trans Go.Proofs.Try.underlying26)
    subst h
    rfl
  bits := fun x => sameBits_agg x.pl
abbrev f_annuletlaw15_TearAlong : Nat := 3
theorem E_annuletlaw15_TearAlong : enterB PG 3 = true := by kernel_rfl
noncomputable abbrev D_annuletlaw15_TearAlong : Func := Go.Proofs.Try.f3
theorem B_annuletlaw15_TearAlong : PG.funcs[3]? = some D_annuletlaw15_TearAlong := Go.Proofs.Try.func3
abbrev f_annuletlaw15_TearDrops : Nat := 4
theorem E_annuletlaw15_TearDrops : enterB PG 4 = true := by kernel_rfl
noncomputable abbrev D_annuletlaw15_TearDrops : Func := Go.Proofs.Try.f4
theorem B_annuletlaw15_TearDrops : PG.funcs[4]? = some D_annuletlaw15_TearDrops := Go.Proofs.Try.func4
abbrev f_annuletlaw15_TearDies : Nat := 5
theorem E_annuletlaw15_TearDies : enterB PG 5 = true := by kernel_rfl
noncomputable abbrev D_annuletlaw15_TearDies : Func := Go.Proofs.Try.f5
theorem B_annuletlaw15_TearDies : PG.funcs[5]? = some D_annuletlaw15_TearDies := Go.Proofs.Try.func5
abbrev f_annuletlaw15_TearSweeps : Nat := 6
theorem E_annuletlaw15_TearSweeps : enterB PG 6 = true := by kernel_rfl
noncomputable abbrev D_annuletlaw15_TearSweeps : Func := Go.Proofs.Try.f6
theorem B_annuletlaw15_TearSweeps : PG.funcs[6]? = some D_annuletlaw15_TearSweeps := Go.Proofs.Try.func6
abbrev f_annuletlaw15_TearEnds : Nat := 7
theorem E_annuletlaw15_TearEnds : enterB PG 7 = true := by kernel_rfl
noncomputable abbrev D_annuletlaw15_TearEnds : Func := Go.Proofs.Try.f7
theorem B_annuletlaw15_TearEnds : PG.funcs[7]? = some D_annuletlaw15_TearEnds := Go.Proofs.Try.func7
abbrev f_annuletlaw15_line : Nat := 8
theorem E_annuletlaw15_line : enterB PG 8 = true := by kernel_rfl
noncomputable abbrev D_annuletlaw15_line : Func := Go.Proofs.Try.f8
theorem B_annuletlaw15_line : PG.funcs[8]? = some D_annuletlaw15_line := Go.Proofs.Try.func8
abbrev f_annuletlaw15_fixed : Nat := 9
theorem E_annuletlaw15_fixed : enterB PG 9 = true := by kernel_rfl
noncomputable abbrev D_annuletlaw15_fixed : Func := Go.Proofs.Try.f9
theorem B_annuletlaw15_fixed : PG.funcs[9]? = some D_annuletlaw15_fixed := Go.Proofs.Try.func9
abbrev f_tear_Dead : Nat := 10
theorem E_tear_Dead : enterB PG 10 = true := by kernel_rfl
noncomputable abbrev D_tear_Dead : Func := Go.Proofs.Try.f10
theorem B_tear_Dead : PG.funcs[10]? = some D_tear_Dead := Go.Proofs.Try.func10
abbrev f_table_Table_Get : Nat := 11
theorem E_table_Table_Get : enterB PG 11 = true := by kernel_rfl
noncomputable abbrev D_table_Table_Get : Func := Go.Proofs.Try.f11
theorem B_table_Table_Get : PG.funcs[11]? = some D_table_Table_Get := Go.Proofs.Try.func11
abbrev f_tear_Drop : Nat := 12
theorem E_tear_Drop : enterB PG 12 = true := by kernel_rfl
noncomputable abbrev D_tear_Drop : Func := Go.Proofs.Try.f12
theorem B_tear_Drop : PG.funcs[12]? = some D_tear_Drop := Go.Proofs.Try.func12
abbrev f_table_Table_Len : Nat := 13
theorem E_table_Table_Len : enterB PG 13 = true := by kernel_rfl
noncomputable abbrev D_table_Table_Len : Func := Go.Proofs.Try.f13
theorem B_table_Table_Len : PG.funcs[13]? = some D_table_Table_Len := Go.Proofs.Try.func13
abbrev f_annuletlaw15_laid : Nat := 14
theorem E_annuletlaw15_laid : enterB PG 14 = true := by kernel_rfl
noncomputable abbrev D_annuletlaw15_laid : Func := Go.Proofs.Try.f14
theorem B_annuletlaw15_laid : PG.funcs[14]? = some D_annuletlaw15_laid := Go.Proofs.Try.func14
abbrev f_annuletlaw15_same : Nat := 15
theorem E_annuletlaw15_same : enterB PG 15 = true := by kernel_rfl
noncomputable abbrev D_annuletlaw15_same : Func := Go.Proofs.Try.f15
theorem B_annuletlaw15_same : PG.funcs[15]? = some D_annuletlaw15_same := Go.Proofs.Try.func15
abbrev f_annuletref15_Drop : Nat := 16
theorem E_annuletref15_Drop : enterB PG 16 = true := by kernel_rfl
noncomputable abbrev D_annuletref15_Drop : Func := Go.Proofs.Try.f16
theorem B_annuletref15_Drop : PG.funcs[16]? = some D_annuletref15_Drop := Go.Proofs.Try.func16
abbrev f_annuletref12_Same : Nat := 17
theorem E_annuletref12_Same : enterB PG 17 = true := by kernel_rfl
noncomputable abbrev D_annuletref12_Same : Func := Go.Proofs.Try.f17
theorem B_annuletref12_Same : PG.funcs[17]? = some D_annuletref12_Same := Go.Proofs.Try.func17
abbrev f_table_Table_All : Nat := 18
theorem E_table_Table_All : enterB PG 18 = true := by kernel_rfl
noncomputable abbrev D_table_Table_All : Func := Go.Proofs.Try.f18
theorem B_table_Table_All : PG.funcs[18]? = some D_table_Table_All := Go.Proofs.Try.func18
abbrev f_annuletref15_Dead : Nat := 19
theorem E_annuletref15_Dead : enterB PG 19 = true := by kernel_rfl
noncomputable abbrev D_annuletref15_Dead : Func := Go.Proofs.Try.f19
theorem B_annuletref15_Dead : PG.funcs[19]? = some D_annuletref15_Dead := Go.Proofs.Try.func19
abbrev f_table_Table_Via : Nat := 20
theorem E_table_Table_Via : enterB PG 20 = true := by kernel_rfl
noncomputable abbrev D_table_Table_Via : Func := Go.Proofs.Try.f20
theorem B_table_Table_Via : PG.funcs[20]? = some D_table_Table_Via := Go.Proofs.Try.func20
abbrev f_tear_End : Nat := 21
theorem E_tear_End : enterB PG 21 = true := by kernel_rfl
noncomputable abbrev D_tear_End : Func := Go.Proofs.Try.f21
theorem B_tear_End : PG.funcs[21]? = some D_tear_End := Go.Proofs.Try.func21
abbrev f_annuletref15_End : Nat := 22
theorem E_annuletref15_End : enterB PG 22 = true := by kernel_rfl
noncomputable abbrev D_annuletref15_End : Func := Go.Proofs.Try.f22
theorem B_annuletref15_End : PG.funcs[22]? = some D_annuletref15_End := Go.Proofs.Try.func22
abbrev f_table_New : Nat := 23
theorem E_table_New : enterB PG 23 = true := by kernel_rfl
noncomputable abbrev D_table_New : Func := Go.Proofs.Try.f23
theorem B_table_New : PG.funcs[23]? = some D_table_New := Go.Proofs.Try.func23
abbrev f_table_Table_Add : Nat := 24
theorem E_table_Table_Add : enterB PG 24 = true := by kernel_rfl
noncomputable abbrev D_table_Table_Add : Func := Go.Proofs.Try.f24
theorem B_table_Table_Add : PG.funcs[24]? = some D_table_Table_Add := Go.Proofs.Try.func24
abbrev f_table_Table_Remove : Nat := 25
theorem E_table_Table_Remove : enterB PG 25 = true := by kernel_rfl
noncomputable abbrev D_table_Table_Remove : Func := Go.Proofs.Try.f25
theorem B_table_Table_Remove : PG.funcs[25]? = some D_table_Table_Remove := Go.Proofs.Try.func25
abbrev f_tear_Torn_hop : Nat := 26
theorem E_tear_Torn_hop : enterB PG 26 = true := by kernel_rfl
noncomputable abbrev D_tear_Torn_hop : Func := Go.Proofs.Try.f26
theorem B_tear_Torn_hop : PG.funcs[26]? = some D_tear_Torn_hop := Go.Proofs.Try.func26
abbrev f_annuletref12_New : Nat := 27
theorem E_annuletref12_New : enterB PG 27 = true := by kernel_rfl
noncomputable abbrev D_annuletref12_New : Func := Go.Proofs.Try.f27
theorem B_annuletref12_New : PG.funcs[27]? = some D_annuletref12_New := Go.Proofs.Try.func27
abbrev f_annuletref12_Table_Add : Nat := 28
theorem E_annuletref12_Table_Add : enterB PG 28 = true := by kernel_rfl
noncomputable abbrev D_annuletref12_Table_Add : Func := Go.Proofs.Try.f28
theorem B_annuletref12_Table_Add : PG.funcs[28]? = some D_annuletref12_Table_Add := Go.Proofs.Try.func28
abbrev f_annuletref15_SamePaths : Nat := 29
theorem E_annuletref15_SamePaths : enterB PG 29 = true := by kernel_rfl
noncomputable abbrev D_annuletref15_SamePaths : Func := Go.Proofs.Try.f29
theorem B_annuletref15_SamePaths : PG.funcs[29]? = some D_annuletref15_SamePaths := Go.Proofs.Try.func29
abbrev f_annuletref04_Same : Nat := 30
theorem E_annuletref04_Same : enterB PG 30 = true := by kernel_rfl
noncomputable abbrev D_annuletref04_Same : Func := Go.Proofs.Try.f30
theorem B_annuletref04_Same : PG.funcs[30]? = some D_annuletref04_Same := Go.Proofs.Try.func30
abbrev f_annuletref12_Table_Get : Nat := 31
theorem E_annuletref12_Table_Get : enterB PG 31 = true := by kernel_rfl
noncomputable abbrev D_annuletref12_Table_Get : Func := Go.Proofs.Try.f31
theorem B_annuletref12_Table_Get : PG.funcs[31]? = some D_annuletref12_Table_Get := Go.Proofs.Try.func31
abbrev f_annuletref12_Table_Remove : Nat := 32
theorem E_annuletref12_Table_Remove : enterB PG 32 = true := by kernel_rfl
noncomputable abbrev D_annuletref12_Table_Remove : Func := Go.Proofs.Try.f32
theorem B_annuletref12_Table_Remove : PG.funcs[32]? = some D_annuletref12_Table_Remove := Go.Proofs.Try.func32
abbrev f_annuletref15_Torn_side : Nat := 33
theorem E_annuletref15_Torn_side : enterB PG 33 = true := by kernel_rfl
noncomputable abbrev D_annuletref15_Torn_side : Func := Go.Proofs.Try.f33
theorem B_annuletref15_Torn_side : PG.funcs[33]? = some D_annuletref15_Torn_side := Go.Proofs.Try.func33
abbrev f_table_Table_of : Nat := 34
theorem E_table_Table_of : enterB PG 34 = true := by kernel_rfl
noncomputable abbrev D_table_Table_of : Func := Go.Proofs.Try.f34
theorem B_table_Table_of : PG.funcs[34]? = some D_table_Table_of := Go.Proofs.Try.func34
abbrev f_table_Table_All_f1 : Nat := 35
theorem E_table_Table_All_f1 : enterB PG 35 = true := by kernel_rfl
noncomputable abbrev D_table_Table_All_f1 : Func := Go.Proofs.Try.f35
theorem B_table_Table_All_f1 : PG.funcs[35]? = some D_table_Table_All_f1 := Go.Proofs.Try.func35
abbrev f_annuletref12_Table_Via : Nat := 36
theorem E_annuletref12_Table_Via : enterB PG 36 = true := by kernel_rfl
noncomputable abbrev D_annuletref12_Table_Via : Func := Go.Proofs.Try.f36
theorem B_annuletref12_Table_Via : PG.funcs[36]? = some D_annuletref12_Table_Via := Go.Proofs.Try.func36
abbrev f_table_Table_Via_f1 : Nat := 37
theorem E_table_Table_Via_f1 : enterB PG 37 = true := by kernel_rfl
noncomputable abbrev D_table_Table_Via_f1 : Func := Go.Proofs.Try.f37
theorem B_table_Table_Via_f1 : PG.funcs[37]? = some D_table_Table_Via_f1 := Go.Proofs.Try.func37
abbrev f_table_Right : Nat := 38
theorem E_table_Right : enterB PG 38 = true := by kernel_rfl
noncomputable abbrev D_table_Right : Func := Go.Proofs.Try.f38
theorem B_table_Right : PG.funcs[38]? = some D_table_Right := Go.Proofs.Try.func38
abbrev f_table_Table_has : Nat := 39
theorem E_table_Table_has : enterB PG 39 = true := by kernel_rfl
noncomputable abbrev D_table_Table_has : Func := Go.Proofs.Try.f39
theorem B_table_Table_has : PG.funcs[39]? = some D_table_Table_has := Go.Proofs.Try.func39
abbrev f_frame_Plain : Nat := 40
theorem E_frame_Plain : enterB PG 40 = true := by kernel_rfl
noncomputable abbrev D_frame_Plain : Func := Go.Proofs.Try.f40
theorem B_frame_Plain : PG.funcs[40]? = some D_frame_Plain := Go.Proofs.Try.func40
abbrev f_annuletref12_Right : Nat := 41
theorem E_annuletref12_Right : enterB PG 41 = true := by kernel_rfl
noncomputable abbrev D_annuletref12_Right : Func := Go.Proofs.Try.f41
theorem B_annuletref12_Right : PG.funcs[41]? = some D_annuletref12_Right := Go.Proofs.Try.func41
abbrev f_annuletref12_Less : Nat := 42
theorem E_annuletref12_Less : enterB PG 42 = true := by kernel_rfl
noncomputable abbrev D_annuletref12_Less : Func := Go.Proofs.Try.f42
theorem B_annuletref12_Less : PG.funcs[42]? = some D_annuletref12_Less := Go.Proofs.Try.func42
abbrev f_annuletref04_SameItem : Nat := 43
theorem E_annuletref04_SameItem : enterB PG 43 = true := by kernel_rfl
noncomputable abbrev D_annuletref04_SameItem : Func := Go.Proofs.Try.f43
theorem B_annuletref04_SameItem : PG.funcs[43]? = some D_annuletref04_SameItem := Go.Proofs.Try.func43
abbrev f_slices_SortedFunc_api_Path : Nat := 44
theorem E_slices_SortedFunc_api_Path : enterB PG 44 = true := by kernel_rfl
noncomputable abbrev D_slices_SortedFunc_api_Path : Func := Go.Proofs.Try.f44
theorem B_slices_SortedFunc_api_Path : PG.funcs[44]? = some D_slices_SortedFunc_api_Path := Go.Proofs.Try.func44
abbrev f_maps_Keys_map_api_Path_api_Entry_api_Path_api_Entry : Nat := 45
theorem E_maps_Keys_map_api_Path_api_Entry_api_Path_api_Entry : enterB PG 45 = true := by kernel_rfl
noncomputable abbrev D_maps_Keys_map_api_Path_api_Entry_api_Path_api_Entry : Func := Go.Proofs.Try.f45
theorem B_maps_Keys_map_api_Path_api_Entry_api_Path_api_Entry : PG.funcs[45]? = some D_maps_Keys_map_api_Path_api_Entry_api_Path_api_Entry := Go.Proofs.Try.func45
abbrev f_table_order : Nat := 46
theorem E_table_order : enterB PG 46 = true := by kernel_rfl
noncomputable abbrev D_table_order : Func := Go.Proofs.Try.f46
theorem B_table_order : PG.funcs[46]? = some D_table_order := Go.Proofs.Try.func46
abbrev f_table_Right_f1 : Nat := 47
theorem E_table_Right_f1 : enterB PG 47 = true := by kernel_rfl
noncomputable abbrev D_table_Right_f1 : Func := Go.Proofs.Try.f47
theorem B_table_Right_f1 : PG.funcs[47]? = some D_table_Right_f1 := Go.Proofs.Try.func47
abbrev f_frame_item : Nat := 48
theorem E_frame_item : enterB PG 48 = true := by kernel_rfl
noncomputable abbrev D_frame_item : Func := Go.Proofs.Try.f48
theorem B_frame_item : PG.funcs[48]? = some D_frame_item := Go.Proofs.Try.func48
abbrev f_annuletref01_Less : Nat := 49
theorem E_annuletref01_Less : enterB PG 49 = true := by kernel_rfl
noncomputable abbrev D_annuletref01_Less : Func := Go.Proofs.Try.f49
theorem B_annuletref01_Less : PG.funcs[49]? = some D_annuletref01_Less := Go.Proofs.Try.func49
abbrev f_slices_Collect_api_Path : Nat := 50
theorem E_slices_Collect_api_Path : enterB PG 50 = true := by kernel_rfl
noncomputable abbrev D_slices_Collect_api_Path : Func := Go.Proofs.Try.f50
theorem B_slices_Collect_api_Path : PG.funcs[50]? = some D_slices_Collect_api_Path := Go.Proofs.Try.func50
abbrev f_slices_SortFunc_api_Path_api_Path : Nat := 51
theorem E_slices_SortFunc_api_Path_api_Path : enterB PG 51 = true := by kernel_rfl
noncomputable abbrev D_slices_SortFunc_api_Path_api_Path : Func := Go.Proofs.Try.f51
theorem B_slices_SortFunc_api_Path_api_Path : PG.funcs[51]? = some D_slices_SortFunc_api_Path_api_Path := Go.Proofs.Try.func51
abbrev f_maps_Keys_map_api_Path_api_Entry_api_Path_api_Entry_f1 : Nat := 52
theorem E_maps_Keys_map_api_Path_api_Entry_api_Path_api_Entry_f1 : enterB PG 52 = true := by kernel_rfl
noncomputable abbrev D_maps_Keys_map_api_Path_api_Entry_api_Path_api_Entry_f1 : Func := Go.Proofs.Try.f52
theorem B_maps_Keys_map_api_Path_api_Entry_api_Path_api_Entry_f1 : PG.funcs[52]? = some D_maps_Keys_map_api_Path_api_Entry_api_Path_api_Entry_f1 := Go.Proofs.Try.func52
abbrev f_table_Less : Nat := 53
theorem E_table_Less : enterB PG 53 = true := by kernel_rfl
noncomputable abbrev D_table_Less : Func := Go.Proofs.Try.f53
theorem B_table_Less : PG.funcs[53]? = some D_table_Less := Go.Proofs.Try.func53
abbrev f_annuletref01_Wide : Nat := 54
theorem E_annuletref01_Wide : enterB PG 54 = true := by kernel_rfl
noncomputable abbrev D_annuletref01_Wide : Func := Go.Proofs.Try.f54
theorem B_annuletref01_Wide : PG.funcs[54]? = some D_annuletref01_Wide := Go.Proofs.Try.func54
abbrev f_slices_AppendSeq_api_Path_api_Path : Nat := 55
theorem E_slices_AppendSeq_api_Path_api_Path : enterB PG 55 = true := by kernel_rfl
noncomputable abbrev D_slices_AppendSeq_api_Path_api_Path : Func := Go.Proofs.Try.f55
theorem B_slices_AppendSeq_api_Path_api_Path : PG.funcs[55]? = some D_slices_AppendSeq_api_Path_api_Path := Go.Proofs.Try.func55
abbrev f_slices_pdqsortCmpFunc_api_Path : Nat := 56
theorem E_slices_pdqsortCmpFunc_api_Path : enterB PG 56 = true := by kernel_rfl
noncomputable abbrev D_slices_pdqsortCmpFunc_api_Path : Func := Go.Proofs.Try.f56
theorem B_slices_pdqsortCmpFunc_api_Path : PG.funcs[56]? = some D_slices_pdqsortCmpFunc_api_Path := Go.Proofs.Try.func56
abbrev f_bits_Len : Nat := 57
theorem E_bits_Len : enterB PG 57 = true := by kernel_rfl
noncomputable abbrev D_bits_Len : Func := Go.Proofs.Try.f57
theorem B_bits_Len : PG.funcs[57]? = some D_bits_Len := Go.Proofs.Try.func57
abbrev f_ident_Compare : Nat := 58
theorem E_ident_Compare : enterB PG 58 = true := by kernel_rfl
noncomputable abbrev D_ident_Compare : Func := Go.Proofs.Try.f58
theorem B_ident_Compare : PG.funcs[58]? = some D_ident_Compare := Go.Proofs.Try.func58
abbrev f_slices_insertionSortCmpFunc_api_Path : Nat := 59
theorem E_slices_insertionSortCmpFunc_api_Path : enterB PG 59 = true := by kernel_rfl
noncomputable abbrev D_slices_insertionSortCmpFunc_api_Path : Func := Go.Proofs.Try.f59
theorem B_slices_insertionSortCmpFunc_api_Path : PG.funcs[59]? = some D_slices_insertionSortCmpFunc_api_Path := Go.Proofs.Try.func59
abbrev f_slices_heapSortCmpFunc_api_Path : Nat := 60
theorem E_slices_heapSortCmpFunc_api_Path : enterB PG 60 = true := by kernel_rfl
noncomputable abbrev D_slices_heapSortCmpFunc_api_Path : Func := Go.Proofs.Try.f60
theorem B_slices_heapSortCmpFunc_api_Path : PG.funcs[60]? = some D_slices_heapSortCmpFunc_api_Path := Go.Proofs.Try.func60
abbrev f_slices_breakPatternsCmpFunc_api_Path : Nat := 61
theorem E_slices_breakPatternsCmpFunc_api_Path : enterB PG 61 = true := by kernel_rfl
noncomputable abbrev D_slices_breakPatternsCmpFunc_api_Path : Func := Go.Proofs.Try.f61
theorem B_slices_breakPatternsCmpFunc_api_Path : PG.funcs[61]? = some D_slices_breakPatternsCmpFunc_api_Path := Go.Proofs.Try.func61
abbrev f_slices_choosePivotCmpFunc_api_Path : Nat := 62
theorem E_slices_choosePivotCmpFunc_api_Path : enterB PG 62 = true := by kernel_rfl
noncomputable abbrev D_slices_choosePivotCmpFunc_api_Path : Func := Go.Proofs.Try.f62
theorem B_slices_choosePivotCmpFunc_api_Path : PG.funcs[62]? = some D_slices_choosePivotCmpFunc_api_Path := Go.Proofs.Try.func62
abbrev f_slices_reverseRangeCmpFunc_api_Path : Nat := 63
theorem E_slices_reverseRangeCmpFunc_api_Path : enterB PG 63 = true := by kernel_rfl
noncomputable abbrev D_slices_reverseRangeCmpFunc_api_Path : Func := Go.Proofs.Try.f63
theorem B_slices_reverseRangeCmpFunc_api_Path : PG.funcs[63]? = some D_slices_reverseRangeCmpFunc_api_Path := Go.Proofs.Try.func63
abbrev f_slices_partialInsertionSortCmpFunc_api_Path : Nat := 64
theorem E_slices_partialInsertionSortCmpFunc_api_Path : enterB PG 64 = true := by kernel_rfl
noncomputable abbrev D_slices_partialInsertionSortCmpFunc_api_Path : Func := Go.Proofs.Try.f64
theorem B_slices_partialInsertionSortCmpFunc_api_Path : PG.funcs[64]? = some D_slices_partialInsertionSortCmpFunc_api_Path := Go.Proofs.Try.func64
abbrev f_slices_partitionEqualCmpFunc_api_Path : Nat := 65
theorem E_slices_partitionEqualCmpFunc_api_Path : enterB PG 65 = true := by kernel_rfl
noncomputable abbrev D_slices_partitionEqualCmpFunc_api_Path : Func := Go.Proofs.Try.f65
theorem B_slices_partitionEqualCmpFunc_api_Path : PG.funcs[65]? = some D_slices_partitionEqualCmpFunc_api_Path := Go.Proofs.Try.func65
abbrev f_slices_partitionCmpFunc_api_Path : Nat := 66
theorem E_slices_partitionCmpFunc_api_Path : enterB PG 66 = true := by kernel_rfl
noncomputable abbrev D_slices_partitionCmpFunc_api_Path : Func := Go.Proofs.Try.f66
theorem B_slices_partitionCmpFunc_api_Path : PG.funcs[66]? = some D_slices_partitionCmpFunc_api_Path := Go.Proofs.Try.func66
abbrev f_bits_Len32 : Nat := 67
theorem E_bits_Len32 : enterB PG 67 = true := by kernel_rfl
noncomputable abbrev D_bits_Len32 : Func := Go.Proofs.Try.f67
theorem B_bits_Len32 : PG.funcs[67]? = some D_bits_Len32 := Go.Proofs.Try.func67
abbrev f_bits_Len64 : Nat := 68
theorem E_bits_Len64 : enterB PG 68 = true := by kernel_rfl
noncomputable abbrev D_bits_Len64 : Func := Go.Proofs.Try.f68
theorem B_bits_Len64 : PG.funcs[68]? = some D_bits_Len64 := Go.Proofs.Try.func68
abbrev f_bytes_Compare : Nat := 69
theorem E_bytes_Compare : enterB PG 69 = true := by kernel_rfl
noncomputable abbrev D_bytes_Compare : Func := Go.Proofs.Try.f69
theorem B_bytes_Compare : PG.funcs[69]? = some D_bytes_Compare := Go.Proofs.Try.func69
abbrev f_slices_siftDownCmpFunc_api_Path : Nat := 70
theorem E_slices_siftDownCmpFunc_api_Path : enterB PG 70 = true := by kernel_rfl
noncomputable abbrev D_slices_siftDownCmpFunc_api_Path : Func := Go.Proofs.Try.f70
theorem B_slices_siftDownCmpFunc_api_Path : PG.funcs[70]? = some D_slices_siftDownCmpFunc_api_Path := Go.Proofs.Try.func70
abbrev f_slices_nextPowerOfTwo : Nat := 71
theorem E_slices_nextPowerOfTwo : enterB PG 71 = true := by kernel_rfl
noncomputable abbrev D_slices_nextPowerOfTwo : Func := Go.Proofs.Try.f71
theorem B_slices_nextPowerOfTwo : PG.funcs[71]? = some D_slices_nextPowerOfTwo := Go.Proofs.Try.func71
abbrev f_slices_xorshift_Next : Nat := 72
theorem E_slices_xorshift_Next : enterB PG 72 = true := by kernel_rfl
noncomputable abbrev D_slices_xorshift_Next : Func := Go.Proofs.Try.f72
theorem B_slices_xorshift_Next : PG.funcs[72]? = some D_slices_xorshift_Next := Go.Proofs.Try.func72
abbrev f_slices_medianAdjacentCmpFunc_api_Path : Nat := 73
theorem E_slices_medianAdjacentCmpFunc_api_Path : enterB PG 73 = true := by kernel_rfl
noncomputable abbrev D_slices_medianAdjacentCmpFunc_api_Path : Func := Go.Proofs.Try.f73
theorem B_slices_medianAdjacentCmpFunc_api_Path : PG.funcs[73]? = some D_slices_medianAdjacentCmpFunc_api_Path := Go.Proofs.Try.func73
abbrev f_slices_medianCmpFunc_api_Path : Nat := 74
theorem E_slices_medianCmpFunc_api_Path : enterB PG 74 = true := by kernel_rfl
noncomputable abbrev D_slices_medianCmpFunc_api_Path : Func := Go.Proofs.Try.f74
theorem B_slices_medianCmpFunc_api_Path : PG.funcs[74]? = some D_slices_medianCmpFunc_api_Path := Go.Proofs.Try.func74
abbrev f_bytealg_Compare : Nat := 75
noncomputable abbrev D_bytealg_Compare : Func := Go.Proofs.Try.f75
theorem B_bytealg_Compare : PG.funcs[75]? = some D_bytealg_Compare := Go.Proofs.Try.func75
abbrev f_slices_order2CmpFunc_api_Path : Nat := 76
theorem E_slices_order2CmpFunc_api_Path : enterB PG 76 = true := by kernel_rfl
noncomputable abbrev D_slices_order2CmpFunc_api_Path : Func := Go.Proofs.Try.f76
theorem B_slices_order2CmpFunc_api_Path : PG.funcs[76]? = some D_slices_order2CmpFunc_api_Path := Go.Proofs.Try.func76
end Go.Fx
