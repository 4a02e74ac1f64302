/- The types and functions of this translation by name, made by names.py; facts that the kernel reckons. -/
import Derived.Test.YtfdjdamepaeoiaaProg
import Derived.KernelRfl
import Derived.Test.YtfdjdamepaeoiaaFxS
import Derived.Test.YtfdjdamepaeoiaaFxM
namespace Go.Fx

noncomputable abbrev PG : Program := Go.Proofs.Try.prog
abbrev T_int64 : Nat := 2
theorem A_int64 : isAggB PG 2 = some false := by kernel_rfl
theorem Z_int64 : sizeB PG 2 = some 1 := by kernel_rfl
theorem Y_int64 : bytesB PG 2 = some 8 := by kernel_rfl
theorem I_int64 : intB PG 2 = some .i64 := by kernel_rfl
theorem N_int64 : zeroB PG 2 = some (.int .i64 0) := by kernel_rfl
theorem U_int64 : (PG.underlying 2).isSome = true := by kernel_rfl
abbrev T_int : Nat := 3
theorem A_int : isAggB PG 3 = some false := by kernel_rfl
theorem Z_int : sizeB PG 3 = some 1 := by kernel_rfl
theorem Y_int : bytesB PG 3 = some 8 := by kernel_rfl
theorem I_int : intB PG 3 = some .i64 := by kernel_rfl
theorem N_int : zeroB PG 3 = some (.int .i64 0) := by kernel_rfl
theorem U_int : (PG.underlying 3).isSome = true := by kernel_rfl
abbrev T_bool : Nat := 4
theorem A_bool : isAggB PG 4 = some false := by kernel_rfl
theorem Z_bool : sizeB PG 4 = some 1 := by kernel_rfl
theorem Y_bool : bytesB PG 4 = some 1 := by kernel_rfl
theorem Q_bool : boolB PG 4 = true := by kernel_rfl
theorem N_bool : zeroB PG 4 = some (.bool false) := by kernel_rfl
theorem U_bool : (PG.underlying 4).isSome = true := by kernel_rfl
abbrev T_uint8 : Nat := 5
theorem A_uint8 : isAggB PG 5 = some false := by kernel_rfl
theorem Z_uint8 : sizeB PG 5 = some 1 := by kernel_rfl
theorem Y_uint8 : bytesB PG 5 = some 1 := by kernel_rfl
theorem I_uint8 : intB PG 5 = some .u8 := by kernel_rfl
theorem N_uint8 : zeroB PG 5 = some (.int .u8 0) := by kernel_rfl
theorem U_uint8 : (PG.underlying 5).isSome = true := by kernel_rfl
abbrev T_st7 : Nat := 7
theorem A_st7 : isAggB PG 7 = some true := by kernel_rfl
theorem Z_st7 : sizeB PG 7 = some 4 := by kernel_rfl
theorem Y_st7 : bytesB PG 7 = some 24 := by kernel_rfl
theorem U_st7 : (PG.underlying 7).isSome = true := by kernel_rfl
abbrev T_string : Nat := 9
theorem A_string : isAggB PG 9 = some false := by kernel_rfl
theorem Z_string : sizeB PG 9 = some 1 := by kernel_rfl
theorem Y_string : bytesB PG 9 = some 16 := by kernel_rfl
theorem U_string : (PG.underlying 9).isSome = true := by kernel_rfl
abbrev T_uintptr : Nat := 12
theorem A_uintptr : isAggB PG 12 = some false := by kernel_rfl
theorem Z_uintptr : sizeB PG 12 = some 1 := by kernel_rfl
theorem Y_uintptr : bytesB PG 12 = some 8 := by kernel_rfl
theorem I_uintptr : intB PG 12 = some .u64 := by kernel_rfl
theorem N_uintptr : zeroB PG 12 = some (.int .u64 0) := by kernel_rfl
theorem U_uintptr : (PG.underlying 12).isSome = true := by kernel_rfl
abbrev T_st13 : Nat := 13
theorem A_st13 : isAggB PG 13 = some true := by kernel_rfl
theorem Z_st13 : sizeB PG 13 = some 2 := by kernel_rfl
theorem Y_st13 : bytesB PG 13 = some 24 := by kernel_rfl
theorem U_st13 : (PG.underlying 13).isSome = true := by kernel_rfl
abbrev T_st18 : Nat := 18
theorem A_st18 : isAggB PG 18 = some true := by kernel_rfl
theorem Z_st18 : sizeB PG 18 = some 1 := by kernel_rfl
theorem Y_st18 : bytesB PG 18 = some 8 := by kernel_rfl
theorem U_st18 : (PG.underlying 18).isSome = true := by kernel_rfl
abbrev T_int32 : Nat := 21
theorem A_int32 : isAggB PG 21 = some false := by kernel_rfl
theorem Z_int32 : sizeB PG 21 = some 1 := by kernel_rfl
theorem Y_int32 : bytesB PG 21 = some 4 := by kernel_rfl
theorem I_int32 : intB PG 21 = some .i32 := by kernel_rfl
theorem N_int32 : zeroB PG 21 = some (.int .i32 0) := by kernel_rfl
theorem U_int32 : (PG.underlying 21).isSome = true := by kernel_rfl
abbrev T_ar16_uint8 : Nat := 22
theorem A_ar16_uint8 : isAggB PG 22 = some true := by kernel_rfl
theorem Z_ar16_uint8 : sizeB PG 22 = some 16 := by kernel_rfl
theorem Y_ar16_uint8 : bytesB PG 22 = some 16 := by kernel_rfl
theorem R_ar16_uint8 : arrB PG 22 = some (16, 5) := by kernel_rfl
theorem N_ar16_uint8 : zeroB PG 22 = some (.agg Idn.zero.enc) := by kernel_rfl
theorem U_ar16_uint8 : (PG.underlying 22).isSome = true := by kernel_rfl
abbrev T_api_ID : Nat := 23
theorem A_api_ID : isAggB PG 23 = some true := by kernel_rfl
theorem Z_api_ID : sizeB PG 23 = some 16 := by kernel_rfl
theorem Y_api_ID : bytesB PG 23 = some 16 := by kernel_rfl
theorem R_api_ID : arrB PG 23 = some (16, 5) := by kernel_rfl
theorem N_api_ID : zeroB PG 23 = some (.agg Idn.zero.enc) := by kernel_rfl
theorem U_api_ID : (PG.underlying 23).isSome = true := by kernel_rfl
abbrev T_sl_api_Near : Nat := 24
theorem A_sl_api_Near : isAggB PG 24 = some false := by kernel_rfl
theorem Z_sl_api_Near : sizeB PG 24 = some 1 := by kernel_rfl
theorem Y_sl_api_Near : bytesB PG 24 = some 24 := by kernel_rfl
theorem L_sl_api_Near : elemB PG 24 = some 31 := by kernel_rfl
theorem N_sl_api_Near : zeroB PG 24 = some (.slice none 0 0) := by kernel_rfl
theorem U_sl_api_Near : (PG.underlying 24).isSome = true := by kernel_rfl
abbrev T_sl_api_Entry : Nat := 25
theorem A_sl_api_Entry : isAggB PG 25 = some false := by kernel_rfl
theorem Z_sl_api_Entry : sizeB PG 25 = some 1 := by kernel_rfl
theorem Y_sl_api_Entry : bytesB PG 25 = some 24 := by kernel_rfl
theorem L_sl_api_Entry : elemB PG 25 = some 35 := by kernel_rfl
theorem N_sl_api_Entry : zeroB PG 25 = some (.slice none 0 0) := by kernel_rfl
theorem U_sl_api_Entry : (PG.underlying 25).isSome = true := by kernel_rfl
abbrev T_st26 : Nat := 26
theorem A_st26 : isAggB PG 26 = some true := by kernel_rfl
theorem Z_st26 : sizeB PG 26 = some 18 := by kernel_rfl
theorem Y_st26 : bytesB PG 26 = some 64 := by kernel_rfl
theorem U_st26 : (PG.underlying 26).isSome = true := by kernel_rfl
abbrev T_annuletlaw13_Place : Nat := 27
theorem A_annuletlaw13_Place : isAggB PG 27 = some true := by kernel_rfl
theorem Z_annuletlaw13_Place : sizeB PG 27 = some 18 := by kernel_rfl
theorem Y_annuletlaw13_Place : bytesB PG 27 = some 64 := by kernel_rfl
theorem F_annuletlaw13_Place_Self : fieldB PG 27 0 = some (0, 23) := by kernel_rfl
theorem F_annuletlaw13_Place_Nears : fieldB PG 27 1 = some (16, 24) := by kernel_rfl
theorem F_annuletlaw13_Place_Entries : fieldB PG 27 2 = some (17, 25) := by kernel_rfl
theorem W_annuletlaw13_Place (w : World) : placesR PG 27 w = .ok #[(0, 16), (16, 1), (17, 1)] w := by kernel_rfl
theorem N_annuletlaw13_Place : zeroB PG 27 = some (.agg annuletlaw13_Place.zero.enc) := by kernel_rfl
theorem U_annuletlaw13_Place : (PG.underlying 27).isSome = true := by kernel_rfl
abbrev T_st30 : Nat := 30
theorem A_st30 : isAggB PG 30 = some true := by kernel_rfl
theorem Z_st30 : sizeB PG 30 = some 17 := by kernel_rfl
theorem Y_st30 : bytesB PG 30 = some 24 := by kernel_rfl
theorem U_st30 : (PG.underlying 30).isSome = true := by kernel_rfl
abbrev T_api_Near : Nat := 31
theorem A_api_Near : isAggB PG 31 = some true := by kernel_rfl
theorem Z_api_Near : sizeB PG 31 = some 17 := by kernel_rfl
theorem Y_api_Near : bytesB PG 31 = some 24 := by kernel_rfl
theorem F_api_Near_N : fieldB PG 31 0 = some (0, 3) := by kernel_rfl
theorem F_api_Near_ID : fieldB PG 31 1 = some (1, 23) := by kernel_rfl
theorem W_api_Near (w : World) : placesR PG 31 w = .ok #[(0, 1), (1, 16)] w := by kernel_rfl
theorem N_api_Near : zeroB PG 31 = some (.agg api_Near.zero.enc) := by kernel_rfl
theorem U_api_Near : (PG.underlying 31).isSome = true := by kernel_rfl
abbrev T_st32 : Nat := 32
theorem A_st32 : isAggB PG 32 = some true := by kernel_rfl
theorem Z_st32 : sizeB PG 32 = some 17 := by kernel_rfl
theorem Y_st32 : bytesB PG 32 = some 24 := by kernel_rfl
theorem U_st32 : (PG.underlying 32).isSome = true := by kernel_rfl
abbrev T_api_Path : Nat := 33
theorem A_api_Path : isAggB PG 33 = some true := by kernel_rfl
theorem Z_api_Path : sizeB PG 33 = some 17 := by kernel_rfl
theorem Y_api_Path : bytesB PG 33 = some 24 := by kernel_rfl
theorem F_api_Path_Who : fieldB PG 33 0 = some (0, 23) := by kernel_rfl
theorem F_api_Path_N : fieldB PG 33 1 = some (16, 2) := by kernel_rfl
theorem W_api_Path (w : World) : placesR PG 33 w = .ok #[(0, 16), (16, 1)] w := by kernel_rfl
theorem N_api_Path : zeroB PG 33 = some (.agg api_Path.zero.enc) := by kernel_rfl
theorem U_api_Path : (PG.underlying 33).isSome = true := by kernel_rfl
abbrev T_st34 : Nat := 34
theorem A_st34 : isAggB PG 34 = some true := by kernel_rfl
theorem Z_st34 : sizeB PG 34 = some 51 := by kernel_rfl
theorem Y_st34 : bytesB PG 34 = some 72 := by kernel_rfl
theorem U_st34 : (PG.underlying 34).isSome = true := by kernel_rfl
abbrev T_api_Entry : Nat := 35
theorem A_api_Entry : isAggB PG 35 = some true := by kernel_rfl
theorem Z_api_Entry : sizeB PG 35 = some 51 := by kernel_rfl
theorem Y_api_Entry : bytesB PG 35 = some 72 := by kernel_rfl
theorem F_api_Entry_P : fieldB PG 35 0 = some (0, 33) := by kernel_rfl
theorem F_api_Entry_A : fieldB PG 35 1 = some (17, 23) := by kernel_rfl
theorem F_api_Entry_B : fieldB PG 35 2 = some (33, 23) := by kernel_rfl
theorem F_api_Entry_Na : fieldB PG 35 3 = some (49, 3) := by kernel_rfl
theorem F_api_Entry_Nb : fieldB PG 35 4 = some (50, 3) := by kernel_rfl
theorem W_api_Entry (w : World) : placesR PG 35 w = .ok #[(0, 17), (17, 16), (33, 16), (49, 1), (50, 1)] w := by kernel_rfl
theorem N_api_Entry : zeroB PG 35 = some (.agg api_Entry.zero.enc) := by kernel_rfl
theorem U_api_Entry : (PG.underlying 35).isSome = true := by kernel_rfl
abbrev T_pt_table_Table : Nat := 36
theorem A_pt_table_Table : isAggB PG 36 = some false := by kernel_rfl
theorem Z_pt_table_Table : sizeB PG 36 = some 1 := by kernel_rfl
theorem Y_pt_table_Table : bytesB PG 36 = some 8 := by kernel_rfl
theorem P_pt_table_Table : ptrB PG 36 = true := by kernel_rfl
theorem N_pt_table_Table : zeroB PG 36 = some (.pointer none) := by kernel_rfl
theorem U_pt_table_Table : (PG.underlying 36).isSome = true := by kernel_rfl
abbrev T_st39 : Nat := 39
theorem A_st39 : isAggB PG 39 = some true := by kernel_rfl
theorem Z_st39 : sizeB PG 39 = some 35 := by kernel_rfl
theorem Y_st39 : bytesB PG 39 = some 56 := by kernel_rfl
theorem U_st39 : (PG.underlying 39).isSome = true := by kernel_rfl
abbrev T_route_Choice : Nat := 40
theorem A_route_Choice : isAggB PG 40 = some true := by kernel_rfl
theorem Z_route_Choice : sizeB PG 40 = some 35 := by kernel_rfl
theorem Y_route_Choice : bytesB PG 40 = some 56 := by kernel_rfl
theorem F_route_Choice_ID : fieldB PG 40 0 = some (0, 23) := by kernel_rfl
theorem F_route_Choice_Near : fieldB PG 40 1 = some (16, 4) := by kernel_rfl
theorem F_route_Choice_P : fieldB PG 40 2 = some (17, 33) := by kernel_rfl
theorem F_route_Choice_N : fieldB PG 40 3 = some (34, 3) := by kernel_rfl
theorem W_route_Choice (w : World) : placesR PG 40 w = .ok #[(0, 16), (16, 1), (17, 17), (34, 1)] w := by kernel_rfl
theorem N_route_Choice : zeroB PG 40 = some (.agg route_Choice.zero.enc) := by kernel_rfl
theorem U_route_Choice : (PG.underlying 40).isSome = true := by kernel_rfl
abbrev T_pt_annuletref12_Table : Nat := 48
theorem A_pt_annuletref12_Table : isAggB PG 48 = some false := by kernel_rfl
theorem Z_pt_annuletref12_Table : sizeB PG 48 = some 1 := by kernel_rfl
theorem Y_pt_annuletref12_Table : bytesB PG 48 = some 8 := by kernel_rfl
theorem P_pt_annuletref12_Table : ptrB PG 48 = true := by kernel_rfl
theorem N_pt_annuletref12_Table : zeroB PG 48 = some (.pointer none) := by kernel_rfl
theorem U_pt_annuletref12_Table : (PG.underlying 48).isSome = true := by kernel_rfl
abbrev T_api_Errno : Nat := 50
theorem A_api_Errno : isAggB PG 50 = some false := by kernel_rfl
theorem Z_api_Errno : sizeB PG 50 = some 1 := by kernel_rfl
theorem Y_api_Errno : bytesB PG 50 = some 8 := by kernel_rfl
theorem I_api_Errno : intB PG 50 = some .i64 := by kernel_rfl
theorem N_api_Errno : zeroB PG 50 = some (.int .i64 0) := by kernel_rfl
theorem U_api_Errno : (PG.underlying 50).isSome = true := by kernel_rfl
abbrev T_st52 : Nat := 52
theorem A_st52 : isAggB PG 52 = some true := by kernel_rfl
theorem Z_st52 : sizeB PG 52 = some 2 := by kernel_rfl
theorem Y_st52 : bytesB PG 52 = some 32 := by kernel_rfl
theorem U_st52 : (PG.underlying 52).isSome = true := by kernel_rfl
abbrev T_annuletref12_Table : Nat := 53
theorem A_annuletref12_Table : isAggB PG 53 = some true := by kernel_rfl
theorem Z_annuletref12_Table : sizeB PG 53 = some 2 := by kernel_rfl
theorem Y_annuletref12_Table : bytesB PG 53 = some 32 := by kernel_rfl
theorem F_annuletref12_Table_L : fieldB PG 53 0 = some (0, 25) := by kernel_rfl
theorem F_annuletref12_Table_Most : fieldB PG 53 1 = some (1, 3) := by kernel_rfl
theorem W_annuletref12_Table (w : World) : placesR PG 53 w = .ok #[(0, 1), (1, 1)] w := by kernel_rfl
theorem N_annuletref12_Table : zeroB PG 53 = some (.agg annuletref12_Table.zero.enc) := by kernel_rfl
theorem U_annuletref12_Table : (PG.underlying 53).isSome = true := by kernel_rfl
abbrev T_sl_route_Choice : Nat := 54
theorem A_sl_route_Choice : isAggB PG 54 = some false := by kernel_rfl
theorem Z_sl_route_Choice : sizeB PG 54 = some 1 := by kernel_rfl
theorem Y_sl_route_Choice : bytesB PG 54 = some 24 := by kernel_rfl
theorem L_sl_route_Choice : elemB PG 54 = some 40 := by kernel_rfl
theorem N_sl_route_Choice : zeroB PG 54 = some (.slice none 0 0) := by kernel_rfl
theorem U_sl_route_Choice : (PG.underlying 54).isSome = true := by kernel_rfl
abbrev T_map_api_Path_api_Entry : Nat := 58
theorem A_map_api_Path_api_Entry : isAggB PG 58 = some false := by kernel_rfl
theorem Z_map_api_Path_api_Entry : sizeB PG 58 = some 1 := by kernel_rfl
theorem Y_map_api_Path_api_Entry : bytesB PG 58 = some 8 := by kernel_rfl
theorem M_map_api_Path_api_Entry : mapB PG 58 = some (33, 35) := by kernel_rfl
theorem N_map_api_Path_api_Entry : zeroB PG 58 = some (.map none) := by kernel_rfl
theorem U_map_api_Path_api_Entry : (PG.underlying 58).isSome = true := by kernel_rfl
abbrev T_st59 : Nat := 59
theorem A_st59 : isAggB PG 59 = some true := by kernel_rfl
theorem Z_st59 : sizeB PG 59 = some 2 := by kernel_rfl
theorem Y_st59 : bytesB PG 59 = some 16 := by kernel_rfl
theorem U_st59 : (PG.underlying 59).isSome = true := by kernel_rfl
abbrev T_table_Table : Nat := 60
theorem A_table_Table : isAggB PG 60 = some true := by kernel_rfl
theorem Z_table_Table : sizeB PG 60 = some 2 := by kernel_rfl
theorem Y_table_Table : bytesB PG 60 = some 16 := by kernel_rfl
theorem F_table_Table_most : fieldB PG 60 0 = some (0, 3) := by kernel_rfl
theorem F_table_Table_m : fieldB PG 60 1 = some (1, 58) := by kernel_rfl
theorem W_table_Table (w : World) : placesR PG 60 w = .ok #[(0, 1), (1, 1)] w := by kernel_rfl
theorem N_table_Table : zeroB PG 60 = some (.agg table_Table.zero.enc) := by kernel_rfl
theorem U_table_Table : (PG.underlying 60).isSome = true := by kernel_rfl
abbrev T_uint64 : Nat := 62
theorem A_uint64 : isAggB PG 62 = some false := by kernel_rfl
theorem Z_uint64 : sizeB PG 62 = some 1 := by kernel_rfl
theorem Y_uint64 : bytesB PG 62 = some 8 := by kernel_rfl
theorem I_uint64 : intB PG 62 = some .u64 := by kernel_rfl
theorem N_uint64 : zeroB PG 62 = some (.int .u64 0) := by kernel_rfl
theorem U_uint64 : (PG.underlying 62).isSome = true := by kernel_rfl
abbrev T_sl_api_Path : Nat := 75
theorem A_sl_api_Path : isAggB PG 75 = some false := by kernel_rfl
theorem Z_sl_api_Path : sizeB PG 75 = some 1 := by kernel_rfl
theorem Y_sl_api_Path : bytesB PG 75 = some 24 := by kernel_rfl
theorem L_sl_api_Path : elemB PG 75 = some 33 := by kernel_rfl
theorem N_sl_api_Path : zeroB PG 75 = some (.slice none 0 0) := by kernel_rfl
theorem U_sl_api_Path : (PG.underlying 75).isSome = true := by kernel_rfl
abbrev T_iter_Seq_api_Path : Nat := 78
theorem A_iter_Seq_api_Path : isAggB PG 78 = some false := by kernel_rfl
theorem Z_iter_Seq_api_Path : sizeB PG 78 = some 1 := by kernel_rfl
theorem Y_iter_Seq_api_Path : bytesB PG 78 = some 8 := by kernel_rfl
theorem U_iter_Seq_api_Path : (PG.underlying 78).isSome = true := by kernel_rfl
abbrev T_sl_uint8 : Nat := 82
theorem A_sl_uint8 : isAggB PG 82 = some false := by kernel_rfl
theorem Z_sl_uint8 : sizeB PG 82 = some 1 := by kernel_rfl
theorem Y_sl_uint8 : bytesB PG 82 = some 24 := by kernel_rfl
theorem L_sl_uint8 : elemB PG 82 = some 5 := by kernel_rfl
theorem N_sl_uint8 : zeroB PG 82 = some (.slice none 0 0) := by kernel_rfl
theorem U_sl_uint8 : (PG.underlying 82).isSome = true := by kernel_rfl
abbrev T_uint : Nat := 88
theorem A_uint : isAggB PG 88 = some false := by kernel_rfl
theorem Z_uint : sizeB PG 88 = some 1 := by kernel_rfl
theorem Y_uint : bytesB PG 88 = some 8 := by kernel_rfl
theorem I_uint : intB PG 88 = some .u64 := by kernel_rfl
theorem N_uint : zeroB PG 88 = some (.int .u64 0) := by kernel_rfl
theorem U_uint : (PG.underlying 88).isSome = true := by kernel_rfl
abbrev T_slices_sortedHint : Nat := 90
theorem A_slices_sortedHint : isAggB PG 90 = some false := by kernel_rfl
theorem Z_slices_sortedHint : sizeB PG 90 = some 1 := by kernel_rfl
theorem Y_slices_sortedHint : bytesB PG 90 = some 8 := by kernel_rfl
theorem I_slices_sortedHint : intB PG 90 = some .i64 := by kernel_rfl
theorem N_slices_sortedHint : zeroB PG 90 = some (.int .i64 0) := by kernel_rfl
theorem U_slices_sortedHint : (PG.underlying 90).isSome = true := by kernel_rfl
abbrev T_uint32 : Nat := 98
theorem A_uint32 : isAggB PG 98 = some false := by kernel_rfl
theorem Z_uint32 : sizeB PG 98 = some 1 := by kernel_rfl
theorem Y_uint32 : bytesB PG 98 = some 4 := by kernel_rfl
theorem I_uint32 : intB PG 98 = some .u32 := by kernel_rfl
theorem N_uint32 : zeroB PG 98 = some (.int .u32 0) := by kernel_rfl
theorem U_uint32 : (PG.underlying 98).isSome = true := by kernel_rfl
abbrev T_slices_xorshift : Nat := 100
theorem A_slices_xorshift : isAggB PG 100 = some false := by kernel_rfl
theorem Z_slices_xorshift : sizeB PG 100 = some 1 := by kernel_rfl
theorem Y_slices_xorshift : bytesB PG 100 = some 8 := by kernel_rfl
theorem I_slices_xorshift : intB PG 100 = some .u64 := by kernel_rfl
theorem N_slices_xorshift : zeroB PG 100 = some (.int .u64 0) := by kernel_rfl
theorem U_slices_xorshift : (PG.underlying 100).isSome = true := by kernel_rfl
abbrev T_pt_x3 : Nat := 104
theorem A_pt_x3 : isAggB PG 104 = some false := by kernel_rfl
theorem Z_pt_x3 : sizeB PG 104 = some 1 := by kernel_rfl
theorem Y_pt_x3 : bytesB PG 104 = some 8 := by kernel_rfl
theorem P_pt_x3 : ptrB PG 104 = true := by kernel_rfl
theorem N_pt_x3 : zeroB PG 104 = some (.pointer none) := by kernel_rfl
theorem U_pt_x3 : (PG.underlying 104).isSome = true := by kernel_rfl
abbrev T_pt_slices_xorshift : Nat := 106
theorem A_pt_slices_xorshift : isAggB PG 106 = some false := by kernel_rfl
theorem Z_pt_slices_xorshift : sizeB PG 106 = some 1 := by kernel_rfl
theorem Y_pt_slices_xorshift : bytesB PG 106 = some 8 := by kernel_rfl
theorem P_pt_slices_xorshift : ptrB PG 106 = true := by kernel_rfl
theorem N_pt_slices_xorshift : zeroB PG 106 = some (.pointer none) := by kernel_rfl
theorem U_pt_slices_xorshift : (PG.underlying 106).isSome = true := by kernel_rfl
abbrev T_st110 : Nat := 110
theorem A_st110 : isAggB PG 110 = some true := by kernel_rfl
theorem Z_st110 : sizeB PG 110 = some 4 := by kernel_rfl
theorem Y_st110 : bytesB PG 110 = some 40 := by kernel_rfl
theorem U_st110 : (PG.underlying 110).isSome = true := by kernel_rfl
abbrev T_st113 : Nat := 113
theorem A_st113 : isAggB PG 113 = some true := by kernel_rfl
theorem Z_st113 : sizeB PG 113 = some 0 := by kernel_rfl
theorem Y_st113 : bytesB PG 113 = some 0 := by kernel_rfl
theorem U_st113 : (PG.underlying 113).isSome = true := by kernel_rfl
abbrev T_pt_x5 : Nat := 118
theorem A_pt_x5 : isAggB PG 118 = some false := by kernel_rfl
theorem Z_pt_x5 : sizeB PG 118 = some 1 := by kernel_rfl
theorem Y_pt_x5 : bytesB PG 118 = some 8 := by kernel_rfl
theorem P_pt_x5 : ptrB PG 118 = true := by kernel_rfl
theorem N_pt_x5 : zeroB PG 118 = some (.pointer none) := by kernel_rfl
theorem U_pt_x5 : (PG.underlying 118).isSome = true := by kernel_rfl
abbrev T_st121 : Nat := 121
theorem A_st121 : isAggB PG 121 = some true := by kernel_rfl
theorem Z_st121 : sizeB PG 121 = some 11 := by kernel_rfl
theorem Y_st121 : bytesB PG 121 = some 48 := by kernel_rfl
theorem U_st121 : (PG.underlying 121).isSome = true := by kernel_rfl
theorem G_ar16_uint8 : PG.eqGuardType PG.depth 22 = false := by kernel_rfl
theorem EQ_ar16_uint8 (x y : Idn) : EqV PG 2 22 (.agg x.enc) (.agg y.enc) (decide (x = y)) := .idn R_ar16_uint8 I_uint8 A_uint8 Z_uint8 x y
theorem G_api_ID : PG.eqGuardType PG.depth 23 = false := by kernel_rfl
theorem EQ_api_ID (x y : Idn) : EqV PG 2 23 (.agg x.enc) (.agg y.enc) (decide (x = y)) := .idn R_api_ID I_uint8 A_uint8 Z_uint8 x y
theorem G_api_Near : PG.eqGuardType PG.depth 31 = false := by kernel_rfl
theorem V_api_Near : fieldsB PG 31 = some [(0, 3), (1, 23)] := by kernel_rfl
theorem EQ_api_Near (x y : api_Near) : EqV PG 3 31 (.agg x.enc) (.agg y.enc) (decide (x = y)) := by
  have h : EqV PG 3 31 (.agg x.enc) (.agg y.enc) _ := .str V_api_Near (.one A_int (api_Near.g_N x) (api_Near.g_N y) ((EqV.int I_int _ _).up (by decide)) (.agg A_api_ID Z_api_ID (api_Near.s_ID x) (api_Near.s_ID y) ((EQ_api_ID _ _).up (by decide)) (.nil)))
  have e : decide (x = y) = (decide (x.N = y.N) && (decide (x.ID = y.ID) && true)) := by rw [Bool.eq_iff_iff]; cases x; cases y; simp
  rw [e]; exact h
theorem G_api_Path : PG.eqGuardType PG.depth 33 = false := by kernel_rfl
theorem V_api_Path : fieldsB PG 33 = some [(0, 23), (16, 2)] := by kernel_rfl
theorem EQ_api_Path (x y : api_Path) : EqV PG 3 33 (.agg x.enc) (.agg y.enc) (decide (x = y)) := by
  have h : EqV PG 3 33 (.agg x.enc) (.agg y.enc) _ := .str V_api_Path (.agg A_api_ID Z_api_ID (api_Path.s_Who x) (api_Path.s_Who y) ((EQ_api_ID _ _).up (by decide)) (.one A_int64 (api_Path.g_N x) (api_Path.g_N y) ((EqV.int I_int64 _ _).up (by decide)) (.nil)))
  have e : decide (x = y) = (decide (x.Who = y.Who) && (decide (x.N = y.N) && true)) := by rw [Bool.eq_iff_iff]; cases x; cases y; simp
  rw [e]; exact h
theorem G_api_Entry : PG.eqGuardType PG.depth 35 = false := by kernel_rfl
theorem V_api_Entry : fieldsB PG 35 = some [(0, 33), (17, 23), (33, 23), (49, 3), (50, 3)] := by kernel_rfl
theorem EQ_api_Entry (x y : api_Entry) : EqV PG 4 35 (.agg x.enc) (.agg y.enc) (decide (x = y)) := by
  have h : EqV PG 4 35 (.agg x.enc) (.agg y.enc) _ := .str V_api_Entry (.agg A_api_Path Z_api_Path (api_Entry.s_P x) (api_Entry.s_P y) ((EQ_api_Path _ _).up (by decide)) (.agg A_api_ID Z_api_ID (api_Entry.s_A x) (api_Entry.s_A y) ((EQ_api_ID _ _).up (by decide)) (.agg A_api_ID Z_api_ID (api_Entry.s_B x) (api_Entry.s_B y) ((EQ_api_ID _ _).up (by decide)) (.one A_int (api_Entry.g_Na x) (api_Entry.g_Na y) ((EqV.int I_int _ _).up (by decide)) (.one A_int (api_Entry.g_Nb x) (api_Entry.g_Nb y) ((EqV.int I_int _ _).up (by decide)) (.nil))))))
  have e : decide (x = y) = (decide (x.P = y.P) && (decide (x.A = y.A) && (decide (x.B = y.B) && (decide (x.Na = y.Na) && (decide (x.Nb = y.Nb) && true))))) := by rw [Bool.eq_iff_iff]; cases x; cases y; simp
  rw [e]; exact h
theorem G_route_Choice : PG.eqGuardType PG.depth 40 = false := by kernel_rfl
theorem V_route_Choice : fieldsB PG 40 = some [(0, 23), (16, 4), (17, 33), (34, 3)] := by kernel_rfl
theorem EQ_route_Choice (x y : route_Choice) : EqV PG 4 40 (.agg x.enc) (.agg y.enc) (decide (x = y)) := by
  have h : EqV PG 4 40 (.agg x.enc) (.agg y.enc) _ := .str V_route_Choice (.agg A_api_ID Z_api_ID (route_Choice.s_ID x) (route_Choice.s_ID y) ((EQ_api_ID _ _).up (by decide)) (.one A_bool (route_Choice.g_Near x) (route_Choice.g_Near y) ((EqV.bool Q_bool _ _).up (by decide)) (.agg A_api_Path Z_api_Path (route_Choice.s_P x) (route_Choice.s_P y) ((EQ_api_Path _ _).up (by decide)) (.one A_int (route_Choice.g_N x) (route_Choice.g_N y) ((EqV.int I_int _ _).up (by decide)) (.nil)))))
  have e : decide (x = y) = (decide (x.ID = y.ID) && (decide (x.Near = y.Near) && (decide (x.P = y.P) && (decide (x.N = y.N) && true)))) := by rw [Bool.eq_iff_iff]; cases x; cases y; simp
  rw [e]; exact h
theorem KO_api_Path : KeyOk PG 33 (fun x : api_Path => Value.agg x.enc) where
  ck := ⟨3, by decide, fun x => (CkV.str (k := 2) V_api_Path (.agg A_api_ID Z_api_ID (api_Path.s_Who _) (CkV.up (CkV.idn R_api_ID I_uint8 A_uint8 Z_uint8 _) (by decide)) (.one A_int64 (api_Path.g_N _) ((CkV.int I_int64 _).up (by decide)) (.nil))))⟩
  eq := ⟨3, by decide, fun x y => EQ_api_Path x y⟩
  now := fun dd hd x v => by
    have h := Option.some.inj (hd.symm.trans Go.Proofs.Try.underlying33)
    subst h
    rfl
  bits := fun x => sameBits_agg x.pl
abbrev f_annuletlaw13_RouteTurned : Nat := 3
theorem E_annuletlaw13_RouteTurned : enterB PG 3 = true := by kernel_rfl
noncomputable abbrev D_annuletlaw13_RouteTurned : Func := Go.Proofs.Try.f3
theorem B_annuletlaw13_RouteTurned : PG.funcs[3]? = some D_annuletlaw13_RouteTurned := Go.Proofs.Try.func3
abbrev f_annuletlaw13_RouteMore : Nat := 4
theorem E_annuletlaw13_RouteMore : enterB PG 4 = true := by kernel_rfl
noncomputable abbrev D_annuletlaw13_RouteMore : Func := Go.Proofs.Try.f4
theorem B_annuletlaw13_RouteMore : PG.funcs[4]? = some D_annuletlaw13_RouteMore := Go.Proofs.Try.func4
abbrev f_annuletlaw13_RouteTurned_f1 : Nat := 5
theorem E_annuletlaw13_RouteTurned_f1 : enterB PG 5 = true := by kernel_rfl
noncomputable abbrev D_annuletlaw13_RouteTurned_f1 : Func := Go.Proofs.Try.f5
theorem B_annuletlaw13_RouteTurned_f1 : PG.funcs[5]? = some D_annuletlaw13_RouteTurned_f1 := Go.Proofs.Try.func5
abbrev f_annuletref01_Add : Nat := 6
theorem E_annuletref01_Add : enterB PG 6 = true := by kernel_rfl
noncomputable abbrev D_annuletref01_Add : Func := Go.Proofs.Try.f6
theorem B_annuletref01_Add : PG.funcs[6]? = some D_annuletref01_Add := Go.Proofs.Try.func6
abbrev f_annuletlaw13_laid : Nat := 7
theorem E_annuletlaw13_laid : enterB PG 7 = true := by kernel_rfl
noncomputable abbrev D_annuletlaw13_laid : Func := Go.Proofs.Try.f7
theorem B_annuletlaw13_laid : PG.funcs[7]? = some D_annuletlaw13_laid := Go.Proofs.Try.func7
abbrev f_route_Choose : Nat := 8
theorem E_route_Choose : enterB PG 8 = true := by kernel_rfl
noncomputable abbrev D_route_Choose : Func := Go.Proofs.Try.f8
theorem B_route_Choose : PG.funcs[8]? = some D_route_Choose := Go.Proofs.Try.func8
abbrev f_annuletlaw13_fixed : Nat := 9
theorem E_annuletlaw13_fixed : enterB PG 9 = true := by kernel_rfl
noncomputable abbrev D_annuletlaw13_fixed : Func := Go.Proofs.Try.f9
theorem B_annuletlaw13_fixed : PG.funcs[9]? = some D_annuletlaw13_fixed := Go.Proofs.Try.func9
abbrev f_table_Table_Len : Nat := 10
theorem E_table_Table_Len : enterB PG 10 = true := by kernel_rfl
noncomputable abbrev D_table_Table_Len : Func := Go.Proofs.Try.f10
theorem B_table_Table_Len : PG.funcs[10]? = some D_table_Table_Len := Go.Proofs.Try.func10
abbrev f_annuletref01_Nearer : Nat := 11
theorem E_annuletref01_Nearer : enterB PG 11 = true := by kernel_rfl
noncomputable abbrev D_annuletref01_Nearer : Func := Go.Proofs.Try.f11
theorem B_annuletref01_Nearer : PG.funcs[11]? = some D_annuletref01_Nearer := Go.Proofs.Try.func11
abbrev f_annuletref01_Sub : Nat := 12
theorem E_annuletref01_Sub : enterB PG 12 = true := by kernel_rfl
noncomputable abbrev D_annuletref01_Sub : Func := Go.Proofs.Try.f12
theorem B_annuletref01_Sub : PG.funcs[12]? = some D_annuletref01_Sub := Go.Proofs.Try.func12
abbrev f_table_New : Nat := 13
theorem E_table_New : enterB PG 13 = true := by kernel_rfl
noncomputable abbrev D_table_New : Func := Go.Proofs.Try.f13
theorem B_table_New : PG.funcs[13]? = some D_table_New := Go.Proofs.Try.func13
abbrev f_annuletref12_New : Nat := 14
theorem E_annuletref12_New : enterB PG 14 = true := by kernel_rfl
noncomputable abbrev D_annuletref12_New : Func := Go.Proofs.Try.f14
theorem B_annuletref12_New : PG.funcs[14]? = some D_annuletref12_New := Go.Proofs.Try.func14
abbrev f_table_Table_Add : Nat := 15
theorem E_table_Table_Add : enterB PG 15 = true := by kernel_rfl
noncomputable abbrev D_table_Table_Add : Func := Go.Proofs.Try.f15
theorem B_table_Table_Add : PG.funcs[15]? = some D_table_Table_Add := Go.Proofs.Try.func15
abbrev f_annuletref12_Table_Add : Nat := 16
theorem E_annuletref12_Table_Add : enterB PG 16 = true := by kernel_rfl
noncomputable abbrev D_annuletref12_Table_Add : Func := Go.Proofs.Try.f16
theorem B_annuletref12_Table_Add : PG.funcs[16]? = some D_annuletref12_Table_Add := Go.Proofs.Try.func16
abbrev f_route_Known : Nat := 17
theorem E_route_Known : enterB PG 17 = true := by kernel_rfl
noncomputable abbrev D_route_Known : Func := Go.Proofs.Try.f17
theorem B_route_Known : PG.funcs[17]? = some D_route_Known := Go.Proofs.Try.func17
abbrev f_route_Before : Nat := 18
theorem E_route_Before : enterB PG 18 = true := by kernel_rfl
noncomputable abbrev D_route_Before : Func := Go.Proofs.Try.f18
theorem B_route_Before : PG.funcs[18]? = some D_route_Before := Go.Proofs.Try.func18
abbrev f_annuletlaw13_n : Nat := 19
theorem E_annuletlaw13_n : enterB PG 19 = true := by kernel_rfl
noncomputable abbrev D_annuletlaw13_n : Func := Go.Proofs.Try.f19
theorem B_annuletlaw13_n : PG.funcs[19]? = some D_annuletlaw13_n := Go.Proofs.Try.func19
abbrev f_annuletref01_Far : Nat := 20
theorem E_annuletref01_Far : enterB PG 20 = true := by kernel_rfl
noncomputable abbrev D_annuletref01_Far : Func := Go.Proofs.Try.f20
theorem B_annuletref01_Far : PG.funcs[20]? = some D_annuletref01_Far := Go.Proofs.Try.func20
abbrev f_annuletref01_Less : Nat := 21
theorem E_annuletref01_Less : enterB PG 21 = true := by kernel_rfl
noncomputable abbrev D_annuletref01_Less : Func := Go.Proofs.Try.f21
theorem B_annuletref01_Less : PG.funcs[21]? = some D_annuletref01_Less := Go.Proofs.Try.func21
abbrev f_annuletref01_Wide : Nat := 22
theorem E_annuletref01_Wide : enterB PG 22 = true := by kernel_rfl
noncomputable abbrev D_annuletref01_Wide : Func := Go.Proofs.Try.f22
theorem B_annuletref01_Wide : PG.funcs[22]? = some D_annuletref01_Wide := Go.Proofs.Try.func22
abbrev f_annuletref01_ID : Nat := 23
theorem E_annuletref01_ID : enterB PG 23 = true := by kernel_rfl
noncomputable abbrev D_annuletref01_ID : Func := Go.Proofs.Try.f23
theorem B_annuletref01_ID : PG.funcs[23]? = some D_annuletref01_ID := Go.Proofs.Try.func23
abbrev f_table_Right : Nat := 24
theorem E_table_Right : enterB PG 24 = true := by kernel_rfl
noncomputable abbrev D_table_Right : Func := Go.Proofs.Try.f24
theorem B_table_Right : PG.funcs[24]? = some D_table_Right := Go.Proofs.Try.func24
abbrev f_table_Table_has : Nat := 25
theorem E_table_Table_has : enterB PG 25 = true := by kernel_rfl
noncomputable abbrev D_table_Table_has : Func := Go.Proofs.Try.f25
theorem B_table_Table_has : PG.funcs[25]? = some D_table_Table_has := Go.Proofs.Try.func25
abbrev f_annuletref12_Right : Nat := 26
theorem E_annuletref12_Right : enterB PG 26 = true := by kernel_rfl
noncomputable abbrev D_annuletref12_Right : Func := Go.Proofs.Try.f26
theorem B_annuletref12_Right : PG.funcs[26]? = some D_annuletref12_Right := Go.Proofs.Try.func26
abbrev f_annuletref12_Table_Get : Nat := 27
theorem E_annuletref12_Table_Get : enterB PG 27 = true := by kernel_rfl
noncomputable abbrev D_annuletref12_Table_Get : Func := Go.Proofs.Try.f27
theorem B_annuletref12_Table_Get : PG.funcs[27]? = some D_annuletref12_Table_Get := Go.Proofs.Try.func27
abbrev f_annuletref12_Less : Nat := 28
theorem E_annuletref12_Less : enterB PG 28 = true := by kernel_rfl
noncomputable abbrev D_annuletref12_Less : Func := Go.Proofs.Try.f28
theorem B_annuletref12_Less : PG.funcs[28]? = some D_annuletref12_Less := Go.Proofs.Try.func28
abbrev f_table_Table_All : Nat := 29
theorem E_table_Table_All : enterB PG 29 = true := by kernel_rfl
noncomputable abbrev D_table_Table_All : Func := Go.Proofs.Try.f29
theorem B_table_Table_All : PG.funcs[29]? = some D_table_Table_All := Go.Proofs.Try.func29
abbrev f_ident_Nearer : Nat := 30
theorem E_ident_Nearer : enterB PG 30 = true := by kernel_rfl
noncomputable abbrev D_ident_Nearer : Func := Go.Proofs.Try.f30
theorem B_ident_Nearer : PG.funcs[30]? = some D_ident_Nearer := Go.Proofs.Try.func30
abbrev f_table_Less : Nat := 31
theorem E_table_Less : enterB PG 31 = true := by kernel_rfl
noncomputable abbrev D_table_Less : Func := Go.Proofs.Try.f31
theorem B_table_Less : PG.funcs[31]? = some D_table_Less := Go.Proofs.Try.func31
abbrev f_table_Right_f1 : Nat := 32
theorem E_table_Right_f1 : enterB PG 32 = true := by kernel_rfl
noncomputable abbrev D_table_Right_f1 : Func := Go.Proofs.Try.f32
theorem B_table_Right_f1 : PG.funcs[32]? = some D_table_Right_f1 := Go.Proofs.Try.func32
abbrev f_table_Table_of : Nat := 33
theorem E_table_Table_of : enterB PG 33 = true := by kernel_rfl
noncomputable abbrev D_table_Table_of : Func := Go.Proofs.Try.f33
theorem B_table_Table_of : PG.funcs[33]? = some D_table_Table_of := Go.Proofs.Try.func33
abbrev f_table_Table_All_f1 : Nat := 34
theorem E_table_Table_All_f1 : enterB PG 34 = true := by kernel_rfl
noncomputable abbrev D_table_Table_All_f1 : Func := Go.Proofs.Try.f34
theorem B_table_Table_All_f1 : PG.funcs[34]? = some D_table_Table_All_f1 := Go.Proofs.Try.func34
abbrev f_ident_Compare : Nat := 35
theorem E_ident_Compare : enterB PG 35 = true := by kernel_rfl
noncomputable abbrev D_ident_Compare : Func := Go.Proofs.Try.f35
theorem B_ident_Compare : PG.funcs[35]? = some D_ident_Compare := Go.Proofs.Try.func35
abbrev f_ident_Far : Nat := 36
theorem E_ident_Far : enterB PG 36 = true := by kernel_rfl
noncomputable abbrev D_ident_Far : Func := Go.Proofs.Try.f36
theorem B_ident_Far : PG.funcs[36]? = some D_ident_Far := Go.Proofs.Try.func36
abbrev f_ident_Sub : Nat := 37
theorem E_ident_Sub : enterB PG 37 = true := by kernel_rfl
noncomputable abbrev D_ident_Sub : Func := Go.Proofs.Try.f37
theorem B_ident_Sub : PG.funcs[37]? = some D_ident_Sub := Go.Proofs.Try.func37
abbrev f_slices_SortedFunc_api_Path : Nat := 38
theorem E_slices_SortedFunc_api_Path : enterB PG 38 = true := by kernel_rfl
noncomputable abbrev D_slices_SortedFunc_api_Path : Func := Go.Proofs.Try.f38
theorem B_slices_SortedFunc_api_Path : PG.funcs[38]? = some D_slices_SortedFunc_api_Path := Go.Proofs.Try.func38
abbrev f_maps_Keys_map_api_Path_api_Entry_api_Path_api_Entry : Nat := 39
theorem E_maps_Keys_map_api_Path_api_Entry_api_Path_api_Entry : enterB PG 39 = true := by kernel_rfl
noncomputable abbrev D_maps_Keys_map_api_Path_api_Entry_api_Path_api_Entry : Func := Go.Proofs.Try.f39
theorem B_maps_Keys_map_api_Path_api_Entry_api_Path_api_Entry : PG.funcs[39]? = some D_maps_Keys_map_api_Path_api_Entry_api_Path_api_Entry := Go.Proofs.Try.func39
abbrev f_table_order : Nat := 40
theorem E_table_order : enterB PG 40 = true := by kernel_rfl
noncomputable abbrev D_table_order : Func := Go.Proofs.Try.f40
theorem B_table_order : PG.funcs[40]? = some D_table_order := Go.Proofs.Try.func40
abbrev f_bytes_Compare : Nat := 41
theorem E_bytes_Compare : enterB PG 41 = true := by kernel_rfl
noncomputable abbrev D_bytes_Compare : Func := Go.Proofs.Try.f41
theorem B_bytes_Compare : PG.funcs[41]? = some D_bytes_Compare := Go.Proofs.Try.func41
abbrev f_slices_Collect_api_Path : Nat := 42
theorem E_slices_Collect_api_Path : enterB PG 42 = true := by kernel_rfl
noncomputable abbrev D_slices_Collect_api_Path : Func := Go.Proofs.Try.f42
theorem B_slices_Collect_api_Path : PG.funcs[42]? = some D_slices_Collect_api_Path := Go.Proofs.Try.func42
abbrev f_slices_SortFunc_api_Path_api_Path : Nat := 43
theorem E_slices_SortFunc_api_Path_api_Path : enterB PG 43 = true := by kernel_rfl
noncomputable abbrev D_slices_SortFunc_api_Path_api_Path : Func := Go.Proofs.Try.f43
theorem B_slices_SortFunc_api_Path_api_Path : PG.funcs[43]? = some D_slices_SortFunc_api_Path_api_Path := Go.Proofs.Try.func43
abbrev f_maps_Keys_map_api_Path_api_Entry_api_Path_api_Entry_f1 : Nat := 44
theorem E_maps_Keys_map_api_Path_api_Entry_api_Path_api_Entry_f1 : enterB PG 44 = true := by kernel_rfl
noncomputable abbrev D_maps_Keys_map_api_Path_api_Entry_api_Path_api_Entry_f1 : Func := Go.Proofs.Try.f44
theorem B_maps_Keys_map_api_Path_api_Entry_api_Path_api_Entry_f1 : PG.funcs[44]? = some D_maps_Keys_map_api_Path_api_Entry_api_Path_api_Entry_f1 := Go.Proofs.Try.func44
abbrev f_bytealg_Compare : Nat := 45
noncomputable abbrev D_bytealg_Compare : Func := Go.Proofs.Try.f45
theorem B_bytealg_Compare : PG.funcs[45]? = some D_bytealg_Compare := Go.Proofs.Try.func45
abbrev f_slices_AppendSeq_api_Path_api_Path : Nat := 46
theorem E_slices_AppendSeq_api_Path_api_Path : enterB PG 46 = true := by kernel_rfl
noncomputable abbrev D_slices_AppendSeq_api_Path_api_Path : Func := Go.Proofs.Try.f46
theorem B_slices_AppendSeq_api_Path_api_Path : PG.funcs[46]? = some D_slices_AppendSeq_api_Path_api_Path := Go.Proofs.Try.func46
abbrev f_slices_pdqsortCmpFunc_api_Path : Nat := 47
theorem E_slices_pdqsortCmpFunc_api_Path : enterB PG 47 = true := by kernel_rfl
noncomputable abbrev D_slices_pdqsortCmpFunc_api_Path : Func := Go.Proofs.Try.f47
theorem B_slices_pdqsortCmpFunc_api_Path : PG.funcs[47]? = some D_slices_pdqsortCmpFunc_api_Path := Go.Proofs.Try.func47
abbrev f_bits_Len : Nat := 48
theorem E_bits_Len : enterB PG 48 = true := by kernel_rfl
noncomputable abbrev D_bits_Len : Func := Go.Proofs.Try.f48
theorem B_bits_Len : PG.funcs[48]? = some D_bits_Len := Go.Proofs.Try.func48
abbrev f_slices_insertionSortCmpFunc_api_Path : Nat := 49
theorem E_slices_insertionSortCmpFunc_api_Path : enterB PG 49 = true := by kernel_rfl
noncomputable abbrev D_slices_insertionSortCmpFunc_api_Path : Func := Go.Proofs.Try.f49
theorem B_slices_insertionSortCmpFunc_api_Path : PG.funcs[49]? = some D_slices_insertionSortCmpFunc_api_Path := Go.Proofs.Try.func49
abbrev f_slices_heapSortCmpFunc_api_Path : Nat := 50
theorem E_slices_heapSortCmpFunc_api_Path : enterB PG 50 = true := by kernel_rfl
noncomputable abbrev D_slices_heapSortCmpFunc_api_Path : Func := Go.Proofs.Try.f50
theorem B_slices_heapSortCmpFunc_api_Path : PG.funcs[50]? = some D_slices_heapSortCmpFunc_api_Path := Go.Proofs.Try.func50
abbrev f_slices_breakPatternsCmpFunc_api_Path : Nat := 51
theorem E_slices_breakPatternsCmpFunc_api_Path : enterB PG 51 = true := by kernel_rfl
noncomputable abbrev D_slices_breakPatternsCmpFunc_api_Path : Func := Go.Proofs.Try.f51
theorem B_slices_breakPatternsCmpFunc_api_Path : PG.funcs[51]? = some D_slices_breakPatternsCmpFunc_api_Path := Go.Proofs.Try.func51
abbrev f_slices_choosePivotCmpFunc_api_Path : Nat := 52
theorem E_slices_choosePivotCmpFunc_api_Path : enterB PG 52 = true := by kernel_rfl
noncomputable abbrev D_slices_choosePivotCmpFunc_api_Path : Func := Go.Proofs.Try.f52
theorem B_slices_choosePivotCmpFunc_api_Path : PG.funcs[52]? = some D_slices_choosePivotCmpFunc_api_Path := Go.Proofs.Try.func52
abbrev f_slices_reverseRangeCmpFunc_api_Path : Nat := 53
theorem E_slices_reverseRangeCmpFunc_api_Path : enterB PG 53 = true := by kernel_rfl
noncomputable abbrev D_slices_reverseRangeCmpFunc_api_Path : Func := Go.Proofs.Try.f53
theorem B_slices_reverseRangeCmpFunc_api_Path : PG.funcs[53]? = some D_slices_reverseRangeCmpFunc_api_Path := Go.Proofs.Try.func53
abbrev f_slices_partialInsertionSortCmpFunc_api_Path : Nat := 54
theorem E_slices_partialInsertionSortCmpFunc_api_Path : enterB PG 54 = true := by kernel_rfl
noncomputable abbrev D_slices_partialInsertionSortCmpFunc_api_Path : Func := Go.Proofs.Try.f54
theorem B_slices_partialInsertionSortCmpFunc_api_Path : PG.funcs[54]? = some D_slices_partialInsertionSortCmpFunc_api_Path := Go.Proofs.Try.func54
abbrev f_slices_partitionEqualCmpFunc_api_Path : Nat := 55
theorem E_slices_partitionEqualCmpFunc_api_Path : enterB PG 55 = true := by kernel_rfl
noncomputable abbrev D_slices_partitionEqualCmpFunc_api_Path : Func := Go.Proofs.Try.f55
theorem B_slices_partitionEqualCmpFunc_api_Path : PG.funcs[55]? = some D_slices_partitionEqualCmpFunc_api_Path := Go.Proofs.Try.func55
abbrev f_slices_partitionCmpFunc_api_Path : Nat := 56
theorem E_slices_partitionCmpFunc_api_Path : enterB PG 56 = true := by kernel_rfl
noncomputable abbrev D_slices_partitionCmpFunc_api_Path : Func := Go.Proofs.Try.f56
theorem B_slices_partitionCmpFunc_api_Path : PG.funcs[56]? = some D_slices_partitionCmpFunc_api_Path := Go.Proofs.Try.func56
abbrev f_bits_Len32 : Nat := 57
theorem E_bits_Len32 : enterB PG 57 = true := by kernel_rfl
noncomputable abbrev D_bits_Len32 : Func := Go.Proofs.Try.f57
theorem B_bits_Len32 : PG.funcs[57]? = some D_bits_Len32 := Go.Proofs.Try.func57
abbrev f_bits_Len64 : Nat := 58
theorem E_bits_Len64 : enterB PG 58 = true := by kernel_rfl
noncomputable abbrev D_bits_Len64 : Func := Go.Proofs.Try.f58
theorem B_bits_Len64 : PG.funcs[58]? = some D_bits_Len64 := Go.Proofs.Try.func58
abbrev f_slices_siftDownCmpFunc_api_Path : Nat := 59
theorem E_slices_siftDownCmpFunc_api_Path : enterB PG 59 = true := by kernel_rfl
noncomputable abbrev D_slices_siftDownCmpFunc_api_Path : Func := Go.Proofs.Try.f59
theorem B_slices_siftDownCmpFunc_api_Path : PG.funcs[59]? = some D_slices_siftDownCmpFunc_api_Path := Go.Proofs.Try.func59
abbrev f_slices_nextPowerOfTwo : Nat := 60
theorem E_slices_nextPowerOfTwo : enterB PG 60 = true := by kernel_rfl
noncomputable abbrev D_slices_nextPowerOfTwo : Func := Go.Proofs.Try.f60
theorem B_slices_nextPowerOfTwo : PG.funcs[60]? = some D_slices_nextPowerOfTwo := Go.Proofs.Try.func60
abbrev f_slices_xorshift_Next : Nat := 61
theorem E_slices_xorshift_Next : enterB PG 61 = true := by kernel_rfl
noncomputable abbrev D_slices_xorshift_Next : Func := Go.Proofs.Try.f61
theorem B_slices_xorshift_Next : PG.funcs[61]? = some D_slices_xorshift_Next := Go.Proofs.Try.func61
abbrev f_slices_medianAdjacentCmpFunc_api_Path : Nat := 62
theorem E_slices_medianAdjacentCmpFunc_api_Path : enterB PG 62 = true := by kernel_rfl
noncomputable abbrev D_slices_medianAdjacentCmpFunc_api_Path : Func := Go.Proofs.Try.f62
theorem B_slices_medianAdjacentCmpFunc_api_Path : PG.funcs[62]? = some D_slices_medianAdjacentCmpFunc_api_Path := Go.Proofs.Try.func62
abbrev f_slices_medianCmpFunc_api_Path : Nat := 63
theorem E_slices_medianCmpFunc_api_Path : enterB PG 63 = true := by kernel_rfl
noncomputable abbrev D_slices_medianCmpFunc_api_Path : Func := Go.Proofs.Try.f63
theorem B_slices_medianCmpFunc_api_Path : PG.funcs[63]? = some D_slices_medianCmpFunc_api_Path := Go.Proofs.Try.func63
abbrev f_slices_order2CmpFunc_api_Path : Nat := 64
theorem E_slices_order2CmpFunc_api_Path : enterB PG 64 = true := by kernel_rfl
noncomputable abbrev D_slices_order2CmpFunc_api_Path : Func := Go.Proofs.Try.f64
theorem B_slices_order2CmpFunc_api_Path : PG.funcs[64]? = some D_slices_order2CmpFunc_api_Path := Go.Proofs.Try.func64
end Go.Fx
