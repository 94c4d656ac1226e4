/- The facts of the program's types: made by a program of ours (TY.lean). -/
import Derived.Test.YtodjcocapdjomaaDoorProg
import Derived.Test.YtodjcocapdjomaaDoorAlP
namespace Go.AL
open Go Go.RowKit Go.Proofs
theorem un_2 : under Tryd.prog 2 = true := by kernel_rfl
theorem sz_2 : szT Tryd.prog 2 = 1 := by kernel_rfl
theorem has_2 : hasT Tryd.prog 2 = true := by kernel_rfl
theorem agg_2 : aggT Tryd.prog 2 = false := by kernel_rfl
theorem str_2 : strT Tryd.prog 2 = false := by kernel_rfl
theorem ifc_2 : ifaceT Tryd.prog 2 = false := by kernel_rfl
theorem by_2 : bytesT Tryd.prog 2 = 8 := by kernel_rfl
theorem zok_2 : zok Tryd.prog 2 = true := by kernel_rfl
theorem za_2 : zA Tryd.prog 2 = [.int .i64 0] := by kernel_rfl
theorem el_2 : elemT Tryd.prog 2 = none := by kernel_rfl
theorem arr_2 : arrT Tryd.prog 2 = none := by kernel_rfl
theorem arz_2 : arrSz Tryd.prog 2 = none := by kernel_rfl
theorem int_2 : intT Tryd.prog 2 = some .i64 := by kernel_rfl
theorem un_3 : under Tryd.prog 3 = true := by kernel_rfl
theorem sz_3 : szT Tryd.prog 3 = 1 := by kernel_rfl
theorem has_3 : hasT Tryd.prog 3 = true := by kernel_rfl
theorem agg_3 : aggT Tryd.prog 3 = false := by kernel_rfl
theorem str_3 : strT Tryd.prog 3 = false := by kernel_rfl
theorem ifc_3 : ifaceT Tryd.prog 3 = false := by kernel_rfl
theorem by_3 : bytesT Tryd.prog 3 = 8 := by kernel_rfl
theorem zok_3 : zok Tryd.prog 3 = true := by kernel_rfl
theorem za_3 : zA Tryd.prog 3 = [.int .i64 0] := by kernel_rfl
theorem el_3 : elemT Tryd.prog 3 = none := by kernel_rfl
theorem arr_3 : arrT Tryd.prog 3 = none := by kernel_rfl
theorem arz_3 : arrSz Tryd.prog 3 = none := by kernel_rfl
theorem int_3 : intT Tryd.prog 3 = some .i64 := by kernel_rfl
theorem un_4 : under Tryd.prog 4 = true := by kernel_rfl
theorem sz_4 : szT Tryd.prog 4 = 1 := by kernel_rfl
theorem has_4 : hasT Tryd.prog 4 = true := by kernel_rfl
theorem agg_4 : aggT Tryd.prog 4 = false := by kernel_rfl
theorem str_4 : strT Tryd.prog 4 = false := by kernel_rfl
theorem ifc_4 : ifaceT Tryd.prog 4 = false := by kernel_rfl
theorem by_4 : bytesT Tryd.prog 4 = 1 := by kernel_rfl
theorem zok_4 : zok Tryd.prog 4 = true := by kernel_rfl
theorem za_4 : zA Tryd.prog 4 = [.bool false] := by kernel_rfl
theorem el_4 : elemT Tryd.prog 4 = none := by kernel_rfl
theorem arr_4 : arrT Tryd.prog 4 = none := by kernel_rfl
theorem arz_4 : arrSz Tryd.prog 4 = none := by kernel_rfl
theorem int_4 : intT Tryd.prog 4 = none := by kernel_rfl
theorem un_5 : under Tryd.prog 5 = true := by kernel_rfl
theorem sz_5 : szT Tryd.prog 5 = 1 := by kernel_rfl
theorem has_5 : hasT Tryd.prog 5 = true := by kernel_rfl
theorem agg_5 : aggT Tryd.prog 5 = false := by kernel_rfl
theorem str_5 : strT Tryd.prog 5 = false := by kernel_rfl
theorem ifc_5 : ifaceT Tryd.prog 5 = false := by kernel_rfl
theorem by_5 : bytesT Tryd.prog 5 = 1 := by kernel_rfl
theorem zok_5 : zok Tryd.prog 5 = true := by kernel_rfl
theorem za_5 : zA Tryd.prog 5 = [.int .u8 0] := by kernel_rfl
theorem el_5 : elemT Tryd.prog 5 = none := by kernel_rfl
theorem arr_5 : arrT Tryd.prog 5 = none := by kernel_rfl
theorem arz_5 : arrSz Tryd.prog 5 = none := by kernel_rfl
theorem int_5 : intT Tryd.prog 5 = some .u8 := by kernel_rfl
theorem un_9 : under Tryd.prog 9 = true := by kernel_rfl
theorem sz_9 : szT Tryd.prog 9 = 1 := by kernel_rfl
theorem has_9 : hasT Tryd.prog 9 = true := by kernel_rfl
theorem agg_9 : aggT Tryd.prog 9 = false := by kernel_rfl
theorem str_9 : strT Tryd.prog 9 = true := by kernel_rfl
theorem ifc_9 : ifaceT Tryd.prog 9 = false := by kernel_rfl
theorem by_9 : bytesT Tryd.prog 9 = 16 := by kernel_rfl
theorem zok_9 : zok Tryd.prog 9 = true := by kernel_rfl
theorem za_9 : zA Tryd.prog 9 = [.str []] := by kernel_rfl
theorem el_9 : elemT Tryd.prog 9 = none := by kernel_rfl
theorem arr_9 : arrT Tryd.prog 9 = none := by kernel_rfl
theorem arz_9 : arrSz Tryd.prog 9 = none := by kernel_rfl
theorem int_9 : intT Tryd.prog 9 = none := by kernel_rfl
theorem un_21 : under Tryd.prog 21 = true := by kernel_rfl
theorem sz_21 : szT Tryd.prog 21 = 1 := by kernel_rfl
theorem has_21 : hasT Tryd.prog 21 = true := by kernel_rfl
theorem agg_21 : aggT Tryd.prog 21 = false := by kernel_rfl
theorem str_21 : strT Tryd.prog 21 = false := by kernel_rfl
theorem ifc_21 : ifaceT Tryd.prog 21 = false := by kernel_rfl
theorem by_21 : bytesT Tryd.prog 21 = 4 := by kernel_rfl
theorem zok_21 : zok Tryd.prog 21 = true := by kernel_rfl
theorem za_21 : zA Tryd.prog 21 = [.int .i32 0] := by kernel_rfl
theorem el_21 : elemT Tryd.prog 21 = none := by kernel_rfl
theorem arr_21 : arrT Tryd.prog 21 = none := by kernel_rfl
theorem arz_21 : arrSz Tryd.prog 21 = none := by kernel_rfl
theorem int_21 : intT Tryd.prog 21 = some .i32 := by kernel_rfl
theorem un_23 : under Tryd.prog 23 = true := by kernel_rfl
theorem sz_23 : szT Tryd.prog 23 = 1 := by kernel_rfl
theorem has_23 : hasT Tryd.prog 23 = true := by kernel_rfl
theorem agg_23 : aggT Tryd.prog 23 = false := by kernel_rfl
theorem str_23 : strT Tryd.prog 23 = false := by kernel_rfl
theorem ifc_23 : ifaceT Tryd.prog 23 = false := by kernel_rfl
theorem by_23 : bytesT Tryd.prog 23 = 24 := by kernel_rfl
theorem zok_23 : zok Tryd.prog 23 = true := by kernel_rfl
theorem za_23 : zA Tryd.prog 23 = [.slice none 0] := by kernel_rfl
theorem el_23 : elemT Tryd.prog 23 = some 28 := by kernel_rfl
theorem eld_23 : elD Tryd.prog 23 = 28 := by kernel_rfl
theorem slo_23 : slOk Tryd.prog 23 = true := by kernel_rfl
theorem arr_23 : arrT Tryd.prog 23 = none := by kernel_rfl
theorem arz_23 : arrSz Tryd.prog 23 = none := by kernel_rfl
theorem int_23 : intT Tryd.prog 23 = none := by kernel_rfl
theorem un_24 : under Tryd.prog 24 = true := by kernel_rfl
theorem sz_24 : szT Tryd.prog 24 = 1 := by kernel_rfl
theorem has_24 : hasT Tryd.prog 24 = true := by kernel_rfl
theorem agg_24 : aggT Tryd.prog 24 = false := by kernel_rfl
theorem str_24 : strT Tryd.prog 24 = false := by kernel_rfl
theorem ifc_24 : ifaceT Tryd.prog 24 = false := by kernel_rfl
theorem by_24 : bytesT Tryd.prog 24 = 8 := by kernel_rfl
theorem zok_24 : zok Tryd.prog 24 = true := by kernel_rfl
theorem za_24 : zA Tryd.prog 24 = [.int .i64 0] := by kernel_rfl
theorem el_24 : elemT Tryd.prog 24 = none := by kernel_rfl
theorem arr_24 : arrT Tryd.prog 24 = none := by kernel_rfl
theorem arz_24 : arrSz Tryd.prog 24 = none := by kernel_rfl
theorem int_24 : intT Tryd.prog 24 = some .i64 := by kernel_rfl
theorem un_28 : under Tryd.prog 28 = true := by kernel_rfl
theorem sz_28 : szT Tryd.prog 28 = 4 := by kernel_rfl
theorem has_28 : hasT Tryd.prog 28 = true := by kernel_rfl
theorem agg_28 : aggT Tryd.prog 28 = true := by kernel_rfl
theorem str_28 : strT Tryd.prog 28 = false := by kernel_rfl
theorem ifc_28 : ifaceT Tryd.prog 28 = false := by kernel_rfl
theorem by_28 : bytesT Tryd.prog 28 = 32 := by kernel_rfl
theorem zok_28 : zok Tryd.prog 28 = true := by kernel_rfl
theorem za_28 : zA Tryd.prog 28 = [.int .i64 0, .str [], .bool false, .bool false] := by kernel_rfl
theorem el_28 : elemT Tryd.prog 28 = none := by kernel_rfl
theorem arr_28 : arrT Tryd.prog 28 = none := by kernel_rfl
theorem arz_28 : arrSz Tryd.prog 28 = none := by kernel_rfl
theorem int_28 : intT Tryd.prog 28 = none := by kernel_rfl
theorem ist_28 : isStructT Tryd.prog 28 = true := by kernel_rfl
theorem fld_28_0 : fieldT Tryd.prog 28 0 = some (0, 3) := by kernel_rfl
theorem plc_28_0 : placeX Tryd.prog 28 0 = some (0, 1) := by kernel_rfl
theorem fld_28_1 : fieldT Tryd.prog 28 1 = some (1, 9) := by kernel_rfl
theorem plc_28_1 : placeX Tryd.prog 28 1 = some (1, 1) := by kernel_rfl
theorem fld_28_2 : fieldT Tryd.prog 28 2 = some (2, 4) := by kernel_rfl
theorem plc_28_2 : placeX Tryd.prog 28 2 = some (2, 1) := by kernel_rfl
theorem fld_28_3 : fieldT Tryd.prog 28 3 = some (3, 4) := by kernel_rfl
theorem plc_28_3 : placeX Tryd.prog 28 3 = some (3, 1) := by kernel_rfl
theorem eqg_28 : Tryd.prog.eqGuardType Tryd.prog.depth 28 = false := by kernel_rfl
theorem un_38 : under Tryd.prog 38 = true := by kernel_rfl
theorem sz_38 : szT Tryd.prog 38 = 1 := by kernel_rfl
theorem has_38 : hasT Tryd.prog 38 = true := by kernel_rfl
theorem agg_38 : aggT Tryd.prog 38 = false := by kernel_rfl
theorem str_38 : strT Tryd.prog 38 = false := by kernel_rfl
theorem ifc_38 : ifaceT Tryd.prog 38 = false := by kernel_rfl
theorem by_38 : bytesT Tryd.prog 38 = 24 := by kernel_rfl
theorem zok_38 : zok Tryd.prog 38 = true := by kernel_rfl
theorem za_38 : zA Tryd.prog 38 = [.slice none 0] := by kernel_rfl
theorem el_38 : elemT Tryd.prog 38 = some 42 := by kernel_rfl
theorem eld_38 : elD Tryd.prog 38 = 42 := by kernel_rfl
theorem slo_38 : slOk Tryd.prog 38 = true := by kernel_rfl
theorem arr_38 : arrT Tryd.prog 38 = none := by kernel_rfl
theorem arz_38 : arrSz Tryd.prog 38 = none := by kernel_rfl
theorem int_38 : intT Tryd.prog 38 = none := by kernel_rfl
theorem un_40 : under Tryd.prog 40 = true := by kernel_rfl
theorem sz_40 : szT Tryd.prog 40 = 1 := by kernel_rfl
theorem has_40 : hasT Tryd.prog 40 = true := by kernel_rfl
theorem agg_40 : aggT Tryd.prog 40 = false := by kernel_rfl
theorem str_40 : strT Tryd.prog 40 = false := by kernel_rfl
theorem ifc_40 : ifaceT Tryd.prog 40 = false := by kernel_rfl
theorem by_40 : bytesT Tryd.prog 40 = 8 := by kernel_rfl
theorem zok_40 : zok Tryd.prog 40 = true := by kernel_rfl
theorem za_40 : zA Tryd.prog 40 = [.nilFunc] := by kernel_rfl
theorem el_40 : elemT Tryd.prog 40 = none := by kernel_rfl
theorem arr_40 : arrT Tryd.prog 40 = none := by kernel_rfl
theorem arz_40 : arrSz Tryd.prog 40 = none := by kernel_rfl
theorem int_40 : intT Tryd.prog 40 = none := by kernel_rfl
theorem un_42 : under Tryd.prog 42 = true := by kernel_rfl
theorem sz_42 : szT Tryd.prog 42 = 3 := by kernel_rfl
theorem has_42 : hasT Tryd.prog 42 = true := by kernel_rfl
theorem agg_42 : aggT Tryd.prog 42 = true := by kernel_rfl
theorem str_42 : strT Tryd.prog 42 = false := by kernel_rfl
theorem ifc_42 : ifaceT Tryd.prog 42 = false := by kernel_rfl
theorem by_42 : bytesT Tryd.prog 42 = 40 := by kernel_rfl
theorem zok_42 : zok Tryd.prog 42 = true := by kernel_rfl
theorem za_42 : zA Tryd.prog 42 = [.str [], .str [], .nilFunc] := by kernel_rfl
theorem el_42 : elemT Tryd.prog 42 = none := by kernel_rfl
theorem arr_42 : arrT Tryd.prog 42 = none := by kernel_rfl
theorem arz_42 : arrSz Tryd.prog 42 = none := by kernel_rfl
theorem int_42 : intT Tryd.prog 42 = none := by kernel_rfl
theorem ist_42 : isStructT Tryd.prog 42 = true := by kernel_rfl
theorem fld_42_0 : fieldT Tryd.prog 42 0 = some (0, 9) := by kernel_rfl
theorem plc_42_0 : placeX Tryd.prog 42 0 = some (0, 1) := by kernel_rfl
theorem fld_42_1 : fieldT Tryd.prog 42 1 = some (1, 9) := by kernel_rfl
theorem plc_42_1 : placeX Tryd.prog 42 1 = some (1, 1) := by kernel_rfl
theorem fld_42_2 : fieldT Tryd.prog 42 2 = some (2, 40) := by kernel_rfl
theorem plc_42_2 : placeX Tryd.prog 42 2 = some (2, 1) := by kernel_rfl
theorem un_51 : under Tryd.prog 51 = true := by kernel_rfl
theorem sz_51 : szT Tryd.prog 51 = 1 := by kernel_rfl
theorem has_51 : hasT Tryd.prog 51 = true := by kernel_rfl
theorem agg_51 : aggT Tryd.prog 51 = false := by kernel_rfl
theorem str_51 : strT Tryd.prog 51 = false := by kernel_rfl
theorem ifc_51 : ifaceT Tryd.prog 51 = false := by kernel_rfl
theorem by_51 : bytesT Tryd.prog 51 = 24 := by kernel_rfl
theorem zok_51 : zok Tryd.prog 51 = true := by kernel_rfl
theorem za_51 : zA Tryd.prog 51 = [.slice none 0] := by kernel_rfl
theorem el_51 : elemT Tryd.prog 51 = some 21 := by kernel_rfl
theorem eld_51 : elD Tryd.prog 51 = 21 := by kernel_rfl
theorem slo_51 : slOk Tryd.prog 51 = true := by kernel_rfl
theorem arr_51 : arrT Tryd.prog 51 = none := by kernel_rfl
theorem arz_51 : arrSz Tryd.prog 51 = none := by kernel_rfl
theorem int_51 : intT Tryd.prog 51 = none := by kernel_rfl
theorem un_55 : under Tryd.prog 55 = true := by kernel_rfl
theorem sz_55 : szT Tryd.prog 55 = 1 := by kernel_rfl
theorem has_55 : hasT Tryd.prog 55 = true := by kernel_rfl
theorem agg_55 : aggT Tryd.prog 55 = false := by kernel_rfl
theorem str_55 : strT Tryd.prog 55 = false := by kernel_rfl
theorem ifc_55 : ifaceT Tryd.prog 55 = false := by kernel_rfl
theorem by_55 : bytesT Tryd.prog 55 = 8 := by kernel_rfl
theorem zok_55 : zok Tryd.prog 55 = true := by kernel_rfl
theorem za_55 : zA Tryd.prog 55 = [.nilFunc] := by kernel_rfl
theorem el_55 : elemT Tryd.prog 55 = none := by kernel_rfl
theorem arr_55 : arrT Tryd.prog 55 = none := by kernel_rfl
theorem arz_55 : arrSz Tryd.prog 55 = none := by kernel_rfl
theorem int_55 : intT Tryd.prog 55 = none := by kernel_rfl
theorem un_56 : under Tryd.prog 56 = true := by kernel_rfl
theorem sz_56 : szT Tryd.prog 56 = 1 := by kernel_rfl
theorem has_56 : hasT Tryd.prog 56 = true := by kernel_rfl
theorem agg_56 : aggT Tryd.prog 56 = false := by kernel_rfl
theorem str_56 : strT Tryd.prog 56 = false := by kernel_rfl
theorem ifc_56 : ifaceT Tryd.prog 56 = false := by kernel_rfl
theorem by_56 : bytesT Tryd.prog 56 = 24 := by kernel_rfl
theorem zok_56 : zok Tryd.prog 56 = true := by kernel_rfl
theorem za_56 : zA Tryd.prog 56 = [.slice none 0] := by kernel_rfl
theorem el_56 : elemT Tryd.prog 56 = some 9 := by kernel_rfl
theorem eld_56 : elD Tryd.prog 56 = 9 := by kernel_rfl
theorem slo_56 : slOk Tryd.prog 56 = true := by kernel_rfl
theorem arr_56 : arrT Tryd.prog 56 = none := by kernel_rfl
theorem arz_56 : arrSz Tryd.prog 56 = none := by kernel_rfl
theorem int_56 : intT Tryd.prog 56 = none := by kernel_rfl
theorem un_60 : under Tryd.prog 60 = true := by kernel_rfl
theorem sz_60 : szT Tryd.prog 60 = 1 := by kernel_rfl
theorem has_60 : hasT Tryd.prog 60 = true := by kernel_rfl
theorem agg_60 : aggT Tryd.prog 60 = false := by kernel_rfl
theorem str_60 : strT Tryd.prog 60 = false := by kernel_rfl
theorem ifc_60 : ifaceT Tryd.prog 60 = false := by kernel_rfl
theorem by_60 : bytesT Tryd.prog 60 = 8 := by kernel_rfl
theorem zok_60 : zok Tryd.prog 60 = true := by kernel_rfl
theorem za_60 : zA Tryd.prog 60 = [.ptr none] := by kernel_rfl
theorem el_60 : elemT Tryd.prog 60 = none := by kernel_rfl
theorem arr_60 : arrT Tryd.prog 60 = none := by kernel_rfl
theorem arz_60 : arrSz Tryd.prog 60 = none := by kernel_rfl
theorem int_60 : intT Tryd.prog 60 = none := by kernel_rfl
theorem un_61 : under Tryd.prog 61 = true := by kernel_rfl
theorem sz_61 : szT Tryd.prog 61 = 1 := by kernel_rfl
theorem has_61 : hasT Tryd.prog 61 = true := by kernel_rfl
theorem agg_61 : aggT Tryd.prog 61 = false := by kernel_rfl
theorem str_61 : strT Tryd.prog 61 = false := by kernel_rfl
theorem ifc_61 : ifaceT Tryd.prog 61 = false := by kernel_rfl
theorem by_61 : bytesT Tryd.prog 61 = 24 := by kernel_rfl
theorem zok_61 : zok Tryd.prog 61 = true := by kernel_rfl
theorem za_61 : zA Tryd.prog 61 = [.slice none 0] := by kernel_rfl
theorem el_61 : elemT Tryd.prog 61 = some 5 := by kernel_rfl
theorem eld_61 : elD Tryd.prog 61 = 5 := by kernel_rfl
theorem slo_61 : slOk Tryd.prog 61 = true := by kernel_rfl
theorem arr_61 : arrT Tryd.prog 61 = none := by kernel_rfl
theorem arz_61 : arrSz Tryd.prog 61 = none := by kernel_rfl
theorem int_61 : intT Tryd.prog 61 = none := by kernel_rfl
theorem un_63 : under Tryd.prog 63 = true := by kernel_rfl
theorem sz_63 : szT Tryd.prog 63 = 2 := by kernel_rfl
theorem has_63 : hasT Tryd.prog 63 = true := by kernel_rfl
theorem agg_63 : aggT Tryd.prog 63 = true := by kernel_rfl
theorem str_63 : strT Tryd.prog 63 = false := by kernel_rfl
theorem ifc_63 : ifaceT Tryd.prog 63 = false := by kernel_rfl
theorem by_63 : bytesT Tryd.prog 63 = 32 := by kernel_rfl
theorem zok_63 : zok Tryd.prog 63 = true := by kernel_rfl
theorem za_63 : zA Tryd.prog 63 = [.ptr none, .slice none 0] := by kernel_rfl
theorem el_63 : elemT Tryd.prog 63 = none := by kernel_rfl
theorem arr_63 : arrT Tryd.prog 63 = none := by kernel_rfl
theorem arz_63 : arrSz Tryd.prog 63 = none := by kernel_rfl
theorem int_63 : intT Tryd.prog 63 = none := by kernel_rfl
theorem fld_63_0 : fieldT Tryd.prog 63 0 = some (0, 60) := by kernel_rfl
theorem plc_63_0 : placeX Tryd.prog 63 0 = some (0, 1) := by kernel_rfl
theorem fld_63_1 : fieldT Tryd.prog 63 1 = some (1, 61) := by kernel_rfl
theorem plc_63_1 : placeX Tryd.prog 63 1 = some (1, 1) := by kernel_rfl
theorem un_65 : under Tryd.prog 65 = true := by kernel_rfl
theorem sz_65 : szT Tryd.prog 65 = 3 := by kernel_rfl
theorem has_65 : hasT Tryd.prog 65 = true := by kernel_rfl
theorem agg_65 : aggT Tryd.prog 65 = true := by kernel_rfl
theorem str_65 : strT Tryd.prog 65 = false := by kernel_rfl
theorem ifc_65 : ifaceT Tryd.prog 65 = false := by kernel_rfl
theorem by_65 : bytesT Tryd.prog 65 = 40 := by kernel_rfl
theorem zok_65 : zok Tryd.prog 65 = true := by kernel_rfl
theorem za_65 : zA Tryd.prog 65 = [.ptr none, .slice none 0, .bool false] := by kernel_rfl
theorem el_65 : elemT Tryd.prog 65 = none := by kernel_rfl
theorem arr_65 : arrT Tryd.prog 65 = none := by kernel_rfl
theorem arz_65 : arrSz Tryd.prog 65 = none := by kernel_rfl
theorem int_65 : intT Tryd.prog 65 = none := by kernel_rfl
theorem fld_65_0 : fieldT Tryd.prog 65 0 = some (0, 63) := by kernel_rfl
theorem plc_65_0 : placeX Tryd.prog 65 0 = some (0, 2) := by kernel_rfl
theorem fld_65_1 : fieldT Tryd.prog 65 1 = some (2, 4) := by kernel_rfl
theorem plc_65_1 : placeX Tryd.prog 65 1 = some (2, 1) := by kernel_rfl
theorem un_68 : under Tryd.prog 68 = true := by kernel_rfl
theorem sz_68 : szT Tryd.prog 68 = 256 := by kernel_rfl
theorem has_68 : hasT Tryd.prog 68 = true := by kernel_rfl
theorem agg_68 : aggT Tryd.prog 68 = true := by kernel_rfl
theorem str_68 : strT Tryd.prog 68 = false := by kernel_rfl
theorem ifc_68 : ifaceT Tryd.prog 68 = false := by kernel_rfl
theorem by_68 : bytesT Tryd.prog 68 = 256 := by kernel_rfl
theorem el_68 : elemT Tryd.prog 68 = none := by kernel_rfl
theorem arr_68 : arrT Tryd.prog 68 = some (256, 4) := by kernel_rfl
theorem arz_68 : arrSz Tryd.prog 68 = some 1 := by kernel_rfl
theorem int_68 : intT Tryd.prog 68 = none := by kernel_rfl
theorem un_79 : under Tryd.prog 79 = true := by kernel_rfl
theorem sz_79 : szT Tryd.prog 79 = 1 := by kernel_rfl
theorem has_79 : hasT Tryd.prog 79 = true := by kernel_rfl
theorem agg_79 : aggT Tryd.prog 79 = false := by kernel_rfl
theorem str_79 : strT Tryd.prog 79 = false := by kernel_rfl
theorem ifc_79 : ifaceT Tryd.prog 79 = false := by kernel_rfl
theorem by_79 : bytesT Tryd.prog 79 = 24 := by kernel_rfl
theorem zok_79 : zok Tryd.prog 79 = true := by kernel_rfl
theorem za_79 : zA Tryd.prog 79 = [.slice none 0] := by kernel_rfl
theorem el_79 : elemT Tryd.prog 79 = some 55 := by kernel_rfl
theorem eld_79 : elD Tryd.prog 79 = 55 := by kernel_rfl
theorem slo_79 : slOk Tryd.prog 79 = true := by kernel_rfl
theorem arr_79 : arrT Tryd.prog 79 = none := by kernel_rfl
theorem arz_79 : arrSz Tryd.prog 79 = none := by kernel_rfl
theorem int_79 : intT Tryd.prog 79 = none := by kernel_rfl
theorem un_82 : under Tryd.prog 82 = true := by kernel_rfl
theorem sz_82 : szT Tryd.prog 82 = 2 := by kernel_rfl
theorem has_82 : hasT Tryd.prog 82 = true := by kernel_rfl
theorem agg_82 : aggT Tryd.prog 82 = true := by kernel_rfl
theorem str_82 : strT Tryd.prog 82 = false := by kernel_rfl
theorem ifc_82 : ifaceT Tryd.prog 82 = false := by kernel_rfl
theorem by_82 : bytesT Tryd.prog 82 = 8 := by kernel_rfl
theorem zok_82 : zok Tryd.prog 82 = true := by kernel_rfl
theorem za_82 : zA Tryd.prog 82 = [.int .i32 0, .int .i32 0] := by kernel_rfl
theorem el_82 : elemT Tryd.prog 82 = none := by kernel_rfl
theorem arr_82 : arrT Tryd.prog 82 = none := by kernel_rfl
theorem arz_82 : arrSz Tryd.prog 82 = none := by kernel_rfl
theorem int_82 : intT Tryd.prog 82 = none := by kernel_rfl
theorem ist_82 : isStructT Tryd.prog 82 = true := by kernel_rfl
theorem fld_82_0 : fieldT Tryd.prog 82 0 = some (0, 21) := by kernel_rfl
theorem plc_82_0 : placeX Tryd.prog 82 0 = some (0, 1) := by kernel_rfl
theorem fld_82_1 : fieldT Tryd.prog 82 1 = some (1, 21) := by kernel_rfl
theorem plc_82_1 : placeX Tryd.prog 82 1 = some (1, 1) := by kernel_rfl
theorem un_83 : under Tryd.prog 83 = true := by kernel_rfl
theorem sz_83 : szT Tryd.prog 83 = 1 := by kernel_rfl
theorem has_83 : hasT Tryd.prog 83 = true := by kernel_rfl
theorem agg_83 : aggT Tryd.prog 83 = false := by kernel_rfl
theorem str_83 : strT Tryd.prog 83 = false := by kernel_rfl
theorem ifc_83 : ifaceT Tryd.prog 83 = false := by kernel_rfl
theorem by_83 : bytesT Tryd.prog 83 = 24 := by kernel_rfl
theorem zok_83 : zok Tryd.prog 83 = true := by kernel_rfl
theorem za_83 : zA Tryd.prog 83 = [.slice none 0] := by kernel_rfl
theorem el_83 : elemT Tryd.prog 83 = some 82 := by kernel_rfl
theorem eld_83 : elD Tryd.prog 83 = 82 := by kernel_rfl
theorem slo_83 : slOk Tryd.prog 83 = true := by kernel_rfl
theorem arr_83 : arrT Tryd.prog 83 = none := by kernel_rfl
theorem arz_83 : arrSz Tryd.prog 83 = none := by kernel_rfl
theorem int_83 : intT Tryd.prog 83 = none := by kernel_rfl
theorem un_86 : under Tryd.prog 86 = true := by kernel_rfl
theorem sz_86 : szT Tryd.prog 86 = 1 := by kernel_rfl
theorem has_86 : hasT Tryd.prog 86 = true := by kernel_rfl
theorem agg_86 : aggT Tryd.prog 86 = false := by kernel_rfl
theorem str_86 : strT Tryd.prog 86 = false := by kernel_rfl
theorem ifc_86 : ifaceT Tryd.prog 86 = false := by kernel_rfl
theorem by_86 : bytesT Tryd.prog 86 = 8 := by kernel_rfl
theorem zok_86 : zok Tryd.prog 86 = true := by kernel_rfl
theorem za_86 : zA Tryd.prog 86 = [.int .u64 0] := by kernel_rfl
theorem el_86 : elemT Tryd.prog 86 = none := by kernel_rfl
theorem arr_86 : arrT Tryd.prog 86 = none := by kernel_rfl
theorem arz_86 : arrSz Tryd.prog 86 = none := by kernel_rfl
theorem int_86 : intT Tryd.prog 86 = some .u64 := by kernel_rfl
theorem un_104 : under Tryd.prog 104 = true := by kernel_rfl
theorem sz_104 : szT Tryd.prog 104 = 3 := by kernel_rfl
theorem has_104 : hasT Tryd.prog 104 = true := by kernel_rfl
theorem agg_104 : aggT Tryd.prog 104 = true := by kernel_rfl
theorem str_104 : strT Tryd.prog 104 = false := by kernel_rfl
theorem ifc_104 : ifaceT Tryd.prog 104 = false := by kernel_rfl
theorem by_104 : bytesT Tryd.prog 104 = 8 := by kernel_rfl
theorem zok_104 : zok Tryd.prog 104 = true := by kernel_rfl
theorem za_104 : zA Tryd.prog 104 = [.int .u8 0, .int .u8 0, .int .i32 0] := by kernel_rfl
theorem el_104 : elemT Tryd.prog 104 = none := by kernel_rfl
theorem arr_104 : arrT Tryd.prog 104 = none := by kernel_rfl
theorem arz_104 : arrSz Tryd.prog 104 = none := by kernel_rfl
theorem int_104 : intT Tryd.prog 104 = none := by kernel_rfl
theorem ist_104 : isStructT Tryd.prog 104 = true := by kernel_rfl
theorem fld_104_0 : fieldT Tryd.prog 104 0 = some (0, 5) := by kernel_rfl
theorem plc_104_0 : placeX Tryd.prog 104 0 = some (0, 1) := by kernel_rfl
theorem fld_104_1 : fieldT Tryd.prog 104 1 = some (1, 5) := by kernel_rfl
theorem plc_104_1 : placeX Tryd.prog 104 1 = some (1, 1) := by kernel_rfl
theorem fld_104_2 : fieldT Tryd.prog 104 2 = some (2, 21) := by kernel_rfl
theorem plc_104_2 : placeX Tryd.prog 104 2 = some (2, 1) := by kernel_rfl
theorem un_105 : under Tryd.prog 105 = true := by kernel_rfl
theorem sz_105 : szT Tryd.prog 105 = 12 := by kernel_rfl
theorem has_105 : hasT Tryd.prog 105 = true := by kernel_rfl
theorem agg_105 : aggT Tryd.prog 105 = true := by kernel_rfl
theorem str_105 : strT Tryd.prog 105 = false := by kernel_rfl
theorem ifc_105 : ifaceT Tryd.prog 105 = false := by kernel_rfl
theorem by_105 : bytesT Tryd.prog 105 = 32 := by kernel_rfl
theorem zok_105 : zok Tryd.prog 105 = true := by kernel_rfl
theorem za_105 : zA Tryd.prog 105 = [.int .u8 0, .int .u8 0, .int .i32 0, .int .u8 0, .int .u8 0, .int .i32 0, .int .u8 0, .int .u8 0, .int .i32 0, .int .u8 0, .int .u8 0, .int .i32 0] := by kernel_rfl
theorem el_105 : elemT Tryd.prog 105 = none := by kernel_rfl
theorem arr_105 : arrT Tryd.prog 105 = some (4, 104) := by kernel_rfl
theorem arz_105 : arrSz Tryd.prog 105 = some 3 := by kernel_rfl
theorem int_105 : intT Tryd.prog 105 = none := by kernel_rfl
theorem ist_105 : isStructT Tryd.prog 105 = true := by kernel_rfl
theorem un_109 : under Tryd.prog 109 = true := by kernel_rfl
theorem sz_109 : szT Tryd.prog 109 = 1 := by kernel_rfl
theorem has_109 : hasT Tryd.prog 109 = true := by kernel_rfl
theorem agg_109 : aggT Tryd.prog 109 = false := by kernel_rfl
theorem str_109 : strT Tryd.prog 109 = false := by kernel_rfl
theorem ifc_109 : ifaceT Tryd.prog 109 = false := by kernel_rfl
theorem by_109 : bytesT Tryd.prog 109 = 4 := by kernel_rfl
theorem zok_109 : zok Tryd.prog 109 = true := by kernel_rfl
theorem za_109 : zA Tryd.prog 109 = [.int .u32 0] := by kernel_rfl
theorem el_109 : elemT Tryd.prog 109 = none := by kernel_rfl
theorem arr_109 : arrT Tryd.prog 109 = none := by kernel_rfl
theorem arz_109 : arrSz Tryd.prog 109 = none := by kernel_rfl
theorem int_109 : intT Tryd.prog 109 = some .u32 := by kernel_rfl
theorem un_114 : under Tryd.prog 114 = true := by kernel_rfl
theorem sz_114 : szT Tryd.prog 114 = 3 := by kernel_rfl
theorem has_114 : hasT Tryd.prog 114 = true := by kernel_rfl
theorem agg_114 : aggT Tryd.prog 114 = true := by kernel_rfl
theorem str_114 : strT Tryd.prog 114 = false := by kernel_rfl
theorem ifc_114 : ifaceT Tryd.prog 114 = false := by kernel_rfl
theorem by_114 : bytesT Tryd.prog 114 = 12 := by kernel_rfl
theorem zok_114 : zok Tryd.prog 114 = true := by kernel_rfl
theorem za_114 : zA Tryd.prog 114 = [.int .i32 0, .int .i32 0, .int .i32 0] := by kernel_rfl
theorem el_114 : elemT Tryd.prog 114 = none := by kernel_rfl
theorem arr_114 : arrT Tryd.prog 114 = some (3, 21) := by kernel_rfl
theorem arz_114 : arrSz Tryd.prog 114 = some 1 := by kernel_rfl
theorem int_114 : intT Tryd.prog 114 = none := by kernel_rfl
theorem ist_114 : isStructT Tryd.prog 114 = true := by kernel_rfl
theorem un_115 : under Tryd.prog 115 = true := by kernel_rfl
theorem sz_115 : szT Tryd.prog 115 = 1 := by kernel_rfl
theorem has_115 : hasT Tryd.prog 115 = true := by kernel_rfl
theorem agg_115 : aggT Tryd.prog 115 = false := by kernel_rfl
theorem str_115 : strT Tryd.prog 115 = false := by kernel_rfl
theorem ifc_115 : ifaceT Tryd.prog 115 = false := by kernel_rfl
theorem by_115 : bytesT Tryd.prog 115 = 8 := by kernel_rfl
theorem zok_115 : zok Tryd.prog 115 = true := by kernel_rfl
theorem za_115 : zA Tryd.prog 115 = [.ptr none] := by kernel_rfl
theorem el_115 : elemT Tryd.prog 115 = none := by kernel_rfl
theorem arr_115 : arrT Tryd.prog 115 = none := by kernel_rfl
theorem arz_115 : arrSz Tryd.prog 115 = none := by kernel_rfl
theorem int_115 : intT Tryd.prog 115 = none := by kernel_rfl
theorem un_118 : under Tryd.prog 118 = true := by kernel_rfl
theorem sz_118 : szT Tryd.prog 118 = 1 := by kernel_rfl
theorem has_118 : hasT Tryd.prog 118 = true := by kernel_rfl
theorem agg_118 : aggT Tryd.prog 118 = false := by kernel_rfl
theorem str_118 : strT Tryd.prog 118 = false := by kernel_rfl
theorem ifc_118 : ifaceT Tryd.prog 118 = false := by kernel_rfl
theorem by_118 : bytesT Tryd.prog 118 = 2 := by kernel_rfl
theorem zok_118 : zok Tryd.prog 118 = true := by kernel_rfl
theorem za_118 : zA Tryd.prog 118 = [.int .u16 0] := by kernel_rfl
theorem el_118 : elemT Tryd.prog 118 = none := by kernel_rfl
theorem arr_118 : arrT Tryd.prog 118 = none := by kernel_rfl
theorem arz_118 : arrSz Tryd.prog 118 = none := by kernel_rfl
theorem int_118 : intT Tryd.prog 118 = some .u16 := by kernel_rfl
theorem un_119 : under Tryd.prog 119 = true := by kernel_rfl
theorem sz_119 : szT Tryd.prog 119 = 128 := by kernel_rfl
theorem has_119 : hasT Tryd.prog 119 = true := by kernel_rfl
theorem agg_119 : aggT Tryd.prog 119 = true := by kernel_rfl
theorem str_119 : strT Tryd.prog 119 = false := by kernel_rfl
theorem ifc_119 : ifaceT Tryd.prog 119 = false := by kernel_rfl
theorem by_119 : bytesT Tryd.prog 119 = 256 := by kernel_rfl
theorem el_119 : elemT Tryd.prog 119 = none := by kernel_rfl
theorem arr_119 : arrT Tryd.prog 119 = some (128, 118) := by kernel_rfl
theorem arz_119 : arrSz Tryd.prog 119 = some 1 := by kernel_rfl
theorem int_119 : intT Tryd.prog 119 = none := by kernel_rfl
theorem ist_119 : isStructT Tryd.prog 119 = true := by kernel_rfl
theorem un_120 : under Tryd.prog 120 = true := by kernel_rfl
theorem sz_120 : szT Tryd.prog 120 = 1 := by kernel_rfl
theorem has_120 : hasT Tryd.prog 120 = true := by kernel_rfl
theorem agg_120 : aggT Tryd.prog 120 = false := by kernel_rfl
theorem str_120 : strT Tryd.prog 120 = false := by kernel_rfl
theorem ifc_120 : ifaceT Tryd.prog 120 = false := by kernel_rfl
theorem by_120 : bytesT Tryd.prog 120 = 24 := by kernel_rfl
theorem zok_120 : zok Tryd.prog 120 = true := by kernel_rfl
theorem za_120 : zA Tryd.prog 120 = [.slice none 0] := by kernel_rfl
theorem el_120 : elemT Tryd.prog 120 = some 122 := by kernel_rfl
theorem eld_120 : elD Tryd.prog 120 = 122 := by kernel_rfl
theorem slo_120 : slOk Tryd.prog 120 = true := by kernel_rfl
theorem arr_120 : arrT Tryd.prog 120 = none := by kernel_rfl
theorem arz_120 : arrSz Tryd.prog 120 = none := by kernel_rfl
theorem int_120 : intT Tryd.prog 120 = none := by kernel_rfl
theorem un_122 : under Tryd.prog 122 = true := by kernel_rfl
theorem sz_122 : szT Tryd.prog 122 = 2 := by kernel_rfl
theorem has_122 : hasT Tryd.prog 122 = true := by kernel_rfl
theorem agg_122 : aggT Tryd.prog 122 = true := by kernel_rfl
theorem str_122 : strT Tryd.prog 122 = false := by kernel_rfl
theorem ifc_122 : ifaceT Tryd.prog 122 = false := by kernel_rfl
theorem by_122 : bytesT Tryd.prog 122 = 4 := by kernel_rfl
theorem zok_122 : zok Tryd.prog 122 = true := by kernel_rfl
theorem za_122 : zA Tryd.prog 122 = [.int .u16 0, .int .u16 0] := by kernel_rfl
theorem el_122 : elemT Tryd.prog 122 = none := by kernel_rfl
theorem arr_122 : arrT Tryd.prog 122 = none := by kernel_rfl
theorem arz_122 : arrSz Tryd.prog 122 = none := by kernel_rfl
theorem int_122 : intT Tryd.prog 122 = none := by kernel_rfl
theorem ist_122 : isStructT Tryd.prog 122 = true := by kernel_rfl
theorem fld_122_0 : fieldT Tryd.prog 122 0 = some (0, 118) := by kernel_rfl
theorem plc_122_0 : placeX Tryd.prog 122 0 = some (0, 1) := by kernel_rfl
theorem fld_122_1 : fieldT Tryd.prog 122 1 = some (1, 118) := by kernel_rfl
theorem plc_122_1 : placeX Tryd.prog 122 1 = some (1, 1) := by kernel_rfl
theorem un_123 : under Tryd.prog 123 = true := by kernel_rfl
theorem sz_123 : szT Tryd.prog 123 = 1 := by kernel_rfl
theorem has_123 : hasT Tryd.prog 123 = true := by kernel_rfl
theorem agg_123 : aggT Tryd.prog 123 = false := by kernel_rfl
theorem str_123 : strT Tryd.prog 123 = false := by kernel_rfl
theorem ifc_123 : ifaceT Tryd.prog 123 = false := by kernel_rfl
theorem by_123 : bytesT Tryd.prog 123 = 8 := by kernel_rfl
theorem zok_123 : zok Tryd.prog 123 = true := by kernel_rfl
theorem za_123 : zA Tryd.prog 123 = [.ptr none] := by kernel_rfl
theorem el_123 : elemT Tryd.prog 123 = none := by kernel_rfl
theorem arr_123 : arrT Tryd.prog 123 = none := by kernel_rfl
theorem arz_123 : arrSz Tryd.prog 123 = none := by kernel_rfl
theorem int_123 : intT Tryd.prog 123 = none := by kernel_rfl
theorem un_125 : under Tryd.prog 125 = true := by kernel_rfl
theorem sz_125 : szT Tryd.prog 125 = 1 := by kernel_rfl
theorem has_125 : hasT Tryd.prog 125 = true := by kernel_rfl
theorem agg_125 : aggT Tryd.prog 125 = false := by kernel_rfl
theorem str_125 : strT Tryd.prog 125 = false := by kernel_rfl
theorem ifc_125 : ifaceT Tryd.prog 125 = false := by kernel_rfl
theorem by_125 : bytesT Tryd.prog 125 = 24 := by kernel_rfl
theorem zok_125 : zok Tryd.prog 125 = true := by kernel_rfl
theorem za_125 : zA Tryd.prog 125 = [.slice none 0] := by kernel_rfl
theorem el_125 : elemT Tryd.prog 125 = some 136 := by kernel_rfl
theorem eld_125 : elD Tryd.prog 125 = 136 := by kernel_rfl
theorem slo_125 : slOk Tryd.prog 125 = true := by kernel_rfl
theorem arr_125 : arrT Tryd.prog 125 = none := by kernel_rfl
theorem arz_125 : arrSz Tryd.prog 125 = none := by kernel_rfl
theorem int_125 : intT Tryd.prog 125 = none := by kernel_rfl
theorem un_128 : under Tryd.prog 128 = true := by kernel_rfl
theorem sz_128 : szT Tryd.prog 128 = 1 := by kernel_rfl
theorem has_128 : hasT Tryd.prog 128 = true := by kernel_rfl
theorem agg_128 : aggT Tryd.prog 128 = false := by kernel_rfl
theorem str_128 : strT Tryd.prog 128 = false := by kernel_rfl
theorem ifc_128 : ifaceT Tryd.prog 128 = false := by kernel_rfl
theorem by_128 : bytesT Tryd.prog 128 = 8 := by kernel_rfl
theorem zok_128 : zok Tryd.prog 128 = true := by kernel_rfl
theorem za_128 : zA Tryd.prog 128 = [.ptr none] := by kernel_rfl
theorem el_128 : elemT Tryd.prog 128 = none := by kernel_rfl
theorem arr_128 : arrT Tryd.prog 128 = none := by kernel_rfl
theorem arz_128 : arrSz Tryd.prog 128 = none := by kernel_rfl
theorem int_128 : intT Tryd.prog 128 = none := by kernel_rfl
theorem un_130 : under Tryd.prog 130 = true := by kernel_rfl
theorem sz_130 : szT Tryd.prog 130 = 256 := by kernel_rfl
theorem has_130 : hasT Tryd.prog 130 = true := by kernel_rfl
theorem agg_130 : aggT Tryd.prog 130 = true := by kernel_rfl
theorem str_130 : strT Tryd.prog 130 = false := by kernel_rfl
theorem ifc_130 : ifaceT Tryd.prog 130 = false := by kernel_rfl
theorem by_130 : bytesT Tryd.prog 130 = 256 := by kernel_rfl
theorem el_130 : elemT Tryd.prog 130 = none := by kernel_rfl
theorem arr_130 : arrT Tryd.prog 130 = some (256, 5) := by kernel_rfl
theorem arz_130 : arrSz Tryd.prog 130 = some 1 := by kernel_rfl
theorem int_130 : intT Tryd.prog 130 = none := by kernel_rfl
theorem un_132 : under Tryd.prog 132 = true := by kernel_rfl
theorem sz_132 : szT Tryd.prog 132 = 2 := by kernel_rfl
theorem has_132 : hasT Tryd.prog 132 = true := by kernel_rfl
theorem agg_132 : aggT Tryd.prog 132 = true := by kernel_rfl
theorem str_132 : strT Tryd.prog 132 = false := by kernel_rfl
theorem ifc_132 : ifaceT Tryd.prog 132 = false := by kernel_rfl
theorem by_132 : bytesT Tryd.prog 132 = 2 := by kernel_rfl
theorem zok_132 : zok Tryd.prog 132 = true := by kernel_rfl
theorem za_132 : zA Tryd.prog 132 = [.int .u8 0, .int .u8 0] := by kernel_rfl
theorem el_132 : elemT Tryd.prog 132 = none := by kernel_rfl
theorem arr_132 : arrT Tryd.prog 132 = none := by kernel_rfl
theorem arz_132 : arrSz Tryd.prog 132 = none := by kernel_rfl
theorem int_132 : intT Tryd.prog 132 = none := by kernel_rfl
theorem ist_132 : isStructT Tryd.prog 132 = true := by kernel_rfl
theorem fld_132_0 : fieldT Tryd.prog 132 0 = some (0, 5) := by kernel_rfl
theorem plc_132_0 : placeX Tryd.prog 132 0 = some (0, 1) := by kernel_rfl
theorem fld_132_1 : fieldT Tryd.prog 132 1 = some (1, 5) := by kernel_rfl
theorem plc_132_1 : placeX Tryd.prog 132 1 = some (1, 1) := by kernel_rfl
theorem un_133 : under Tryd.prog 133 = true := by kernel_rfl
theorem sz_133 : szT Tryd.prog 133 = 32 := by kernel_rfl
theorem has_133 : hasT Tryd.prog 133 = true := by kernel_rfl
theorem agg_133 : aggT Tryd.prog 133 = true := by kernel_rfl
theorem str_133 : strT Tryd.prog 133 = false := by kernel_rfl
theorem ifc_133 : ifaceT Tryd.prog 133 = false := by kernel_rfl
theorem by_133 : bytesT Tryd.prog 133 = 32 := by kernel_rfl
theorem zok_133 : zok Tryd.prog 133 = true := by kernel_rfl
theorem za_133 : zA Tryd.prog 133 = [.int .u8 0, .int .u8 0, .int .u8 0, .int .u8 0, .int .u8 0, .int .u8 0, .int .u8 0, .int .u8 0, .int .u8 0, .int .u8 0, .int .u8 0, .int .u8 0, .int .u8 0, .int .u8 0, .int .u8 0, .int .u8 0, .int .u8 0, .int .u8 0, .int .u8 0, .int .u8 0, .int .u8 0, .int .u8 0, .int .u8 0, .int .u8 0, .int .u8 0, .int .u8 0, .int .u8 0, .int .u8 0, .int .u8 0, .int .u8 0, .int .u8 0, .int .u8 0] := by kernel_rfl
theorem el_133 : elemT Tryd.prog 133 = none := by kernel_rfl
theorem arr_133 : arrT Tryd.prog 133 = some (16, 132) := by kernel_rfl
theorem arz_133 : arrSz Tryd.prog 133 = some 2 := by kernel_rfl
theorem int_133 : intT Tryd.prog 133 = none := by kernel_rfl
theorem ist_133 : isStructT Tryd.prog 133 = true := by kernel_rfl
theorem un_134 : under Tryd.prog 134 = true := by kernel_rfl
theorem sz_134 : szT Tryd.prog 134 = 3 := by kernel_rfl
theorem has_134 : hasT Tryd.prog 134 = true := by kernel_rfl
theorem agg_134 : aggT Tryd.prog 134 = true := by kernel_rfl
theorem str_134 : strT Tryd.prog 134 = false := by kernel_rfl
theorem ifc_134 : ifaceT Tryd.prog 134 = false := by kernel_rfl
theorem by_134 : bytesT Tryd.prog 134 = 12 := by kernel_rfl
theorem zok_134 : zok Tryd.prog 134 = true := by kernel_rfl
theorem za_134 : zA Tryd.prog 134 = [.int .i32 0, .int .i32 0, .int .i32 0] := by kernel_rfl
theorem el_134 : elemT Tryd.prog 134 = none := by kernel_rfl
theorem arr_134 : arrT Tryd.prog 134 = some (3, 21) := by kernel_rfl
theorem arz_134 : arrSz Tryd.prog 134 = some 1 := by kernel_rfl
theorem int_134 : intT Tryd.prog 134 = none := by kernel_rfl
theorem un_136 : under Tryd.prog 136 = true := by kernel_rfl
theorem sz_136 : szT Tryd.prog 136 = 5 := by kernel_rfl
theorem has_136 : hasT Tryd.prog 136 = true := by kernel_rfl
theorem agg_136 : aggT Tryd.prog 136 = true := by kernel_rfl
theorem str_136 : strT Tryd.prog 136 = false := by kernel_rfl
theorem ifc_136 : ifaceT Tryd.prog 136 = false := by kernel_rfl
theorem by_136 : bytesT Tryd.prog 136 = 20 := by kernel_rfl
theorem zok_136 : zok Tryd.prog 136 = true := by kernel_rfl
theorem za_136 : zA Tryd.prog 136 = [.int .u32 0, .int .u32 0, .int .i32 0, .int .i32 0, .int .i32 0] := by kernel_rfl
theorem el_136 : elemT Tryd.prog 136 = none := by kernel_rfl
theorem arr_136 : arrT Tryd.prog 136 = none := by kernel_rfl
theorem arz_136 : arrSz Tryd.prog 136 = none := by kernel_rfl
theorem int_136 : intT Tryd.prog 136 = none := by kernel_rfl
theorem fld_136_0 : fieldT Tryd.prog 136 0 = some (0, 109) := by kernel_rfl
theorem plc_136_0 : placeX Tryd.prog 136 0 = some (0, 1) := by kernel_rfl
theorem fld_136_1 : fieldT Tryd.prog 136 1 = some (1, 109) := by kernel_rfl
theorem plc_136_1 : placeX Tryd.prog 136 1 = some (1, 1) := by kernel_rfl
theorem fld_136_2 : fieldT Tryd.prog 136 2 = some (2, 134) := by kernel_rfl
theorem plc_136_2 : placeX Tryd.prog 136 2 = some (2, 3) := by kernel_rfl
theorem cvk_3_21 : cvK Tryd.prog 3 21 = .other := by kernel_rfl
theorem cvk_109_21 : cvK Tryd.prog 109 21 = .other := by kernel_rfl
theorem cvk_21_9 : cvK Tryd.prog 21 9 = .other := by kernel_rfl
theorem cvk_5_3 : cvK Tryd.prog 5 3 = .other := by kernel_rfl
theorem cvk_128_60 : cvK Tryd.prog 128 60 = .other := by kernel_rfl
theorem cvk_60_128 : cvK Tryd.prog 60 128 = .other := by kernel_rfl
theorem cvk_2_21 : cvK Tryd.prog 2 21 = .other := by kernel_rfl
theorem cvk_21_2 : cvK Tryd.prog 21 2 = .other := by kernel_rfl
theorem cvk_86_3 : cvK Tryd.prog 86 3 = .other := by kernel_rfl
theorem cvk_3_86 : cvK Tryd.prog 3 86 = .other := by kernel_rfl
theorem cvk_118_21 : cvK Tryd.prog 118 21 = .other := by kernel_rfl
theorem cvk_21_3 : cvK Tryd.prog 21 3 = .other := by kernel_rfl
theorem cvk_61_9 : cvK Tryd.prog 61 9 = .b2s := by kernel_rfl
theorem cvk_21_5 : cvK Tryd.prog 21 5 = .other := by kernel_rfl
theorem cvk_5_109 : cvK Tryd.prog 5 109 = .other := by kernel_rfl
theorem cvk_5_21 : cvK Tryd.prog 5 21 = .other := by kernel_rfl
theorem cvk_51_9 : cvK Tryd.prog 51 9 = .r2s := by kernel_rfl
theorem mixed : Tryd.prog.follows .mixedOrders = true := by kernel_rfl
attribute [go_sem] un_2 sz_2 has_2 agg_2 str_2 ifc_2 by_2 zok_2 za_2 el_2 arr_2 arz_2 int_2 un_3 sz_3 has_3 agg_3 str_3 ifc_3 by_3 zok_3 za_3 el_3 arr_3 arz_3 int_3 un_4 sz_4 has_4 agg_4 str_4 ifc_4 by_4 zok_4 za_4 el_4 arr_4 arz_4 int_4 un_5 sz_5 has_5 agg_5 str_5 ifc_5 by_5 zok_5 za_5 el_5 arr_5 arz_5 int_5 un_9 sz_9 has_9 agg_9 str_9 ifc_9 by_9 zok_9 za_9 el_9 arr_9 arz_9 int_9 un_21 sz_21 has_21 agg_21 str_21 ifc_21 by_21 zok_21 za_21 el_21 arr_21 arz_21 int_21 un_23 sz_23 has_23 agg_23 str_23 ifc_23 by_23 zok_23 za_23 el_23 eld_23 slo_23 arr_23 arz_23 int_23 un_24 sz_24 has_24 agg_24 str_24 ifc_24 by_24 zok_24 za_24 el_24 arr_24 arz_24 int_24 un_28 sz_28 has_28 agg_28 str_28 ifc_28 by_28 zok_28 za_28 el_28 arr_28 arz_28 int_28 ist_28 fld_28_0 plc_28_0 fld_28_1 plc_28_1 fld_28_2 plc_28_2 fld_28_3 plc_28_3 eqg_28 un_38 sz_38 has_38 agg_38 str_38 ifc_38 by_38 zok_38 za_38 el_38 eld_38 slo_38 arr_38 arz_38 int_38 un_40 sz_40 has_40 agg_40 str_40 ifc_40 by_40 zok_40 za_40 el_40 arr_40 arz_40 int_40 un_42 sz_42 has_42 agg_42 str_42 ifc_42 by_42 zok_42 za_42 el_42 arr_42 arz_42 int_42 ist_42 fld_42_0 plc_42_0 fld_42_1 plc_42_1 fld_42_2 plc_42_2 un_51 sz_51 has_51 agg_51 str_51 ifc_51 by_51 zok_51 za_51 el_51 eld_51 slo_51 arr_51 arz_51 int_51 un_55 sz_55 has_55 agg_55 str_55 ifc_55 by_55 zok_55 za_55 el_55 arr_55 arz_55 int_55 un_56 sz_56 has_56 agg_56 str_56 ifc_56 by_56 zok_56 za_56 el_56 eld_56 slo_56 arr_56 arz_56 int_56 un_60 sz_60 has_60 agg_60 str_60 ifc_60 by_60 zok_60 za_60 el_60 arr_60 arz_60 int_60 un_61 sz_61 has_61 agg_61 str_61 ifc_61 by_61 zok_61 za_61 el_61 eld_61 slo_61 arr_61 arz_61 int_61 un_63 sz_63 has_63 agg_63 str_63 ifc_63 by_63 zok_63 za_63 el_63 arr_63 arz_63 int_63 fld_63_0 plc_63_0 fld_63_1 plc_63_1 un_65 sz_65 has_65 agg_65 str_65 ifc_65 by_65 zok_65 za_65 el_65 arr_65 arz_65 int_65 fld_65_0 plc_65_0 fld_65_1 plc_65_1 un_68 sz_68 has_68 agg_68 str_68 ifc_68 by_68 el_68 arr_68 arz_68 int_68 un_79 sz_79 has_79 agg_79 str_79 ifc_79 by_79 zok_79 za_79 el_79 eld_79 slo_79 arr_79 arz_79 int_79 un_82 sz_82 has_82 agg_82 str_82 ifc_82 by_82 zok_82 za_82 el_82 arr_82 arz_82 int_82 ist_82 fld_82_0 plc_82_0 fld_82_1 plc_82_1 un_83 sz_83 has_83 agg_83 str_83 ifc_83 by_83 zok_83 za_83 el_83 eld_83 slo_83 arr_83 arz_83 int_83 un_86 sz_86 has_86 agg_86 str_86 ifc_86 by_86 zok_86 za_86 el_86 arr_86 arz_86 int_86 un_104 sz_104 has_104 agg_104 str_104 ifc_104 by_104 zok_104 za_104 el_104 arr_104 arz_104 int_104 ist_104 fld_104_0 plc_104_0 fld_104_1 plc_104_1 fld_104_2 plc_104_2 un_105 sz_105 has_105 agg_105 str_105 ifc_105 by_105 zok_105 za_105 el_105 arr_105 arz_105 int_105 ist_105 un_109 sz_109 has_109 agg_109 str_109 ifc_109 by_109 zok_109 za_109 el_109 arr_109 arz_109 int_109 un_114 sz_114 has_114 agg_114 str_114 ifc_114 by_114 zok_114 za_114 el_114 arr_114 arz_114 int_114 ist_114 un_115 sz_115 has_115 agg_115 str_115 ifc_115 by_115 zok_115 za_115 el_115 arr_115 arz_115 int_115 un_118 sz_118 has_118 agg_118 str_118 ifc_118 by_118 zok_118 za_118 el_118 arr_118 arz_118 int_118 un_119 sz_119 has_119 agg_119 str_119 ifc_119 by_119 el_119 arr_119 arz_119 int_119 ist_119 un_120 sz_120 has_120 agg_120 str_120 ifc_120 by_120 zok_120 za_120 el_120 eld_120 slo_120 arr_120 arz_120 int_120 un_122 sz_122 has_122 agg_122 str_122 ifc_122 by_122 zok_122 za_122 el_122 arr_122 arz_122 int_122 ist_122 fld_122_0 plc_122_0 fld_122_1 plc_122_1 un_123 sz_123 has_123 agg_123 str_123 ifc_123 by_123 zok_123 za_123 el_123 arr_123 arz_123 int_123 un_125 sz_125 has_125 agg_125 str_125 ifc_125 by_125 zok_125 za_125 el_125 eld_125 slo_125 arr_125 arz_125 int_125 un_128 sz_128 has_128 agg_128 str_128 ifc_128 by_128 zok_128 za_128 el_128 arr_128 arz_128 int_128 un_130 sz_130 has_130 agg_130 str_130 ifc_130 by_130 el_130 arr_130 arz_130 int_130 un_132 sz_132 has_132 agg_132 str_132 ifc_132 by_132 zok_132 za_132 el_132 arr_132 arz_132 int_132 ist_132 fld_132_0 plc_132_0 fld_132_1 plc_132_1 un_133 sz_133 has_133 agg_133 str_133 ifc_133 by_133 zok_133 za_133 el_133 arr_133 arz_133 int_133 ist_133 un_134 sz_134 has_134 agg_134 str_134 ifc_134 by_134 zok_134 za_134 el_134 arr_134 arz_134 int_134 un_136 sz_136 has_136 agg_136 str_136 ifc_136 by_136 zok_136 za_136 el_136 arr_136 arz_136 int_136 fld_136_0 plc_136_0 fld_136_1 plc_136_1 fld_136_2 plc_136_2 cvk_3_21 cvk_109_21 cvk_21_9 cvk_5_3 cvk_128_60 cvk_60_128 cvk_2_21 cvk_21_2 cvk_86_3 cvk_3_86 cvk_118_21 cvk_21_3 cvk_61_9 cvk_21_5 cvk_5_109 cvk_5_21 cvk_51_9 Tryd.underlying60 Tryd.underlying123 Tryd.underlying109 Tryd.underlying21 Tryd.underlying5 Tryd.underlying9 Tryd.underlying4 Tryd.underlying3 Tryd.underlying28 Tryd.underlying24
end Go.AL
