/- A part of the proof of the statements of this seat: plain functions, and laws on them. No condition of its own. -/
import Derived.Test.YtbffdlbcpdmncaaQ1
import Derived.Test.YtbffdlbcpdmncaaProg
set_option linter.unusedVariables false
set_option linter.unusedSimpArgs false
namespace Yp
open Go Go.Proofs
def TT : List (Nat × Ty) := [(1, .op 0), (2, .int .i64), (3, .int .i64), (4, .bool), (5, .int .u8), (6, .int .u8), (7, .pair (.int .i64) (.pair (.int .i64) (.pair (.bool) (.pair (.int .u8) (.unit))))), (8, .pair (.int .i64) (.pair (.int .i64) (.pair (.bool) (.pair (.int .u8) (.unit))))), (9, .str), (10, .str), (11, .str), (12, .int .u64), (13, .pair (.str) (.pair (.int .u64) (.unit))), (14, .pair (.str) (.pair (.int .u64) (.unit))), (15, .op 3), (16, .op 3), (17, .op 3), (18, .pair (.op 3) (.unit)), (19, .pair (.op 3) (.unit)), (20, .op 1), (21, .int .i32), (22, .sl (.pair (.int .i64) (.pair (.sl (.int .u8)) (.unit)))), (23, .pair (.int .i64) (.pair (.sl (.pair (.int .i64) (.pair (.sl (.int .u8)) (.unit)))) (.unit))), (24, .pair (.int .i64) (.pair (.sl (.pair (.int .i64) (.pair (.sl (.int .u8)) (.unit)))) (.unit))), (25, .op 0), (26, .op 0), (27, .sl (.int .u8)), (28, .int .i64), (30, .op 0), (32, .op 0), (34, .op 0), (35, .op 0), (36, .op 0), (37, .op 0), (38, .op 0), (39, .op 0), (41, .op 0), (43, .op 0), (44, .op 0), (45, .op 0), (46, .op 0), (48, .op 0), (49, .op 0), (50, .op 0), (51, .op 0), (52, .pair (.pair (.int .i64) (.pair (.sl (.pair (.int .i64) (.pair (.sl (.int .u8)) (.unit)))) (.unit))) (.pair (.int .i64) (.pair (.sl (.int .u8)) (.pair (.sl (.int .u8)) (.pair (.int .i64) (.unit)))))), (53, .pair (.pair (.int .i64) (.pair (.sl (.pair (.int .i64) (.pair (.sl (.int .u8)) (.unit)))) (.unit))) (.pair (.int .i64) (.pair (.sl (.int .u8)) (.pair (.sl (.int .u8)) (.pair (.int .i64) (.unit)))))), (54, .op 0), (55, .int .u16), (56, .op 0), (57, .op 0), (58, .pair (.bool) (.pair (.int .i64) (.pair (.int .i64) (.pair (.int .i64) (.pair (.int .i64) (.pair (.sl (.int .u8)) (.pair (.sl (.int .u8)) (.pair (.int .i64) (.unit))))))))), (59, .pair (.bool) (.pair (.int .i64) (.pair (.int .i64) (.pair (.int .i64) (.pair (.int .i64) (.pair (.sl (.int .u8)) (.pair (.sl (.int .u8)) (.pair (.int .i64) (.unit))))))))), (60, .op 0), (61, .op 0), (62, .op 0), (63, .op 0), (65, .op 0), (67, .op 0), (68, .op 0), (69, .op 0), (70, .op 0), (71, .op 0), (73, .op 0), (74, .pair (.int .i64) (.pair (.sl (.int .u8)) (.unit))), (75, .pair (.int .i64) (.pair (.sl (.int .u8)) (.unit))), (76, .op 0), (77, .op 0), (79, .op 0), (80, .op 0), (81, .sl (.int .i64)), (82, .op 0), (83, .op 0), (84, .op 0), (85, .op 0), (86, .op 0), (87, .op 0), (88, .op 0), (89, .op 0), (90, .op 0), (91, .fn [65]), (93, .op 0), (95, .op 0), (97, .op 0), (98, .pair (.int .i64) (.pair (.int .i64) (.unit))), (99, .pair (.int .i64) (.pair (.int .i64) (.unit))), (101, .op 0), (103, .op 0), (105, .op 0), (107, .op 0), (109, .op 0), (110, .fn [106]), (111, .pair (.sl (.pair (.int .i64) (.pair (.sl (.int .u8)) (.unit)))) (.pair (.fn [106]) (.unit))), (112, .pair (.sl (.pair (.int .i64) (.pair (.sl (.int .u8)) (.unit)))) (.pair (.fn [106]) (.unit))), (113, .op 0), (114, .op 0), (115, .op 0), (116, .op 0), (117, .op 0), (118, .op 0), (119, .pair (.bool) (.pair (.int .i64) (.pair (.int .i64) (.pair (.int .i64) (.pair (.int .i64) (.pair (.sl (.int .u8)) (.pair (.sl (.int .u8)) (.pair (.int .i64) (.unit))))))))), (120, .op 0), (121, .op 0), (122, .op 0), (123, .op 0), (124, .int .u64), (125, .op 0), (127, .op 0), (128, .op 0), (130, .op 0), (131, .op 0), (132, .op 0), (133, .op 0), (134, .op 0), (135, .op 0), (136, .op 0), (137, .sl (.sl (.int .i64))), (138, .op 0), (139, .sl (.sl (.pair (.int .i64) (.pair (.sl (.int .u8)) (.unit))))), (140, .op 0), (141, .op 0), (142, .op 0), (144, .op 0), (145, .op 0), (146, .op 2), (147, .op 0), (148, .op 0), (149, .pair (.op 3) (.pair (.op 3) (.pair (.op 3) (.pair (.str) (.unit))))), (150, .pair (.op 3) (.pair (.op 3) (.pair (.op 3) (.pair (.str) (.unit))))), (151, .ar 0 (.op 3)), (152, .pair (.ar 0 (.op 3)) (.unit)), (153, .pair (.ar 0 (.op 3)) (.unit)), (154, .op 0), (155, .int .u32), (156, .int .u8), (157, .int .u8), (158, .op 0), (159, .op 3), (160, .int .i32), (161, .int .i32), (162, .pair (.int .u64) (.pair (.int .u64) (.pair (.int .u32) (.pair (.int .u8) (.pair (.int .u8) (.pair (.int .u8) (.pair (.int .u8) (.pair (.op 0) (.pair (.op 3) (.pair (.int .i32) (.pair (.int .i32) (.unit)))))))))))), (163, .pair (.int .u64) (.pair (.int .u64) (.pair (.int .u32) (.pair (.int .u8) (.pair (.int .u8) (.pair (.int .u8) (.pair (.int .u8) (.pair (.op 0) (.pair (.op 3) (.pair (.int .i32) (.pair (.int .i32) (.unit))))))))))))]
def MM : List (Nat × Ty × Ty) := [(146, .int .i64, .int .i64)]
def CC : List Nat := []
theorem hTT : tabOK Try.prog (lookT TT) := tabOK_of _ _ (by kernel_rfl)
theorem hCC : cmpOK Try.prog (lookT TT) (lookC CC) := cmpOK_of _ _ _ (by kernel_rfl)
theorem hMM : mapsOK Try.prog (lookM MM) := mapsOK_of _ _ (by kernel_rfl)
theorem hMix : Try.prog.follows .mixedOrders = true := by kernel_rfl
abbrev eN (G : List (Nat × FSpec)) (I : List (Nat × Inl)) : Env := { T := lookT TT, G := lookG G, I := lookI I, M := lookM MM, C := lookC CC }
theorem mkC {G : List (Nat × FSpec)} {I : List (Nat × Inl)} {f : Nat} {fn : Func} {s : FSpec} (hG : ∀ f s, lookG G f = some s → FOK Try.prog f s) (hI : ∀ f g, lookI I f = some g → InlOK Try.prog f g) (hf : Try.prog.funcs[f]? = some fn) (nv : Nat) (hn : (fn.name == "runtime.NumGoroutine") = false) (hb : fn.body.isSome = true)
    (he : ∀ x, model (eN G I) fn nv s.args s.res x = s.fn x) : FOK Try.prog f s := (model_go (E := eN G I) ⟨hTT, hCC, hMM, hG, hI⟩ hMix hf hn nv s.args s.res hb).congr he
theorem mkI {G : List (Nat × FSpec)} {I : List (Nat × Inl)} {f : Nat} {fn : Func} (hG : ∀ f s, lookG G f = some s → FOK Try.prog f s) (hI : ∀ f g, lookI I f = some g → InlOK Try.prog f g) (hf : Try.prog.funcs[f]? = some fn) (nv : Nat) (hn : (fn.name == "runtime.NumGoroutine") = false) (hb : fn.body.isSome = true) :
    InlOK Try.prog f (inlF (eN G I) fn nv) := inl_go (E := eN G I) ⟨hTT, hCC, hMM, hG, hI⟩ hMix hf hn nv hb
noncomputable abbrev s_iso_figure : FSpec := ⟨[.int .i64, .int .i64], [.im (.int .i64)], iso_figure⟩
theorem c_iso_figure : FOK Try.prog 61 s_iso_figure := mkC lookG_nil lookI_nil Try.func61 5 (by kernel_rfl) (by kernel_rfl) (fun x => by kernel_rfl)
noncomputable abbrev s_iso_Type : FSpec := ⟨[.int .i64], [.im (.bool)], iso_Type⟩
theorem c_iso_Type : FOK Try.prog 27 s_iso_Type := mkC (lookG_cons lookG_nil c_iso_figure) lookI_nil Try.func27 4 (by kernel_rfl) (by kernel_rfl) (fun x => by kernel_rfl)
noncomputable abbrev s_field_figures : FSpec := ⟨[.int .i64], [.im (.int .i64)], field_figures⟩
theorem c_field_figures : FOK Try.prog 119 s_field_figures := mkC lookG_nil lookI_nil Try.func119 3 (by kernel_rfl) (by kernel_rfl) (fun x => by kernel_rfl)
noncomputable def I_field_others : Inl := inlF (eN [] []) Try.f120 3
theorem i_field_others : InlOK Try.prog 120 I_field_others := mkI lookG_nil lookI_nil Try.func120 3 (by kernel_rfl) (by kernel_rfl)
noncomputable abbrev s_field_long : FSpec := ⟨[.int .i64, .int .i64], [.im (.int .i64)], field_long⟩
theorem c_field_long : FOK Try.prog 103 s_field_long := mkC (lookG_cons lookG_nil c_field_figures) (lookI_cons lookI_nil i_field_others) Try.func103 5 (by kernel_rfl) (by kernel_rfl) (fun x => by kernel_rfl)
noncomputable abbrev s_field_Of : FSpec := ⟨[.int .i64], [.im (.pair (.int .i64) (.pair (.int .i64) (.unit))), .im (.bool)], field_Of⟩
theorem c_field_Of : FOK Try.prog 70 s_field_Of := mkC (lookG_cons lookG_nil c_field_long) lookI_nil Try.func70 6 (by kernel_rfl) (by kernel_rfl) (fun x => by kernel_rfl)
noncomputable abbrev s_field_told : FSpec := ⟨[.int .i64], [.im (.int .i64)], field_told⟩
theorem c_field_told : FOK Try.prog 94 s_field_told := mkC lookG_nil lookI_nil Try.func94 3 (by kernel_rfl) (by kernel_rfl) (fun x => by kernel_rfl)
noncomputable def I_field_all_1 : Inl := inlF (eN [] [(120, I_field_others)]) Try.f117 7
theorem i_field_all_1 : InlOK Try.prog 117 I_field_all_1 := mkI lookG_nil (lookI_cons lookI_nil i_field_others) Try.func117 7 (by kernel_rfl) (by kernel_rfl)
noncomputable def I_field_all : Inl := inlF (eN [] [(120, I_field_others), (117, I_field_all_1)]) Try.f100 3
theorem i_field_all : InlOK Try.prog 100 I_field_all := mkI lookG_nil (lookI_cons (lookI_cons lookI_nil i_field_all_1) i_field_others) Try.func100 3 (by kernel_rfl) (by kernel_rfl)
noncomputable abbrev s_field_Fits : FSpec := ⟨[.int .i64, .sl (.int .u8)], [.im (.bool)], field_Fits⟩
theorem c_field_Fits : FOK Try.prog 62 s_field_Fits := mkC (lookG_cons (lookG_cons lookG_nil c_field_told) c_field_Of) (lookI_cons (lookI_cons lookI_nil i_field_all) i_field_all_1) Try.func62 8 (by kernel_rfl) (by kernel_rfl) (fun x => by kernel_rfl)
noncomputable abbrev s_iso_Right : FSpec := ⟨[.pair (.int .i64) (.pair (.sl (.pair (.int .i64) (.pair (.sl (.int .u8)) (.unit)))) (.unit))], [.im (.bool)], iso_Right⟩
theorem c_iso_Right : FOK Try.prog 23 s_iso_Right := mkC (lookG_cons (lookG_cons lookG_nil c_field_Fits) c_iso_Type) lookI_nil Try.func23 6 (by kernel_rfl) (by kernel_rfl) (fun x => by kernel_rfl)
noncomputable abbrev s_dig_Digits : FSpec := ⟨[.int .i64, .int .i64], [.im (.str), .im (.int .i64)], dig_Digits⟩
theorem c_dig_Digits : FOK Try.prog 53 s_dig_Digits := mkC lookG_nil lookI_nil Try.func53 8 (by kernel_rfl) (by kernel_rfl) (fun x => by kernel_rfl)
noncomputable abbrev s_dig_figure : FSpec := ⟨[.int .i32], [.im (.int .i64), .im (.bool)], dig_figure⟩
theorem c_dig_figure : FOK Try.prog 91 s_dig_figure := mkC lookG_nil lookI_nil Try.func91 4 (by kernel_rfl) (by kernel_rfl) (fun x => by kernel_rfl)
noncomputable abbrev s_bytes_Equal : FSpec := ⟨[.sl (.int .u8), .sl (.int .u8)], [.im (.bool)], bytes_Equal⟩
theorem c_bytes_Equal : FOK Try.prog 66 s_bytes_Equal := mkC lookG_nil lookI_nil Try.func66 5 (by kernel_rfl) (by kernel_rfl) (fun x => by kernel_rfl)
noncomputable abbrev s_iso_Same_1 : FSpec := ⟨[.pair (.int .i64) (.pair (.sl (.int .u8)) (.unit)), .pair (.int .i64) (.pair (.sl (.int .u8)) (.unit))], [.im (.bool)], iso_Same_1⟩
theorem c_iso_Same_1 : FOK Try.prog 65 s_iso_Same_1 := mkC (lookG_cons lookG_nil c_bytes_Equal) lookI_nil Try.func65 5 (by kernel_rfl) (by kernel_rfl) (fun x => by kernel_rfl)
noncomputable abbrev s_dig_Bcd : FSpec := ⟨[.str], [.ow (.int .u8), .im (.int .i64)], dig_Bcd⟩
theorem c_dig_Bcd : FOK Try.prog 54 s_dig_Bcd := mkC (lookG_cons (lookG_cons lookG_nil c_iso_Same_1) c_dig_figure) lookI_nil Try.func54 10 (by kernel_rfl) (by kernel_rfl) (fun x => by kernel_rfl)
noncomputable abbrev s_bitmap_Right : FSpec := ⟨[.sl (.int .i64)], [.im (.bool)], bitmap_Right⟩
theorem c_bitmap_Right : FOK Try.prog 92 s_bitmap_Right := mkC lookG_nil lookI_nil Try.func92 6 (by kernel_rfl) (by kernel_rfl) (fun x => by kernel_rfl)
noncomputable abbrev s_bitmap_Place : FSpec := ⟨[.int .i64], [.im (.int .i64), .im (.int .u8)], bitmap_Place⟩
theorem c_bitmap_Place : FOK Try.prog 93 s_bitmap_Place := mkC lookG_nil lookI_nil Try.func93 4 (by kernel_rfl) (by kernel_rfl) (fun x => by kernel_rfl)
noncomputable abbrev s_bitmap_Write : FSpec := ⟨[.sl (.int .i64)], [.ow (.int .u8), .im (.int .i64)], bitmap_Write⟩
theorem c_bitmap_Write : FOK Try.prog 55 s_bitmap_Write := mkC (lookG_cons (lookG_cons lookG_nil c_bitmap_Place) c_bitmap_Right) lookI_nil Try.func55 9 (by kernel_rfl) (by kernel_rfl) (fun x => by kernel_rfl)
noncomputable abbrev s_field_Write : FSpec := ⟨[.int .i64, .sl (.int .u8)], [.ow (.int .u8), .im (.int .i64)], field_Write⟩
theorem c_field_Write : FOK Try.prog 56 s_field_Write := mkC (lookG_cons (lookG_cons (lookG_cons (lookG_cons (lookG_cons lookG_nil c_field_told) c_field_Of) c_field_Fits) c_dig_Bcd) c_dig_Digits) lookI_nil Try.func56 14 (by kernel_rfl) (by kernel_rfl) (fun x => by kernel_rfl)
noncomputable abbrev s_iso_Write : FSpec := ⟨[.pair (.int .i64) (.pair (.sl (.pair (.int .i64) (.pair (.sl (.int .u8)) (.unit)))) (.unit))], [.ow (.int .u8), .im (.int .i64)], iso_Write⟩
theorem c_iso_Write : FOK Try.prog 18 s_iso_Write := mkC (lookG_cons (lookG_cons (lookG_cons (lookG_cons (lookG_cons lookG_nil c_field_Write) c_bitmap_Write) c_dig_Bcd) c_dig_Digits) c_iso_Right) lookI_nil Try.func18 17 (by kernel_rfl) (by kernel_rfl) (fun x => by kernel_rfl)
noncomputable abbrev s_iso_Reply : FSpec := ⟨[.int .i64], [.im (.int .i64), .im (.bool)], iso_Reply⟩
theorem c_iso_Reply : FOK Try.prog 20 s_iso_Reply := mkC (lookG_cons (lookG_cons lookG_nil c_iso_figure) c_iso_Type) lookI_nil Try.func20 5 (by kernel_rfl) (by kernel_rfl) (fun x => by kernel_rfl)
noncomputable abbrev s_slices_EqualFunc_api_Val_api_Val_api_Val_api_Val : FSpec := ⟨[.sl (.pair (.int .i64) (.pair (.sl (.int .u8)) (.unit))), .sl (.pair (.int .i64) (.pair (.sl (.int .u8)) (.unit))), .fn [65]], [.im (.bool)], slices_EqualFunc_api_Val_api_Val_api_Val_api_Val⟩
theorem c_slices_EqualFunc_api_Val_api_Val_api_Val_api_Val : FOK Try.prog 64 s_slices_EqualFunc_api_Val_api_Val_api_Val_api_Val := mkC (lookG_cons lookG_nil c_iso_Same_1) lookI_nil Try.func64 10 (by kernel_rfl) (by kernel_rfl) (fun x => by kernel_rfl)
noncomputable abbrev s_iso_Same : FSpec := ⟨[.pair (.int .i64) (.pair (.sl (.pair (.int .i64) (.pair (.sl (.int .u8)) (.unit)))) (.unit)), .pair (.int .i64) (.pair (.sl (.pair (.int .i64) (.pair (.sl (.int .u8)) (.unit)))) (.unit))], [.im (.bool)], iso_Same⟩
theorem c_iso_Same : FOK Try.prog 25 s_iso_Same := mkC (lookG_cons (lookG_cons lookG_nil c_iso_Same_1) c_slices_EqualFunc_api_Val_api_Val_api_Val_api_Val) lookI_nil Try.func25 5 (by kernel_rfl) (by kernel_rfl) (fun x => by kernel_rfl)
noncomputable abbrev s_iso_Class : FSpec := ⟨[.int .i64], [.im (.int .i64)], iso_Class⟩
theorem c_iso_Class : FOK Try.prog 29 s_iso_Class := mkC (lookG_cons (lookG_cons lookG_nil c_iso_figure) c_iso_Type) lookI_nil Try.func29 3 (by kernel_rfl) (by kernel_rfl) (fun x => by kernel_rfl)
noncomputable abbrev s_dig_Hex : FSpec := ⟨[.sl (.int .u8)], [.im (.str)], dig_Hex⟩
theorem c_dig_Hex : FOK Try.prog 101 s_dig_Hex := mkC lookG_nil lookI_nil Try.func101 6 (by kernel_rfl) (by kernel_rfl) (fun x => by kernel_rfl)
noncomputable abbrev s_dig_TakeBcd : FSpec := ⟨[.sl (.int .u8), .int .i64, .int .i64], [.im (.str), .im (.int .i64), .im (.int .i64)], dig_TakeBcd⟩
theorem c_dig_TakeBcd : FOK Try.prog 67 s_dig_TakeBcd := mkC (lookG_cons (lookG_cons (lookG_cons lookG_nil c_iso_Same_1) c_dig_Hex) c_dig_figure) lookI_nil Try.func67 15 (by kernel_rfl) (by kernel_rfl) (fun x => by kernel_rfl)
noncomputable abbrev s_dig_Value : FSpec := ⟨[.str], [.im (.int .i64), .im (.int .i64)], dig_Value⟩
theorem c_dig_Value : FOK Try.prog 68 s_dig_Value := mkC (lookG_cons (lookG_cons lookG_nil c_iso_Same_1) c_dig_figure) lookI_nil Try.func68 9 (by kernel_rfl) (by kernel_rfl) (fun x => by kernel_rfl)
theorem c_bitmap_Read : FOK Try.prog 69 s_bitmap_Read := h_bitmap_Read c_bitmap_Place
noncomputable abbrev s_iso_fields_1 : FSpec := ⟨[.pair (.int .i64) (.pair (.sl (.int .u8)) (.unit))], [.im (.int .i64)], iso_fields_1⟩
theorem c_iso_fields_1 : FOK Try.prog 106 s_iso_fields_1 := mkC lookG_nil lookI_nil Try.func106 3 (by kernel_rfl) (by kernel_rfl) (fun x => by kernel_rfl)
noncomputable abbrev s_field_Read : FSpec := ⟨[.int .i64, .sl (.int .u8), .int .i64], [.ow (.int .u8), .im (.int .i64), .im (.int .i64)], field_Read⟩
theorem c_field_Read : FOK Try.prog 71 s_field_Read := mkC (lookG_cons (lookG_cons (lookG_cons (lookG_cons (lookG_cons (lookG_cons (lookG_cons lookG_nil c_iso_fields_1) c_iso_Same_1) c_field_told) c_field_Of) c_dig_Value) c_dig_TakeBcd) c_field_Fits) lookI_nil Try.func71 20 (by kernel_rfl) (by kernel_rfl) (fun x => by kernel_rfl)
noncomputable abbrev s_iso_Read : FSpec := ⟨[.sl (.int .u8)], [.im (.pair (.int .i64) (.pair (.sl (.pair (.int .i64) (.pair (.sl (.int .u8)) (.unit)))) (.unit))), .im (.int .i64)], iso_Read⟩
theorem c_iso_Read : FOK Try.prog 31 s_iso_Read := mkC (lookG_cons (lookG_cons (lookG_cons (lookG_cons (lookG_cons (lookG_cons (lookG_cons lookG_nil c_iso_Same_1) c_field_Read) c_field_Of) c_bitmap_Read) c_dig_Value) c_dig_TakeBcd) c_iso_Type) lookI_nil Try.func31 20 (by kernel_rfl) (by kernel_rfl) (fun x => by kernel_rfl)
noncomputable abbrev s_iso_fields : FSpec := ⟨[.pair (.int .i64) (.pair (.sl (.pair (.int .i64) (.pair (.sl (.int .u8)) (.unit)))) (.unit))], [.im (.pair (.sl (.pair (.int .i64) (.pair (.sl (.int .u8)) (.unit)))) (.pair (.fn [106]) (.unit)))], iso_fields⟩
theorem c_iso_fields : FOK Try.prog 76 s_iso_fields := mkC (lookG_cons lookG_nil c_iso_fields_1) lookI_nil Try.func76 3 (by kernel_rfl) (by kernel_rfl) (fun x => by kernel_rfl)
noncomputable abbrev s_iso_rows_api_Val_find : FSpec := ⟨[.pair (.sl (.pair (.int .i64) (.pair (.sl (.int .u8)) (.unit)))) (.pair (.fn [106]) (.unit)), .int .i64], [.im (.int .i64), .im (.bool)], iso_rows_api_Val_find⟩
theorem c_iso_rows_api_Val_find : FOK Try.prog 78 s_iso_rows_api_Val_find := mkC (lookG_cons lookG_nil c_iso_fields_1) lookI_nil Try.func78 9 (by kernel_rfl) (by kernel_rfl) (fun x => by kernel_rfl)
noncomputable def I_slices_Grow_api_Val_api_Val : Inl := inlF (eN [(106, s_iso_fields_1)] []) Try.f107 5
theorem i_slices_Grow_api_Val_api_Val : InlOK Try.prog 107 I_slices_Grow_api_Val_api_Val := mkI (lookG_cons lookG_nil c_iso_fields_1) lookI_nil Try.func107 5 (by kernel_rfl) (by kernel_rfl)
noncomputable abbrev s_slices_Concat_api_Val_api_Val : FSpec := ⟨[.sl (.sl (.pair (.int .i64) (.pair (.sl (.int .u8)) (.unit))))], [.ow (.pair (.int .i64) (.pair (.sl (.int .u8)) (.unit)))], slices_Concat_api_Val_api_Val⟩
theorem c_slices_Concat_api_Val_api_Val : FOK Try.prog 79 s_slices_Concat_api_Val_api_Val := mkC (lookG_cons lookG_nil c_iso_fields_1) (lookI_cons lookI_nil i_slices_Grow_api_Val_api_Val) Try.func79 9 (by kernel_rfl) (by kernel_rfl) (fun x => by kernel_rfl)
noncomputable abbrev s_iso_rows_api_Val_with : FSpec := ⟨[.pair (.sl (.pair (.int .i64) (.pair (.sl (.int .u8)) (.unit)))) (.pair (.fn [106]) (.unit)), .pair (.int .i64) (.pair (.sl (.int .u8)) (.unit))], [.ow (.pair (.int .i64) (.pair (.sl (.int .u8)) (.unit)))], iso_rows_api_Val_with⟩
theorem c_iso_rows_api_Val_with : FOK Try.prog 77 s_iso_rows_api_Val_with := mkC (lookG_cons (lookG_cons (lookG_cons lookG_nil c_iso_fields_1) c_slices_Concat_api_Val_api_Val) c_iso_rows_api_Val_find) lookI_nil Try.func77 8 (by kernel_rfl) (by kernel_rfl) (fun x => by kernel_rfl)
noncomputable abbrev s_iso_Set : FSpec := ⟨[.pair (.int .i64) (.pair (.sl (.pair (.int .i64) (.pair (.sl (.int .u8)) (.unit)))) (.unit)), .int .i64, .sl (.int .u8)], [.im (.pair (.int .i64) (.pair (.sl (.pair (.int .i64) (.pair (.sl (.int .u8)) (.unit)))) (.unit))), .im (.int .i64)], iso_Set⟩
theorem c_iso_Set : FOK Try.prog 33 s_iso_Set := mkC (lookG_cons (lookG_cons (lookG_cons (lookG_cons (lookG_cons lookG_nil c_iso_fields_1) c_iso_rows_api_Val_with) c_iso_fields) c_field_Of) c_field_Fits) lookI_nil Try.func33 10 (by kernel_rfl) (by kernel_rfl) (fun x => by kernel_rfl)
noncomputable abbrev s_iso_Get : FSpec := ⟨[.pair (.int .i64) (.pair (.sl (.pair (.int .i64) (.pair (.sl (.int .u8)) (.unit)))) (.unit)), .int .i64], [.im (.sl (.int .u8)), .im (.bool)], iso_Get⟩
theorem c_iso_Get : FOK Try.prog 35 s_iso_Get := mkC (lookG_cons (lookG_cons (lookG_cons lookG_nil c_iso_fields_1) c_iso_rows_api_Val_find) c_iso_fields) lookI_nil Try.func35 8 (by kernel_rfl) (by kernel_rfl) (fun x => by kernel_rfl)
noncomputable abbrev s_iso_Drop : FSpec := ⟨[.pair (.int .i64) (.pair (.sl (.pair (.int .i64) (.pair (.sl (.int .u8)) (.unit)))) (.unit)), .int .i64], [.im (.pair (.int .i64) (.pair (.sl (.pair (.int .i64) (.pair (.sl (.int .u8)) (.unit)))) (.unit)))], iso_Drop⟩
theorem c_iso_Drop : FOK Try.prog 37 s_iso_Drop := mkC (lookG_cons (lookG_cons (lookG_cons (lookG_cons lookG_nil c_iso_fields_1) c_slices_Concat_api_Val_api_Val) c_iso_rows_api_Val_find) c_iso_fields) lookI_nil Try.func37 7 (by kernel_rfl) (by kernel_rfl) (fun x => by kernel_rfl)
noncomputable abbrev s_ref01_sign : FSpec := ⟨[.int .u8], [.im (.int .u8)], ref01_sign⟩
theorem c_ref01_sign : FOK Try.prog 90 s_ref01_sign := mkC lookG_nil lookI_nil Try.func90 3 (by kernel_rfl) (by kernel_rfl) (fun x => by kernel_rfl)
noncomputable abbrev s_ref01_Hex : FSpec := ⟨[.sl (.int .u8)], [.im (.str)], ref01_Hex⟩
theorem c_ref01_Hex : FOK Try.prog 52 s_ref01_Hex := mkC (lookG_cons lookG_nil c_ref01_sign) lookI_nil Try.func52 5 (by kernel_rfl) (by kernel_rfl) (fun x => by kernel_rfl)
noncomputable abbrev s_law07_shown : FSpec := ⟨[], [.im (.bool)], law07_shown⟩
theorem c_law07_shown : FOK Try.prog 16 s_law07_shown := mkC (lookG_cons (lookG_cons (lookG_cons (lookG_cons (lookG_cons (lookG_cons (lookG_cons (lookG_cons (lookG_cons (lookG_cons (lookG_cons (lookG_cons lookG_nil c_iso_Same_1) c_ref01_Hex) c_iso_Drop) c_iso_Get) c_iso_Set) c_iso_Read) c_iso_Class) c_iso_Type) c_iso_Same) c_iso_Right) c_iso_Reply) c_iso_Write) lookI_nil Try.func16 12 (by kernel_rfl) (by kernel_rfl) (fun x => by kernel_rfl)
noncomputable abbrev s_ref07_Few : FSpec := ⟨[.pair (.int .i64) (.pair (.sl (.pair (.int .i64) (.pair (.sl (.int .u8)) (.unit)))) (.unit))], [.im (.bool)], ref07_Few⟩
theorem c_ref07_Few : FOK Try.prog 17 s_ref07_Few := mkC lookG_nil lookI_nil Try.func17 4 (by kernel_rfl) (by kernel_rfl) (fun x => by kernel_rfl)
noncomputable abbrev s_ref07_Type : FSpec := ⟨[.int .i64], [.im (.bool)], ref07_Type⟩
theorem c_ref07_Type : FOK Try.prog 28 s_ref07_Type := mkC lookG_nil lookI_nil Try.func28 3 (by kernel_rfl) (by kernel_rfl) (fun x => by kernel_rfl)
noncomputable abbrev s_ref05_in : FSpec := ⟨[.sl (.int .i64), .int .i64], [.im (.bool)], ref05_in⟩
theorem c_ref05_in : FOK Try.prog 105 s_ref05_in := mkC lookG_nil lookI_nil Try.func105 6 (by kernel_rfl) (by kernel_rfl) (fun x => by kernel_rfl)
noncomputable abbrev s_ref05_Of : FSpec := ⟨[.int .i64], [.im (.pair (.int .i64) (.pair (.int .i64) (.unit))), .im (.bool)], ref05_Of⟩
theorem c_ref05_Of : FOK Try.prog 74 s_ref05_Of := mkC (lookG_cons lookG_nil c_ref05_in) lookI_nil Try.func74 7 (by kernel_rfl) (by kernel_rfl) (fun x => by kernel_rfl)
noncomputable abbrev s_ref05_fits : FSpec := ⟨[.pair (.int .i64) (.pair (.int .i64) (.unit)), .sl (.int .u8)], [.im (.bool)], ref05_fits⟩
theorem c_ref05_fits : FOK Try.prog 95 s_ref05_fits := mkC lookG_nil lookI_nil Try.func95 6 (by kernel_rfl) (by kernel_rfl) (fun x => by kernel_rfl)
noncomputable abbrev s_ref05_Fits : FSpec := ⟨[.int .i64, .sl (.int .u8)], [.im (.bool)], ref05_Fits⟩
theorem c_ref05_Fits : FOK Try.prog 63 s_ref05_Fits := mkC (lookG_cons (lookG_cons lookG_nil c_ref05_fits) c_ref05_Of) lookI_nil Try.func63 8 (by kernel_rfl) (by kernel_rfl) (fun x => by kernel_rfl)
noncomputable abbrev s_ref07_Right : FSpec := ⟨[.pair (.int .i64) (.pair (.sl (.pair (.int .i64) (.pair (.sl (.int .u8)) (.unit)))) (.unit))], [.im (.bool)], ref07_Right⟩
theorem c_ref07_Right : FOK Try.prog 24 s_ref07_Right := mkC (lookG_cons (lookG_cons lookG_nil c_ref05_Fits) c_ref07_Type) lookI_nil Try.func24 5 (by kernel_rfl) (by kernel_rfl) (fun x => by kernel_rfl)
noncomputable abbrev s_ref01_Figures : FSpec := ⟨[.str], [.im (.bool)], ref01_Figures⟩
theorem c_ref01_Figures : FOK Try.prog 88 s_ref01_Figures := mkC lookG_nil lookI_nil Try.func88 4 (by kernel_rfl) (by kernel_rfl) (fun x => by kernel_rfl)
noncomputable abbrev s_ref01_Bcd : FSpec := ⟨[.str], [.ow (.int .u8), .im (.int .i64)], ref01_Bcd⟩
theorem c_ref01_Bcd : FOK Try.prog 59 s_ref01_Bcd := mkC (lookG_cons lookG_nil c_ref01_Figures) lookI_nil Try.func59 6 (by kernel_rfl) (by kernel_rfl) (fun x => by kernel_rfl)
noncomputable abbrev s_ref05_count : FSpec := ⟨[.int .i64], [.im (.int .i64)], ref05_count⟩
theorem c_ref05_count : FOK Try.prog 96 s_ref05_count := mkC lookG_nil lookI_nil Try.func96 3 (by kernel_rfl) (by kernel_rfl) (fun x => by kernel_rfl)
noncomputable abbrev s_ref01_power : FSpec := ⟨[.int .i64, .int .i64], [.im (.int .i64)], ref01_power⟩
theorem c_ref01_power : FOK Try.prog 89 s_ref01_power := mkC lookG_nil lookI_nil Try.func89 7 (by kernel_rfl) (by kernel_rfl) (fun x => by kernel_rfl)
noncomputable abbrev s_ref01_Digits : FSpec := ⟨[.int .i64, .int .i64], [.im (.str), .im (.int .i64)], ref01_Digits⟩
theorem c_ref01_Digits : FOK Try.prog 97 s_ref01_Digits := mkC (lookG_cons lookG_nil c_ref01_power) lookI_nil Try.func97 8 (by kernel_rfl) (by kernel_rfl) (fun x => by kernel_rfl)
noncomputable abbrev s_ref05_Write : FSpec := ⟨[.int .i64, .sl (.int .u8)], [.ow (.int .u8), .im (.int .i64)], ref05_Write⟩
theorem c_ref05_Write : FOK Try.prog 57 s_ref05_Write := mkC (lookG_cons (lookG_cons (lookG_cons (lookG_cons (lookG_cons lookG_nil c_ref01_Digits) c_ref05_count) c_ref05_fits) c_ref05_Of) c_ref01_Bcd) lookI_nil Try.func57 16 (by kernel_rfl) (by kernel_rfl) (fun x => by kernel_rfl)
noncomputable abbrev s_ref06_Right : FSpec := ⟨[.sl (.int .i64)], [.im (.bool)], ref06_Right⟩
theorem c_ref06_Right : FOK Try.prog 98 s_ref06_Right := mkC lookG_nil lookI_nil Try.func98 4 (by kernel_rfl) (by kernel_rfl) (fun x => by kernel_rfl)
noncomputable abbrev s_ref06_Place : FSpec := ⟨[.int .i64], [.im (.int .i64), .im (.int .u8)], ref06_Place⟩
theorem c_ref06_Place : FOK Try.prog 99 s_ref06_Place := mkC lookG_nil lookI_nil Try.func99 6 (by kernel_rfl) (by kernel_rfl) (fun x => by kernel_rfl)
noncomputable abbrev s_ref06_Write : FSpec := ⟨[.sl (.int .i64)], [.ow (.int .u8), .im (.int .i64)], ref06_Write⟩
theorem c_ref06_Write : FOK Try.prog 58 s_ref06_Write := mkC (lookG_cons (lookG_cons lookG_nil c_ref06_Place) c_ref06_Right) lookI_nil Try.func58 11 (by kernel_rfl) (by kernel_rfl) (fun x => by kernel_rfl)
noncomputable abbrev s_ref07_four : FSpec := ⟨[.int .i64], [.im (.str)], ref07_four⟩
theorem c_ref07_four : FOK Try.prog 60 s_ref07_four := mkC (lookG_cons lookG_nil c_ref01_Digits) lookI_nil Try.func60 5 (by kernel_rfl) (by kernel_rfl) (fun x => by kernel_rfl)
noncomputable abbrev s_ref07_Write : FSpec := ⟨[.pair (.int .i64) (.pair (.sl (.pair (.int .i64) (.pair (.sl (.int .u8)) (.unit)))) (.unit))], [.ow (.int .u8), .im (.int .i64)], ref07_Write⟩
theorem c_ref07_Write : FOK Try.prog 19 s_ref07_Write := mkC (lookG_cons (lookG_cons (lookG_cons (lookG_cons (lookG_cons lookG_nil c_ref07_four) c_ref01_Bcd) c_ref06_Write) c_ref05_Write) c_ref07_Right) lookI_nil Try.func19 14 (by kernel_rfl) (by kernel_rfl) (fun x => by kernel_rfl)
noncomputable abbrev s_ref07_Reply : FSpec := ⟨[.int .i64], [.im (.int .i64), .im (.bool)], ref07_Reply⟩
theorem c_ref07_Reply : FOK Try.prog 21 s_ref07_Reply := mkC (lookG_cons lookG_nil c_ref07_Type) lookI_nil Try.func21 5 (by kernel_rfl) (by kernel_rfl) (fun x => by kernel_rfl)
noncomputable abbrev s_ref01_Same : FSpec := ⟨[.sl (.int .u8), .sl (.int .u8)], [.im (.bool)], ref01_Same⟩
theorem c_ref01_Same : FOK Try.prog 22 s_ref01_Same := mkC lookG_nil lookI_nil Try.func22 5 (by kernel_rfl) (by kernel_rfl) (fun x => by kernel_rfl)
noncomputable abbrev s_ref07_Same : FSpec := ⟨[.pair (.int .i64) (.pair (.sl (.pair (.int .i64) (.pair (.sl (.int .u8)) (.unit)))) (.unit)), .pair (.int .i64) (.pair (.sl (.pair (.int .i64) (.pair (.sl (.int .u8)) (.unit)))) (.unit))], [.im (.bool)], ref07_Same⟩
theorem c_ref07_Same : FOK Try.prog 26 s_ref07_Same := mkC (lookG_cons lookG_nil c_ref01_Same) lookI_nil Try.func26 6 (by kernel_rfl) (by kernel_rfl) (fun x => by kernel_rfl)
noncomputable abbrev s_ref07_Class : FSpec := ⟨[.int .i64], [.im (.int .i64)], ref07_Class⟩
theorem c_ref07_Class : FOK Try.prog 30 s_ref07_Class := mkC (lookG_cons lookG_nil c_ref07_Type) lookI_nil Try.func30 4 (by kernel_rfl) (by kernel_rfl) (fun x => by kernel_rfl)
noncomputable abbrev s_law07_IsoTells : FSpec := ⟨[.pair (.int .i64) (.pair (.sl (.pair (.int .i64) (.pair (.sl (.int .u8)) (.unit)))) (.unit)), .pair (.int .i64) (.pair (.sl (.pair (.int .i64) (.pair (.sl (.int .u8)) (.unit)))) (.unit)), .int .i64], [.im (.bool)], law07_IsoTells⟩
theorem c_law07_IsoTells : FOK Try.prog 3 s_law07_IsoTells := mkC (lookG_cons (lookG_cons (lookG_cons (lookG_cons (lookG_cons (lookG_cons (lookG_cons (lookG_cons (lookG_cons (lookG_cons (lookG_cons (lookG_cons (lookG_cons (lookG_cons (lookG_cons (lookG_cons lookG_nil c_iso_Same_1) c_ref07_Class) c_iso_Class) c_ref07_Type) c_iso_Type) c_ref07_Same) c_iso_Same) c_ref07_Right) c_iso_Right) c_ref01_Same) c_ref07_Reply) c_iso_Reply) c_ref07_Write) c_iso_Write) c_ref07_Few) c_law07_shown) lookI_nil Try.func3 16 (by kernel_rfl) (by kernel_rfl) (fun x => by kernel_rfl)
noncomputable abbrev s_ref01_Value : FSpec := ⟨[.str], [.im (.int .i64), .im (.int .i64)], ref01_Value⟩
theorem c_ref01_Value : FOK Try.prog 51 s_ref01_Value := mkC (lookG_cons (lookG_cons lookG_nil c_ref01_power) c_ref01_Figures) lookI_nil Try.func51 6 (by kernel_rfl) (by kernel_rfl) (fun x => by kernel_rfl)
noncomputable abbrev s_ref01_TakeBcd : FSpec := ⟨[.sl (.int .u8), .int .i64, .int .i64], [.im (.str), .im (.int .i64), .im (.int .i64)], ref01_TakeBcd⟩
theorem c_ref01_TakeBcd : FOK Try.prog 72 s_ref01_TakeBcd := mkC (lookG_cons lookG_nil c_iso_Same_1) lookI_nil Try.func72 13 (by kernel_rfl) (by kernel_rfl) (fun x => by kernel_rfl)
noncomputable abbrev s_ref06_has : FSpec := ⟨[.sl (.int .u8), .int .i64], [.im (.bool)], ref06_has⟩
theorem c_ref06_has : FOK Try.prog 104 s_ref06_has := mkC (lookG_cons lookG_nil c_ref06_Place) lookI_nil Try.func104 7 (by kernel_rfl) (by kernel_rfl) (fun x => by kernel_rfl)
noncomputable abbrev s_ref06_Read : FSpec := ⟨[.sl (.int .u8), .int .i64], [.ow (.int .i64), .im (.int .i64), .im (.int .i64)], ref06_Read⟩
theorem c_ref06_Read : FOK Try.prog 73 s_ref06_Read := mkC (lookG_cons lookG_nil c_ref06_has) lookI_nil Try.func73 12 (by kernel_rfl) (by kernel_rfl) (fun x => by kernel_rfl)
noncomputable abbrev s_ref05_Read : FSpec := ⟨[.int .i64, .sl (.int .u8), .int .i64], [.ow (.int .u8), .im (.int .i64), .im (.int .i64)], ref05_Read⟩
theorem c_ref05_Read : FOK Try.prog 75 s_ref05_Read := mkC (lookG_cons (lookG_cons (lookG_cons (lookG_cons (lookG_cons (lookG_cons (lookG_cons lookG_nil c_iso_fields_1) c_iso_Same_1) c_ref05_count) c_ref05_fits) c_ref05_Of) c_ref01_TakeBcd) c_ref01_Value) lookI_nil Try.func75 23 (by kernel_rfl) (by kernel_rfl) (fun x => by kernel_rfl)
noncomputable abbrev s_ref07_Read : FSpec := ⟨[.sl (.int .u8)], [.im (.pair (.int .i64) (.pair (.sl (.pair (.int .i64) (.pair (.sl (.int .u8)) (.unit)))) (.unit))), .im (.int .i64)], ref07_Read⟩
theorem c_ref07_Read : FOK Try.prog 32 s_ref07_Read := mkC (lookG_cons (lookG_cons (lookG_cons (lookG_cons (lookG_cons (lookG_cons (lookG_cons (lookG_cons lookG_nil c_iso_fields_1) c_iso_Same_1) c_ref05_Read) c_ref05_Of) c_ref06_Read) c_ref01_TakeBcd) c_ref01_Value) c_ref07_Type) lookI_nil Try.func32 20 (by kernel_rfl) (by kernel_rfl) (fun x => by kernel_rfl)
noncomputable abbrev s_law07_IsoReads : FSpec := ⟨[.sl (.int .u8)], [.im (.bool)], law07_IsoReads⟩
theorem c_law07_IsoReads : FOK Try.prog 4 s_law07_IsoReads := mkC (lookG_cons (lookG_cons (lookG_cons (lookG_cons lookG_nil c_ref07_Read) c_iso_Read) c_ref07_Same) c_law07_shown) lookI_nil Try.func4 8 (by kernel_rfl) (by kernel_rfl) (fun x => by kernel_rfl)
noncomputable abbrev s_ref07_Set : FSpec := ⟨[.pair (.int .i64) (.pair (.sl (.pair (.int .i64) (.pair (.sl (.int .u8)) (.unit)))) (.unit)), .int .i64, .sl (.int .u8)], [.im (.pair (.int .i64) (.pair (.sl (.pair (.int .i64) (.pair (.sl (.int .u8)) (.unit)))) (.unit))), .im (.int .i64)], ref07_Set⟩
theorem c_ref07_Set : FOK Try.prog 34 s_ref07_Set := mkC (lookG_cons (lookG_cons lookG_nil c_ref05_Of) c_ref05_Fits) lookI_nil Try.func34 14 (by kernel_rfl) (by kernel_rfl) (fun x => by kernel_rfl)
noncomputable abbrev s_ref07_Get : FSpec := ⟨[.pair (.int .i64) (.pair (.sl (.pair (.int .i64) (.pair (.sl (.int .u8)) (.unit)))) (.unit)), .int .i64], [.im (.sl (.int .u8)), .im (.bool)], ref07_Get⟩
theorem c_ref07_Get : FOK Try.prog 36 s_ref07_Get := mkC lookG_nil lookI_nil Try.func36 7 (by kernel_rfl) (by kernel_rfl) (fun x => by kernel_rfl)
noncomputable abbrev s_ref07_Drop : FSpec := ⟨[.pair (.int .i64) (.pair (.sl (.pair (.int .i64) (.pair (.sl (.int .u8)) (.unit)))) (.unit)), .int .i64], [.im (.pair (.int .i64) (.pair (.sl (.pair (.int .i64) (.pair (.sl (.int .u8)) (.unit)))) (.unit)))], ref07_Drop⟩
theorem c_ref07_Drop : FOK Try.prog 38 s_ref07_Drop := mkC lookG_nil lookI_nil Try.func38 7 (by kernel_rfl) (by kernel_rfl) (fun x => by kernel_rfl)
noncomputable abbrev s_law07_IsoSets : FSpec := ⟨[.pair (.int .i64) (.pair (.sl (.pair (.int .i64) (.pair (.sl (.int .u8)) (.unit)))) (.unit)), .int .i64, .sl (.int .u8)], [.im (.bool)], law07_IsoSets⟩
theorem c_law07_IsoSets : FOK Try.prog 5 s_law07_IsoSets := mkC (lookG_cons (lookG_cons (lookG_cons (lookG_cons (lookG_cons (lookG_cons (lookG_cons (lookG_cons (lookG_cons (lookG_cons (lookG_cons lookG_nil c_ref07_Drop) c_iso_Drop) c_ref07_Get) c_iso_Get) c_ref07_Set) c_iso_Set) c_ref07_Same) c_ref07_Right) c_ref01_Same) c_ref07_Few) c_law07_shown) lookI_nil Try.func5 16 (by kernel_rfl) (by kernel_rfl) (fun x => by kernel_rfl)
noncomputable abbrev s_law07_IsoBack : FSpec := ⟨[.pair (.int .i64) (.pair (.sl (.pair (.int .i64) (.pair (.sl (.int .u8)) (.unit)))) (.unit)), .sl (.int .u8)], [.im (.bool)], law07_IsoBack⟩
theorem c_law07_IsoBack : FOK Try.prog 6 s_law07_IsoBack := mkC (lookG_cons (lookG_cons (lookG_cons (lookG_cons (lookG_cons (lookG_cons (lookG_cons lookG_nil c_iso_Read) c_ref07_Same) c_ref07_Right) c_ref01_Same) c_iso_Write) c_ref07_Few) c_law07_shown) lookI_nil Try.func6 14 (by kernel_rfl) (by kernel_rfl) (fun x => by kernel_rfl)
noncomputable abbrev s_law07_IsoHolds : FSpec := ⟨[.pair (.pair (.int .i64) (.pair (.sl (.pair (.int .i64) (.pair (.sl (.int .u8)) (.unit)))) (.unit))) (.pair (.int .i64) (.pair (.sl (.int .u8)) (.pair (.sl (.int .u8)) (.pair (.int .i64) (.unit)))))], [.im (.bool)], law07_IsoHolds⟩
theorem c_law07_IsoHolds : FOK Try.prog 7 s_law07_IsoHolds := mkC (lookG_cons (lookG_cons (lookG_cons (lookG_cons (lookG_cons (lookG_cons (lookG_cons (lookG_cons (lookG_cons (lookG_cons lookG_nil c_iso_fields_1) c_iso_Same_1) c_iso_Drop) c_iso_Get) c_iso_Set) c_ref07_Same) c_ref07_Right) c_ref01_Same) c_ref07_Few) c_law07_shown) lookI_nil Try.func7 26 (by kernel_rfl) (by kernel_rfl) (fun x => by kernel_rfl)
noncomputable abbrev s_law07_IsoCuts : FSpec := ⟨[.pair (.int .i64) (.pair (.sl (.pair (.int .i64) (.pair (.sl (.int .u8)) (.unit)))) (.unit)), .int .u16, .int .u8], [.im (.bool)], law07_IsoCuts⟩
theorem c_law07_IsoCuts : FOK Try.prog 8 s_law07_IsoCuts := mkC (lookG_cons (lookG_cons (lookG_cons (lookG_cons (lookG_cons lookG_nil c_iso_Read) c_ref07_Right) c_iso_Write) c_ref07_Few) c_law07_shown) lookI_nil Try.func8 14 (by kernel_rfl) (by kernel_rfl) (fun x => by kernel_rfl)
noncomputable abbrev s_law07_IsoApart : FSpec := ⟨[.pair (.int .i64) (.pair (.sl (.pair (.int .i64) (.pair (.sl (.int .u8)) (.unit)))) (.unit)), .pair (.int .i64) (.pair (.sl (.pair (.int .i64) (.pair (.sl (.int .u8)) (.unit)))) (.unit))], [.im (.bool)], law07_IsoApart⟩
theorem c_law07_IsoApart : FOK Try.prog 9 s_law07_IsoApart := mkC (lookG_cons (lookG_cons (lookG_cons (lookG_cons (lookG_cons (lookG_cons lookG_nil c_ref07_Same) c_ref07_Right) c_ref01_Same) c_iso_Write) c_ref07_Few) c_law07_shown) lookI_nil Try.func9 11 (by kernel_rfl) (by kernel_rfl) (fun x => by kernel_rfl)
noncomputable abbrev s_law07_IsoTypes : FSpec := ⟨[.int .u16], [.im (.bool)], law07_IsoTypes⟩
theorem c_law07_IsoTypes : FOK Try.prog 10 s_law07_IsoTypes := mkC (lookG_cons (lookG_cons (lookG_cons (lookG_cons (lookG_cons (lookG_cons lookG_nil c_iso_fields_1) c_iso_Same_1) c_iso_Class) c_iso_Type) c_iso_Reply) c_law07_shown) lookI_nil Try.func10 11 (by kernel_rfl) (by kernel_rfl) (fun x => by kernel_rfl)
noncomputable abbrev s_note_kind_keyed : FSpec := ⟨[.pair (.bool) (.pair (.int .i64) (.pair (.int .i64) (.pair (.int .i64) (.pair (.int .i64) (.pair (.sl (.int .u8)) (.pair (.sl (.int .u8)) (.pair (.int .i64) (.unit))))))))], [.im (.bool)], note_kind_keyed⟩
theorem c_note_kind_keyed : FOK Try.prog 111 s_note_kind_keyed := mkC lookG_nil lookI_nil Try.func111 3 (by kernel_rfl) (by kernel_rfl) (fun x => by kernel_rfl)
noncomputable abbrev s_note_kind_bare : FSpec := ⟨[.pair (.bool) (.pair (.int .i64) (.pair (.int .i64) (.pair (.int .i64) (.pair (.int .i64) (.pair (.sl (.int .u8)) (.pair (.sl (.int .u8)) (.pair (.int .i64) (.unit))))))))], [.im (.bool)], note_kind_bare⟩
theorem c_note_kind_bare : FOK Try.prog 113 s_note_kind_bare := mkC lookG_nil lookI_nil Try.func113 3 (by kernel_rfl) (by kernel_rfl) (fun x => by kernel_rfl)
noncomputable abbrev s_note_kind_dated : FSpec := ⟨[.pair (.bool) (.pair (.int .i64) (.pair (.int .i64) (.pair (.int .i64) (.pair (.int .i64) (.pair (.sl (.int .u8)) (.pair (.sl (.int .u8)) (.pair (.int .i64) (.unit))))))))], [.im (.bool)], note_kind_dated⟩
theorem c_note_kind_dated : FOK Try.prog 112 s_note_kind_dated := mkC (lookG_cons lookG_nil c_note_kind_bare) lookI_nil Try.func112 4 (by kernel_rfl) (by kernel_rfl) (fun x => by kernel_rfl)
noncomputable def I_note_rule_1 : Inl := inlF (eN [] []) Try.f114 3
theorem i_note_rule_1 : InlOK Try.prog 114 I_note_rule_1 := mkI lookG_nil lookI_nil Try.func114 3 (by kernel_rfl) (by kernel_rfl)
noncomputable def I_note_rule : Inl := inlF (eN [(111, s_note_kind_keyed), (112, s_note_kind_dated), (113, s_note_kind_bare), (106, s_iso_fields_1)] [(114, I_note_rule_1)]) Try.f83 3
theorem i_note_rule : InlOK Try.prog 83 I_note_rule := mkI (lookG_cons (lookG_cons (lookG_cons (lookG_cons lookG_nil c_iso_fields_1) c_note_kind_bare) c_note_kind_dated) c_note_kind_keyed) (lookI_cons lookI_nil i_note_rule_1) Try.func83 3 (by kernel_rfl) (by kernel_rfl)
noncomputable abbrev s_note_Right : FSpec := ⟨[.pair (.bool) (.pair (.int .i64) (.pair (.int .i64) (.pair (.int .i64) (.pair (.int .i64) (.pair (.sl (.int .u8)) (.pair (.sl (.int .u8)) (.pair (.int .i64) (.unit))))))))], [.im (.bool)], note_Right⟩
theorem c_note_Right : FOK Try.prog 44 s_note_Right := mkC lookG_nil (lookI_cons (lookI_cons lookI_nil i_note_rule) i_note_rule_1) Try.func44 3 (by kernel_rfl) (by kernel_rfl) (fun x => by kernel_rfl)
noncomputable def I_note_message_1 : Inl := inlF (eN [(33, s_iso_Set)] [(114, I_note_rule_1), (83, I_note_rule)]) Try.f108 4
theorem i_note_message_1 : InlOK Try.prog 108 I_note_message_1 := mkI (lookG_cons lookG_nil c_iso_Set) (lookI_cons (lookI_cons lookI_nil i_note_rule) i_note_rule_1) Try.func108 4 (by kernel_rfl) (by kernel_rfl)
noncomputable abbrev s_note_figures : FSpec := ⟨[.int .i64, .int .i64], [.ow (.int .u8)], note_figures⟩
theorem c_note_figures : FOK Try.prog 109 s_note_figures := mkC (lookG_cons lookG_nil c_dig_Digits) lookI_nil Try.func109 7 (by kernel_rfl) (by kernel_rfl) (fun x => by kernel_rfl)
noncomputable abbrev s_note_message : FSpec := ⟨[.pair (.bool) (.pair (.int .i64) (.pair (.int .i64) (.pair (.int .i64) (.pair (.int .i64) (.pair (.sl (.int .u8)) (.pair (.sl (.int .u8)) (.pair (.int .i64) (.unit))))))))], [.im (.pair (.int .i64) (.pair (.sl (.pair (.int .i64) (.pair (.sl (.int .u8)) (.unit)))) (.unit)))], note_message⟩
theorem c_note_message : FOK Try.prog 80 s_note_message := mkC (lookG_cons (lookG_cons lookG_nil c_note_figures) c_dig_Hex) (lookI_cons lookI_nil i_note_message_1) Try.func80 5 (by kernel_rfl) (by kernel_rfl) (fun x => by kernel_rfl)
noncomputable abbrev s_note_Write : FSpec := ⟨[.pair (.bool) (.pair (.int .i64) (.pair (.int .i64) (.pair (.int .i64) (.pair (.int .i64) (.pair (.sl (.int .u8)) (.pair (.sl (.int .u8)) (.pair (.int .i64) (.unit))))))))], [.ow (.int .u8), .im (.int .i64)], note_Write⟩
theorem c_note_Write : FOK Try.prog 41 s_note_Write := mkC (lookG_cons (lookG_cons (lookG_cons lookG_nil c_note_message) c_note_Right) c_iso_Write) lookI_nil Try.func41 4 (by kernel_rfl) (by kernel_rfl) (fun x => by kernel_rfl)
noncomputable abbrev s_note_Same : FSpec := ⟨[.pair (.bool) (.pair (.int .i64) (.pair (.int .i64) (.pair (.int .i64) (.pair (.int .i64) (.pair (.sl (.int .u8)) (.pair (.sl (.int .u8)) (.pair (.int .i64) (.unit)))))))), .pair (.bool) (.pair (.int .i64) (.pair (.int .i64) (.pair (.int .i64) (.pair (.int .i64) (.pair (.sl (.int .u8)) (.pair (.sl (.int .u8)) (.pair (.int .i64) (.unit))))))))], [.im (.bool)], note_Same⟩
theorem c_note_Same : FOK Try.prog 45 s_note_Same := mkC (lookG_cons lookG_nil c_bytes_Equal) lookI_nil Try.func45 7 (by kernel_rfl) (by kernel_rfl) (fun x => by kernel_rfl)
noncomputable abbrev s_note_Answer : FSpec := ⟨[.pair (.bool) (.pair (.int .i64) (.pair (.int .i64) (.pair (.int .i64) (.pair (.int .i64) (.pair (.sl (.int .u8)) (.pair (.sl (.int .u8)) (.pair (.int .i64) (.unit)))))))), .int .i64], [.im (.pair (.bool) (.pair (.int .i64) (.pair (.int .i64) (.pair (.int .i64) (.pair (.int .i64) (.pair (.sl (.int .u8)) (.pair (.sl (.int .u8)) (.pair (.int .i64) (.unit))))))))), .im (.int .i64)], note_Answer⟩
theorem c_note_Answer : FOK Try.prog 47 s_note_Answer := mkC lookG_nil lookI_nil Try.func47 6 (by kernel_rfl) (by kernel_rfl) (fun x => by kernel_rfl)
noncomputable def I_note_Read_1 : Inl := inlF (eN [(35, s_iso_Get), (68, s_dig_Value)] [(114, I_note_rule_1), (83, I_note_rule), (108, I_note_message_1)]) Try.f84 7
theorem i_note_Read_1 : InlOK Try.prog 84 I_note_Read_1 := mkI (lookG_cons (lookG_cons lookG_nil c_dig_Value) c_iso_Get) (lookI_cons (lookI_cons (lookI_cons lookI_nil i_note_message_1) i_note_rule) i_note_rule_1) Try.func84 7 (by kernel_rfl) (by kernel_rfl)
noncomputable abbrev s_dig_half : FSpec := ⟨[.int .u8], [.im (.int .u8), .im (.bool)], dig_half⟩
theorem c_dig_half : FOK Try.prog 115 s_dig_half := mkC lookG_nil lookI_nil Try.func115 4 (by kernel_rfl) (by kernel_rfl) (fun x => by kernel_rfl)
noncomputable abbrev s_dig_Unhex : FSpec := ⟨[.str], [.ow (.int .u8), .im (.int .i64)], dig_Unhex⟩
theorem c_dig_Unhex : FOK Try.prog 85 s_dig_Unhex := mkC (lookG_cons lookG_nil c_dig_half) lookI_nil Try.func85 10 (by kernel_rfl) (by kernel_rfl) (fun x => by kernel_rfl)
noncomputable abbrev s_note_Read : FSpec := ⟨[.sl (.int .u8)], [.im (.pair (.bool) (.pair (.int .i64) (.pair (.int .i64) (.pair (.int .i64) (.pair (.int .i64) (.pair (.sl (.int .u8)) (.pair (.sl (.int .u8)) (.pair (.int .i64) (.unit))))))))), .im (.int .i64)], note_Read⟩
theorem c_note_Read : FOK Try.prog 49 s_note_Read := mkC (lookG_cons (lookG_cons (lookG_cons (lookG_cons (lookG_cons (lookG_cons lookG_nil c_dig_Unhex) c_note_message) c_note_Right) c_iso_Get) c_iso_Read) c_iso_Same) (lookI_cons lookI_nil i_note_Read_1) Try.func49 10 (by kernel_rfl) (by kernel_rfl) (fun x => by kernel_rfl)
noncomputable abbrev s_law16_shown : FSpec := ⟨[], [.im (.bool)], law16_shown⟩
theorem c_law16_shown : FOK Try.prog 39 s_law16_shown := mkC (lookG_cons (lookG_cons (lookG_cons (lookG_cons (lookG_cons (lookG_cons lookG_nil c_ref01_Hex) c_note_Read) c_note_Answer) c_note_Same) c_note_Right) c_note_Write) lookI_nil Try.func39 10 (by kernel_rfl) (by kernel_rfl) (fun x => by kernel_rfl)
noncomputable abbrev s_ref16_Few : FSpec := ⟨[.pair (.bool) (.pair (.int .i64) (.pair (.int .i64) (.pair (.int .i64) (.pair (.int .i64) (.pair (.sl (.int .u8)) (.pair (.sl (.int .u8)) (.pair (.int .i64) (.unit))))))))], [.im (.bool)], ref16_Few⟩
theorem c_ref16_Few : FOK Try.prog 40 s_ref16_Few := mkC lookG_nil lookI_nil Try.func40 3 (by kernel_rfl) (by kernel_rfl) (fun x => by kernel_rfl)
noncomputable abbrev s_ref15_Known : FSpec := ⟨[.int .i64], [.im (.bool)], ref15_Known⟩
theorem c_ref15_Known : FOK Try.prog 82 s_ref15_Known := mkC lookG_nil lookI_nil Try.func82 3 (by kernel_rfl) (by kernel_rfl) (fun x => by kernel_rfl)
noncomputable abbrev s_ref16_Right : FSpec := ⟨[.pair (.bool) (.pair (.int .i64) (.pair (.int .i64) (.pair (.int .i64) (.pair (.int .i64) (.pair (.sl (.int .u8)) (.pair (.sl (.int .u8)) (.pair (.int .i64) (.unit))))))))], [.im (.bool)], ref16_Right⟩
theorem c_ref16_Right : FOK Try.prog 43 s_ref16_Right := mkC (lookG_cons (lookG_cons lookG_nil c_iso_Same_1) c_ref15_Known) lookI_nil Try.func43 4 (by kernel_rfl) (by kernel_rfl) (fun x => by kernel_rfl)
noncomputable abbrev s_ref16_figures : FSpec := ⟨[.int .i64, .int .i64], [.ow (.int .u8)], ref16_figures⟩
theorem c_ref16_figures : FOK Try.prog 110 s_ref16_figures := mkC (lookG_cons lookG_nil c_ref01_Digits) lookI_nil Try.func110 7 (by kernel_rfl) (by kernel_rfl) (fun x => by kernel_rfl)
noncomputable abbrev s_ref16_Message : FSpec := ⟨[.pair (.bool) (.pair (.int .i64) (.pair (.int .i64) (.pair (.int .i64) (.pair (.int .i64) (.pair (.sl (.int .u8)) (.pair (.sl (.int .u8)) (.pair (.int .i64) (.unit))))))))], [.im (.pair (.int .i64) (.pair (.sl (.pair (.int .i64) (.pair (.sl (.int .u8)) (.unit)))) (.unit)))], ref16_Message⟩
theorem c_ref16_Message : FOK Try.prog 81 s_ref16_Message := mkC (lookG_cons (lookG_cons (lookG_cons lookG_nil c_iso_fields_1) c_ref16_figures) c_ref01_Hex) lookI_nil Try.func81 4 (by kernel_rfl) (by kernel_rfl) (fun x => by kernel_rfl)
noncomputable abbrev s_ref16_Write : FSpec := ⟨[.pair (.bool) (.pair (.int .i64) (.pair (.int .i64) (.pair (.int .i64) (.pair (.int .i64) (.pair (.sl (.int .u8)) (.pair (.sl (.int .u8)) (.pair (.int .i64) (.unit))))))))], [.ow (.int .u8), .im (.int .i64)], ref16_Write⟩
theorem c_ref16_Write : FOK Try.prog 42 s_ref16_Write := mkC (lookG_cons (lookG_cons (lookG_cons lookG_nil c_ref16_Message) c_ref16_Right) c_ref07_Write) lookI_nil Try.func42 7 (by kernel_rfl) (by kernel_rfl) (fun x => by kernel_rfl)
noncomputable abbrev s_ref16_Same : FSpec := ⟨[.pair (.bool) (.pair (.int .i64) (.pair (.int .i64) (.pair (.int .i64) (.pair (.int .i64) (.pair (.sl (.int .u8)) (.pair (.sl (.int .u8)) (.pair (.int .i64) (.unit)))))))), .pair (.bool) (.pair (.int .i64) (.pair (.int .i64) (.pair (.int .i64) (.pair (.int .i64) (.pair (.sl (.int .u8)) (.pair (.sl (.int .u8)) (.pair (.int .i64) (.unit))))))))], [.im (.bool)], ref16_Same⟩
theorem c_ref16_Same : FOK Try.prog 46 s_ref16_Same := mkC (lookG_cons lookG_nil c_ref01_Same) lookI_nil Try.func46 5 (by kernel_rfl) (by kernel_rfl) (fun x => by kernel_rfl)
noncomputable abbrev s_ref16_Answer : FSpec := ⟨[.pair (.bool) (.pair (.int .i64) (.pair (.int .i64) (.pair (.int .i64) (.pair (.int .i64) (.pair (.sl (.int .u8)) (.pair (.sl (.int .u8)) (.pair (.int .i64) (.unit)))))))), .int .i64], [.im (.pair (.bool) (.pair (.int .i64) (.pair (.int .i64) (.pair (.int .i64) (.pair (.int .i64) (.pair (.sl (.int .u8)) (.pair (.sl (.int .u8)) (.pair (.int .i64) (.unit))))))))), .im (.int .i64)], ref16_Answer⟩
theorem c_ref16_Answer : FOK Try.prog 48 s_ref16_Answer := mkC lookG_nil lookI_nil Try.func48 6 (by kernel_rfl) (by kernel_rfl) (fun x => by kernel_rfl)
noncomputable abbrev s_law16_NoteTells : FSpec := ⟨[.pair (.bool) (.pair (.int .i64) (.pair (.int .i64) (.pair (.int .i64) (.pair (.int .i64) (.pair (.sl (.int .u8)) (.pair (.sl (.int .u8)) (.pair (.int .i64) (.unit)))))))), .pair (.bool) (.pair (.int .i64) (.pair (.int .i64) (.pair (.int .i64) (.pair (.int .i64) (.pair (.sl (.int .u8)) (.pair (.sl (.int .u8)) (.pair (.int .i64) (.unit)))))))), .int .i64], [.im (.bool)], law16_NoteTells⟩
theorem c_law16_NoteTells : FOK Try.prog 11 s_law16_NoteTells := mkC (lookG_cons (lookG_cons (lookG_cons (lookG_cons (lookG_cons (lookG_cons (lookG_cons (lookG_cons (lookG_cons (lookG_cons (lookG_cons lookG_nil c_ref16_Answer) c_note_Answer) c_ref16_Same) c_note_Same) c_note_Right) c_ref16_Right) c_ref16_Write) c_note_Write) c_ref16_Few) c_law16_shown) c_ref01_Same) lookI_nil Try.func11 17 (by kernel_rfl) (by kernel_rfl) (fun x => by kernel_rfl)
noncomputable abbrev s_ref01_worth : FSpec := ⟨[.int .u8], [.im (.int .i64)], ref01_worth⟩
theorem c_ref01_worth : FOK Try.prog 116 s_ref01_worth := mkC lookG_nil lookI_nil Try.func116 3 (by kernel_rfl) (by kernel_rfl) (fun x => by kernel_rfl)
noncomputable abbrev s_ref01_Unhex : FSpec := ⟨[.str], [.ow (.int .u8), .im (.int .i64)], ref01_Unhex⟩
theorem c_ref01_Unhex : FOK Try.prog 86 s_ref01_Unhex := mkC (lookG_cons lookG_nil c_ref01_worth) lookI_nil Try.func86 8 (by kernel_rfl) (by kernel_rfl) (fun x => by kernel_rfl)
noncomputable abbrev s_ref16_number : FSpec := ⟨[.pair (.int .i64) (.pair (.sl (.pair (.int .i64) (.pair (.sl (.int .u8)) (.unit)))) (.unit)), .int .i64], [.im (.int .i64)], ref16_number⟩
theorem c_ref16_number : FOK Try.prog 87 s_ref16_number := mkC (lookG_cons (lookG_cons lookG_nil c_ref01_Value) c_ref07_Get) lookI_nil Try.func87 9 (by kernel_rfl) (by kernel_rfl) (fun x => by kernel_rfl)
noncomputable abbrev s_ref16_Read : FSpec := ⟨[.sl (.int .u8)], [.im (.pair (.bool) (.pair (.int .i64) (.pair (.int .i64) (.pair (.int .i64) (.pair (.int .i64) (.pair (.sl (.int .u8)) (.pair (.sl (.int .u8)) (.pair (.int .i64) (.unit))))))))), .im (.int .i64)], ref16_Read⟩
theorem c_ref16_Read : FOK Try.prog 50 s_ref16_Read := mkC (lookG_cons (lookG_cons (lookG_cons (lookG_cons (lookG_cons (lookG_cons lookG_nil c_ref16_number) c_ref01_Unhex) c_ref16_Write) c_ref07_Get) c_ref07_Read) c_ref01_Same) lookI_nil Try.func50 15 (by kernel_rfl) (by kernel_rfl) (fun x => by kernel_rfl)
noncomputable abbrev s_law16_NoteReads : FSpec := ⟨[.sl (.int .u8)], [.im (.bool)], law16_NoteReads⟩
theorem c_law16_NoteReads : FOK Try.prog 12 s_law16_NoteReads := mkC (lookG_cons (lookG_cons (lookG_cons (lookG_cons lookG_nil c_ref16_Read) c_note_Read) c_ref16_Same) c_law16_shown) lookI_nil Try.func12 8 (by kernel_rfl) (by kernel_rfl) (fun x => by kernel_rfl)
noncomputable abbrev s_law16_NoteBack : FSpec := ⟨[.pair (.bool) (.pair (.int .i64) (.pair (.int .i64) (.pair (.int .i64) (.pair (.int .i64) (.pair (.sl (.int .u8)) (.pair (.sl (.int .u8)) (.pair (.int .i64) (.unit)))))))), .sl (.int .u8)], [.im (.bool)], law16_NoteBack⟩
theorem c_law16_NoteBack : FOK Try.prog 13 s_law16_NoteBack := mkC (lookG_cons (lookG_cons (lookG_cons (lookG_cons (lookG_cons (lookG_cons (lookG_cons lookG_nil c_note_Read) c_ref16_Same) c_ref16_Right) c_note_Write) c_ref16_Few) c_law16_shown) c_ref01_Same) lookI_nil Try.func13 14 (by kernel_rfl) (by kernel_rfl) (fun x => by kernel_rfl)
noncomputable abbrev s_law16_NoteAnswers : FSpec := ⟨[.pair (.bool) (.pair (.int .i64) (.pair (.int .i64) (.pair (.int .i64) (.pair (.int .i64) (.pair (.sl (.int .u8)) (.pair (.sl (.int .u8)) (.pair (.int .i64) (.unit)))))))), .pair (.bool) (.pair (.int .i64) (.pair (.int .i64) (.pair (.int .i64) (.pair (.int .i64) (.pair (.sl (.int .u8)) (.pair (.sl (.int .u8)) (.pair (.int .i64) (.unit)))))))), .int .i64], [.im (.bool)], law16_NoteAnswers⟩
theorem c_law16_NoteAnswers : FOK Try.prog 14 s_law16_NoteAnswers := mkC (lookG_cons (lookG_cons (lookG_cons (lookG_cons (lookG_cons (lookG_cons (lookG_cons (lookG_cons (lookG_cons lookG_nil c_iso_fields_1) c_iso_Same_1) c_note_Answer) c_ref16_Same) c_ref16_Right) c_note_Write) c_ref16_Few) c_law16_shown) c_ref01_Same) lookI_nil Try.func14 16 (by kernel_rfl) (by kernel_rfl) (fun x => by kernel_rfl)
noncomputable abbrev s_law16_NoteFields : FSpec := ⟨[.pair (.bool) (.pair (.int .i64) (.pair (.int .i64) (.pair (.int .i64) (.pair (.int .i64) (.pair (.sl (.int .u8)) (.pair (.sl (.int .u8)) (.pair (.int .i64) (.unit)))))))), .int .u8, .sl (.int .u8)], [.im (.bool)], law16_NoteFields⟩
theorem c_law16_NoteFields : FOK Try.prog 15 s_law16_NoteFields := mkC (lookG_cons (lookG_cons (lookG_cons (lookG_cons (lookG_cons (lookG_cons (lookG_cons (lookG_cons (lookG_cons (lookG_cons (lookG_cons (lookG_cons (lookG_cons lookG_nil c_iso_fields_1) c_iso_Same_1) c_ref01_Value) c_note_Read) c_ref16_Right) c_note_Write) c_ref16_Few) c_law16_shown) c_ref07_Drop) c_ref07_Get) c_ref07_Set) c_ref07_Read) c_ref07_Write) lookI_nil Try.func15 30 (by kernel_rfl) (by kernel_rfl) (fun x => by kernel_rfl)
end Yp


namespace Yp
open Go
abbrev V := Int × List UInt8 × Unit
abbrev M := Int × List V × Unit
def typeOK (m : Int) : Prop := 100 ≤ m ∧ m ≤ 899 ∧ m / 10 % 10 ≤ 4 ∧ m % 10 ≤ 5
instance (m : Int) : Decidable (typeOK m) := inferInstanceAs (Decidable (_ ∧ _))
theorem iso_figure_spec (m : Int) (n : Nat) (hn : n ≤ 3) (h0 : 0 ≤ m) (h : m ≤ 9223372036854775807) : iso_figure (m, (n : Int), ()) = some (m / 10 ^ n % 10, ()) := by
  unfold iso_figure
  generalize hf : (fun (x_1 : Int × Int × Unit) => _) = f
  have step : ∀ (k : Int) (i : Nat), i < n → 0 ≤ k → k ≤ 9223372036854775807 → f (k, (i : Int), ()) = some (.nx (k / 10, ((i + 1 : Nat) : Int), ())) := fun k i hi h0 h1 => by
    subst hf; simp (disch := first | assumption | omega | decide) only [↓g02, ↓g03, ↓g04, ↓g05, ↓g06, g01, g02, g03, g04, g05, g06, g07, g08, g09, g10, g11, g12, g13, g14, g15, g16, g17, g18, g19, g20, g21, g22, g23, g24, g25, g26, g27, g28, g29, g30, g31, g32, g34, g35, g36, g37, g38, g39, g40, g41, g42, g43, g44, g45, g46, g47, g48, g49, g50, g51, g52, g53, g54, g55, g56, g57, g58, g60, g61, eq_self, not_true_eq_false, not_false_eq_true, List.nil_append, List.append_nil, List.length_nil, and_true, true_and, or_true, true_or, or_false, false_or, and_false, false_and, iff_self, if_true, if_false, lc_rt', lc_ex', lc_nx, g62, g63, Int.toNat_natCast, Int.natCast_add, nth_get, g33, g64, g65, Int.toNat_zero]
  have last : ∀ (k : Int), f (k, (n : Int), ()) = some (.ex 0 (k, (n : Int), ())) := fun k => by
    subst hf; simp (disch := first | assumption | omega | decide) only [↓g02, ↓g03, ↓g04, ↓g05, ↓g06, g01, g02, g03, g04, g05, g06, g07, g08, g09, g10, g11, g12, g13, g14, g15, g16, g17, g18, g19, g20, g21, g22, g23, g24, g25, g26, g27, g28, g29, g30, g31, g32, g34, g35, g36, g37, g38, g39, g40, g41, g42, g43, g44, g45, g46, g47, g48, g49, g50, g51, g52, g53, g54, g55, g56, g57, g58, g60, g61, eq_self, not_true_eq_false, not_false_eq_true, List.nil_append, List.append_nil, List.length_nil, and_true, true_and, or_true, true_or, or_false, false_or, and_false, false_and, iff_self, if_true, if_false, lc_rt', lc_ex', lc_nx, g62, g63, Int.toNat_natCast, Int.natCast_add, nth_get, g33, g64, g65, Int.toNat_zero]
  have hn : n = 0 ∨ n = 1 ∨ n = 2 ∨ n = 3 := by omega
  have e : loop f (m, ((0 : Nat) : Int), ()) = some (.ex 0 (m / 10 ^ n, (n : Int), ())) := by
    rcases hn with rfl | rfl | rfl | rfl
    · rw [loop_ex (last m)]; simp
    · rw [loop_nx (step m 0 (by omega) h0 h), loop_ex (last _)]; simp
    · rw [loop_nx (step m 0 (by omega) h0 h), loop_nx (step _ 1 (by omega) (by omega) (by omega)), loop_ex (last _)]; simp; omega
    · rw [loop_nx (step m 0 (by omega) h0 h), loop_nx (step _ 1 (by omega) (by omega) (by omega)), loop_nx (step _ 2 (by omega) (by omega) (by omega)), loop_ex (last _)]; simp; omega
  refine (lc_eq e).trans ?_
  have : 0 ≤ m / 10 ^ n := by rcases hn with rfl | rfl | rfl | rfl <;> simp <;> omega
  simp (disch := first | assumption | omega | decide) only [↓g02, ↓g03, ↓g04, ↓g05, ↓g06, g01, g02, g03, g04, g05, g06, g07, g08, g09, g10, g11, g12, g13, g14, g15, g16, g17, g18, g19, g20, g21, g22, g23, g24, g25, g26, g27, g28, g29, g30, g31, g32, g34, g35, g36, g37, g38, g39, g40, g41, g42, g43, g44, g45, g46, g47, g48, g49, g50, g51, g52, g53, g54, g55, g56, g57, g58, g60, g61, eq_self, not_true_eq_false, not_false_eq_true, List.nil_append, List.append_nil, List.length_nil, and_true, true_and, or_true, true_or, or_false, false_or, and_false, false_and, iff_self, if_true, if_false, lc_rt', lc_ex', lc_nx, g62, g63, Int.toNat_natCast, Int.natCast_add, nth_get, g33, g64, g65, Int.toNat_zero]
theorem iso_Type_spec (m : Int) : iso_Type (m, ()) = some (D (typeOK m), ()) := by
  unfold iso_Type
  by_cases h : m < 0 ∨ 999 < m
  · have hn : ¬ typeOK m := by unfold typeOK; omega
    simp (disch := first | assumption | omega | decide) only [↓g02, ↓g03, ↓g04, ↓g05, ↓g06, g01, g02, g03, g04, g05, g06, g07, g08, g09, g10, g11, g12, g13, g14, g15, g16, g17, g18, g19, g20, g21, g22, g23, g24, g25, g26, g27, g28, g29, g30, g31, g32, g34, g35, g36, g37, g38, g39, g40, g41, g42, g43, g44, g45, g46, g47, g48, g49, g50, g51, g52, g53, g54, g55, g56, g57, g58, g60, g61, eq_self, not_true_eq_false, not_false_eq_true, List.nil_append, List.append_nil, List.length_nil, and_true, true_and, or_true, true_or, or_false, false_or, and_false, false_and, iff_self, if_true, if_false, lc_rt', lc_ex', lc_nx, g62, g63, Int.toNat_natCast, Int.natCast_add, nth_get, g33, g64, g65, Int.toNat_zero, hn]
  · have h0 := iso_figure_spec m 0 (by omega) (by omega) (by omega)
    have h1 := iso_figure_spec m 1 (by omega) (by omega) (by omega)
    have h2 := iso_figure_spec m 2 (by omega) (by omega) (by omega)
    simp at h0 h1 h2
    simp (disch := first | assumption | omega | decide) only [↓g02, ↓g03, ↓g04, ↓g05, ↓g06, g01, g02, g03, g04, g05, g06, g07, g08, g09, g10, g11, g12, g13, g14, g15, g16, g17, g18, g19, g20, g21, g22, g23, g24, g25, g26, g27, g28, g29, g30, g31, g32, g34, g35, g36, g37, g38, g39, g40, g41, g42, g43, g44, g45, g46, g47, g48, g49, g50, g51, g52, g53, g54, g55, g56, g57, g58, g60, g61, eq_self, not_true_eq_false, not_false_eq_true, List.nil_append, List.append_nil, List.length_nil, and_true, true_and, or_true, true_or, or_false, false_or, and_false, false_and, iff_self, if_true, if_false, lc_rt', lc_ex', lc_nx, g62, g63, Int.toNat_natCast, Int.natCast_add, nth_get, g33, g64, g65, Int.toNat_zero, h0, h1, h2]
    exact some_DD (by unfold typeOK; omega)
theorem ref07_Type_spec (m : Int) : ref07_Type (m, ()) = some (D (typeOK m), ()) := by
  unfold ref07_Type
  by_cases h : 100 ≤ m ∧ m ≤ 899
  · simp (disch := first | assumption | omega | decide) only [↓g02, ↓g03, ↓g04, ↓g05, ↓g06, g01, g02, g03, g04, g05, g06, g07, g08, g09, g10, g11, g12, g13, g14, g15, g16, g17, g18, g19, g20, g21, g22, g23, g24, g25, g26, g27, g28, g29, g30, g31, g32, g34, g35, g36, g37, g38, g39, g40, g41, g42, g43, g44, g45, g46, g47, g48, g49, g50, g51, g52, g53, g54, g55, g56, g57, g58, g60, g61, eq_self, not_true_eq_false, not_false_eq_true, List.nil_append, List.append_nil, List.length_nil, and_true, true_and, or_true, true_or, or_false, false_or, and_false, false_and, iff_self, if_true, if_false, lc_rt', lc_ex', lc_nx, g62, g63, Int.toNat_natCast, Int.natCast_add, nth_get, g33, g64, g65, Int.toNat_zero]
    exact some_DD (by unfold typeOK; omega)
  · have hn : ¬ typeOK m := by unfold typeOK; omega
    simp (disch := first | assumption | omega | decide) only [↓g02, ↓g03, ↓g04, ↓g05, ↓g06, g01, g02, g03, g04, g05, g06, g07, g08, g09, g10, g11, g12, g13, g14, g15, g16, g17, g18, g19, g20, g21, g22, g23, g24, g25, g26, g27, g28, g29, g30, g31, g32, g34, g35, g36, g37, g38, g39, g40, g41, g42, g43, g44, g45, g46, g47, g48, g49, g50, g51, g52, g53, g54, g55, g56, g57, g58, g60, g61, eq_self, not_true_eq_false, not_false_eq_true, List.nil_append, List.append_nil, List.length_nil, and_true, true_and, or_true, true_or, or_false, false_or, and_false, false_and, iff_self, if_true, if_false, lc_rt', lc_ex', lc_nx, g62, g63, Int.toNat_natCast, Int.natCast_add, nth_get, g33, g64, g65, Int.toNat_zero, hn]
def rightF : Int → List V → Bool
  | _, [] => true
  | last, v :: r => decide (last < v.1) && (fitsD v.1 v.2.1 && rightF v.1 r)
def rightM (m : M) : Bool := rightF 0 m.2.1 && decide (typeOK m.1)
def fewM (m : M) : Prop := m.2.1.length ≤ 1000 ∧ ∀ v ∈ m.2.1, v.2.1.length ≤ 1000000
theorem fewM.nth {m : M} (h : fewM m) {i : Nat} (hi : i < m.2.1.length) : (m.2.1[i]).2.1.length ≤ 1000000 := h.2 _ (List.getElem_mem hi)
def rightStep (last : Int) (v : V) : LS Int (Bool × Unit) := if last < v.1 ∧ fitsD v.1 v.2.1 = true then .nx v.1 else .rt (false, ())
theorem foldS_right {σ : Type} {mk : Int → Nat → σ} {e : Nat} : ∀ (l : List V) (last : Int) (i : Nat), (rightF last l = true ∧ ∃ y, foldS mk e rightStep last i l = .ex e y) ∨ (rightF last l = false ∧ foldS mk e rightStep last i l = .rt (false, ()))
  | [], last, i => .inl ⟨rfl, _, rfl⟩
  | v :: r, last, i => by
    by_cases h : last < v.1 ∧ fitsD v.1 v.2.1 = true
    · have hs : rightStep last v = .nx v.1 := if_pos h
      have := foldS_right (mk := mk) (e := e) r v.1 (i + 1)
      simp only [foldS, hs, rightF, h.1, h.2, decide_true, Bool.true_and]; exact this
    · have hs : rightStep last v = .rt (false, ()) := if_neg h
      refine .inr ⟨?_, by simp only [foldS, hs]⟩
      simp only [rightF, Bool.and_eq_false_iff, decide_eq_false_iff_not]
      by_cases h1 : last < v.1
      · right; left; exact (Bool.not_eq_true _).mp fun hc => h ⟨h1, hc⟩
      · exact .inl h1
theorem iso_Right_spec (m : M) (hm : fewM m) : iso_Right (m, ()) = some (rightM m, ()) := by
  unfold iso_Right
  generalize hf : (fun (x_1 : Bool × Int × Int × Unit) => _) = f
  have hl := hm.1
  have key := loop_fold (f := f) m.2.1 (fun last i => (false, last, (i : Int), ())) 0 rightStep (fun _ _ => True) (fun b i h _ => ⟨?_, fun _ _ => trivial⟩) (fun b _ => ?_) 0 trivial
  · refine (lc_eq key).trans ?_
    unfold rightM
    rcases foldS_right (mk := fun last i => ((false, last, (i : Int), ()) : Bool × Int × Int × Unit)) (e := 0) m.2.1 0 0 with ⟨h1, y, h2⟩ | ⟨h1, h2⟩
    · rw [h1, h2]; simp (disch := first | assumption | omega | decide) only [↓g02, ↓g03, ↓g04, ↓g05, ↓g06, g01, g02, g03, g04, g05, g06, g07, g08, g09, g10, g11, g12, g13, g14, g15, g16, g17, g18, g19, g20, g21, g22, g23, g24, g25, g26, g27, g28, g29, g30, g31, g32, g34, g35, g36, g37, g38, g39, g40, g41, g42, g43, g44, g45, g46, g47, g48, g49, g50, g51, g52, g53, g54, g55, g56, g57, g58, g60, g61, eq_self, not_true_eq_false, not_false_eq_true, List.nil_append, List.append_nil, List.length_nil, and_true, true_and, or_true, true_or, or_false, false_or, and_false, false_and, iff_self, if_true, if_false, lc_rt', lc_ex', lc_nx, g62, g63, Int.toNat_natCast, Int.natCast_add, nth_get, g33, g64, g65, Int.toNat_zero, iso_Type_spec, Bool.true_and]
    · rw [h1, h2]; simp (disch := first | assumption | omega | decide) only [↓g02, ↓g03, ↓g04, ↓g05, ↓g06, g01, g02, g03, g04, g05, g06, g07, g08, g09, g10, g11, g12, g13, g14, g15, g16, g17, g18, g19, g20, g21, g22, g23, g24, g25, g26, g27, g28, g29, g30, g31, g32, g34, g35, g36, g37, g38, g39, g40, g41, g42, g43, g44, g45, g46, g47, g48, g49, g50, g51, g52, g53, g54, g55, g56, g57, g58, g60, g61, eq_self, not_true_eq_false, not_false_eq_true, List.nil_append, List.append_nil, List.length_nil, and_true, true_and, or_true, true_or, or_false, false_or, and_false, false_and, iff_self, if_true, if_false, lc_rt', lc_ex', lc_nx, g62, g63, Int.toNat_natCast, Int.natCast_add, nth_get, g33, g64, g65, Int.toNat_zero, Bool.false_and]
  · subst hf
    have := hm.nth h
    have hfd := field_Fits_spec (m.2.1[i]).1 (m.2.1[i]).2.1 this
    by_cases h1 : m.2.1[i].1 ≤ b
    · have hs : rightStep b m.2.1[i] = .rt (false, ()) := if_neg fun hc => by omega
      simp (disch := first | assumption | omega | decide) only [↓g02, ↓g03, ↓g04, ↓g05, ↓g06, g01, g02, g03, g04, g05, g06, g07, g08, g09, g10, g11, g12, g13, g14, g15, g16, g17, g18, g19, g20, g21, g22, g23, g24, g25, g26, g27, g28, g29, g30, g31, g32, g34, g35, g36, g37, g38, g39, g40, g41, g42, g43, g44, g45, g46, g47, g48, g49, g50, g51, g52, g53, g54, g55, g56, g57, g58, g60, g61, eq_self, not_true_eq_false, not_false_eq_true, List.nil_append, List.append_nil, List.length_nil, and_true, true_and, or_true, true_or, or_false, false_or, and_false, false_and, iff_self, if_true, if_false, lc_rt', lc_ex', lc_nx, g62, g63, Int.toNat_natCast, Int.natCast_add, nth_get, g33, g64, g65, Int.toNat_zero, hs, liftS]
    · cases h2 : fitsD (m.2.1[i]).1 (m.2.1[i]).2.1
      · have hs : rightStep b m.2.1[i] = .rt (false, ()) := if_neg fun hc => by rw [h2] at hc; exact absurd hc.2 (by simp)
        simp (disch := first | assumption | omega | decide) only [↓g02, ↓g03, ↓g04, ↓g05, ↓g06, g01, g02, g03, g04, g05, g06, g07, g08, g09, g10, g11, g12, g13, g14, g15, g16, g17, g18, g19, g20, g21, g22, g23, g24, g25, g26, g27, g28, g29, g30, g31, g32, g34, g35, g36, g37, g38, g39, g40, g41, g42, g43, g44, g45, g46, g47, g48, g49, g50, g51, g52, g53, g54, g55, g56, g57, g58, g60, g61, eq_self, not_true_eq_false, not_false_eq_true, List.nil_append, List.append_nil, List.length_nil, and_true, true_and, or_true, true_or, or_false, false_or, and_false, false_and, iff_self, if_true, if_false, lc_rt', lc_ex', lc_nx, g62, g63, Int.toNat_natCast, Int.natCast_add, nth_get, g33, g64, g65, Int.toNat_zero, hfd, h2, hs, liftS]
      · have hs : rightStep b m.2.1[i] = .nx m.2.1[i].1 := if_pos ⟨by omega, h2⟩
        simp (disch := first | assumption | omega | decide) only [↓g02, ↓g03, ↓g04, ↓g05, ↓g06, g01, g02, g03, g04, g05, g06, g07, g08, g09, g10, g11, g12, g13, g14, g15, g16, g17, g18, g19, g20, g21, g22, g23, g24, g25, g26, g27, g28, g29, g30, g31, g32, g34, g35, g36, g37, g38, g39, g40, g41, g42, g43, g44, g45, g46, g47, g48, g49, g50, g51, g52, g53, g54, g55, g56, g57, g58, g60, g61, eq_self, not_true_eq_false, not_false_eq_true, List.nil_append, List.append_nil, List.length_nil, and_true, true_and, or_true, true_or, or_false, false_or, and_false, false_and, iff_self, if_true, if_false, lc_rt', lc_ex', lc_nx, g62, g63, Int.toNat_natCast, Int.natCast_add, nth_get, g33, g64, g65, Int.toNat_zero, hfd, h2, hs, liftS]
  · subst hf; simp (disch := first | assumption | omega | decide) only [↓g02, ↓g03, ↓g04, ↓g05, ↓g06, g01, g02, g03, g04, g05, g06, g07, g08, g09, g10, g11, g12, g13, g14, g15, g16, g17, g18, g19, g20, g21, g22, g23, g24, g25, g26, g27, g28, g29, g30, g31, g32, g34, g35, g36, g37, g38, g39, g40, g41, g42, g43, g44, g45, g46, g47, g48, g49, g50, g51, g52, g53, g54, g55, g56, g57, g58, g60, g61, eq_self, not_true_eq_false, not_false_eq_true, List.nil_append, List.append_nil, List.length_nil, and_true, true_and, or_true, true_or, or_false, false_or, and_false, false_and, iff_self, if_true, if_false, lc_rt', lc_ex', lc_nx, g62, g63, Int.toNat_natCast, Int.natCast_add, nth_get, g33, g64, g65, Int.toNat_zero]
theorem formOf_low {no : Int} (h : no ≤ 0) : formOf no = none := by
  unfold formOf
  rw [Option.map_eq_none_iff, List.find?_eq_none]
  have : ∀ r ∈ frows, ∀ c ∈ r.drop 2, 1 ≤ c := by decide +kernel
  intro r hr hc
  rw [List.contains_eq_mem, decide_eq_true_eq] at hc
  have := this r hr no hc
  omega
theorem fitsD_pos {no : Int} {v : List UInt8} (h : fitsD no v = true) : 1 ≤ no := by
  refine Classical.byContradiction fun hc => ?_
  unfold fitsD at h
  rw [formOf_low (by omega)] at h
  exact absurd h (by simp)
theorem ref07_Right_spec (m : M) (hm : fewM m) : ref07_Right (m, ()) = some (rightM m, ()) := by
  unfold ref07_Right
  generalize hf : (fun (x_1 : Bool × Int × Unit) => _) = f
  have hl := hm.1
  have key := loop_fold (f := f) m.2.1 (fun (last : Int) i => (false, (i : Int), ())) 0 rightStep (fun b i => (i = 0 ∧ b = 0) ∨ ∃ h : i - 1 < m.2.1.length, 0 < i ∧ m.2.1[i - 1].1 = b) (fun b i h hI => ⟨?_, fun b' hb => ?_⟩) (fun b _ => ?_) 0 (.inl ⟨rfl, rfl⟩)
  · refine (lc_eq key).trans ?_
    unfold rightM
    rcases foldS_right (mk := fun (last : Int) i => ((false, (i : Int), ()) : Bool × Int × Unit)) (e := 0) m.2.1 0 0 with ⟨h1, y, h2⟩ | ⟨h1, h2⟩
    · rw [h1, h2]; simp (disch := first | assumption | omega | decide) only [↓g02, ↓g03, ↓g04, ↓g05, ↓g06, g01, g02, g03, g04, g05, g06, g07, g08, g09, g10, g11, g12, g13, g14, g15, g16, g17, g18, g19, g20, g21, g22, g23, g24, g25, g26, g27, g28, g29, g30, g31, g32, g34, g35, g36, g37, g38, g39, g40, g41, g42, g43, g44, g45, g46, g47, g48, g49, g50, g51, g52, g53, g54, g55, g56, g57, g58, g60, g61, eq_self, not_true_eq_false, not_false_eq_true, List.nil_append, List.append_nil, List.length_nil, and_true, true_and, or_true, true_or, or_false, false_or, and_false, false_and, iff_self, if_true, if_false, lc_rt', lc_ex', lc_nx, g62, g63, Int.toNat_natCast, Int.natCast_add, nth_get, g33, g64, g65, Int.toNat_zero, ref07_Type_spec, Bool.true_and]
    · rw [h1, h2]; simp (disch := first | assumption | omega | decide) only [↓g02, ↓g03, ↓g04, ↓g05, ↓g06, g01, g02, g03, g04, g05, g06, g07, g08, g09, g10, g11, g12, g13, g14, g15, g16, g17, g18, g19, g20, g21, g22, g23, g24, g25, g26, g27, g28, g29, g30, g31, g32, g34, g35, g36, g37, g38, g39, g40, g41, g42, g43, g44, g45, g46, g47, g48, g49, g50, g51, g52, g53, g54, g55, g56, g57, g58, g60, g61, eq_self, not_true_eq_false, not_false_eq_true, List.nil_append, List.append_nil, List.length_nil, and_true, true_and, or_true, true_or, or_false, false_or, and_false, false_and, iff_self, if_true, if_false, lc_rt', lc_ex', lc_nx, g62, g63, Int.toNat_natCast, Int.natCast_add, nth_get, g33, g64, g65, Int.toNat_zero, Bool.false_and]
  · subst hf
    have := hm.nth h
    have hfd := ref05_Fits_spec (m.2.1[i]).1 (m.2.1[i]).2.1 this
    cases h2 : fitsD (m.2.1[i]).1 (m.2.1[i]).2.1
    · have hs : rightStep b m.2.1[i] = .rt (false, ()) := if_neg fun hc => by rw [h2] at hc; exact absurd hc.2 (by simp)
      simp (disch := first | assumption | omega | decide) only [↓g02, ↓g03, ↓g04, ↓g05, ↓g06, g01, g02, g03, g04, g05, g06, g07, g08, g09, g10, g11, g12, g13, g14, g15, g16, g17, g18, g19, g20, g21, g22, g23, g24, g25, g26, g27, g28, g29, g30, g31, g32, g34, g35, g36, g37, g38, g39, g40, g41, g42, g43, g44, g45, g46, g47, g48, g49, g50, g51, g52, g53, g54, g55, g56, g57, g58, g60, g61, eq_self, not_true_eq_false, not_false_eq_true, List.nil_append, List.append_nil, List.length_nil, and_true, true_and, or_true, true_or, or_false, false_or, and_false, false_and, iff_self, if_true, if_false, lc_rt', lc_ex', lc_nx, g62, g63, Int.toNat_natCast, Int.natCast_add, nth_get, g33, g64, g65, Int.toNat_zero, hfd, h2, hs, liftS]
    · have hp := fitsD_pos h2
      rcases hI with ⟨rfl, rfl⟩ | ⟨h', h0, rfl⟩
      · have hs : rightStep 0 m.2.1[0] = .nx m.2.1[0].1 := if_pos ⟨by omega, h2⟩
        simp (disch := first | assumption | omega | decide) only [↓g02, ↓g03, ↓g04, ↓g05, ↓g06, g01, g02, g03, g04, g05, g06, g07, g08, g09, g10, g11, g12, g13, g14, g15, g16, g17, g18, g19, g20, g21, g22, g23, g24, g25, g26, g27, g28, g29, g30, g31, g32, g34, g35, g36, g37, g38, g39, g40, g41, g42, g43, g44, g45, g46, g47, g48, g49, g50, g51, g52, g53, g54, g55, g56, g57, g58, g60, g61, eq_self, not_true_eq_false, not_false_eq_true, List.nil_append, List.append_nil, List.length_nil, and_true, true_and, or_true, true_or, or_false, false_or, and_false, false_and, iff_self, if_true, if_false, lc_rt', lc_ex', lc_nx, g62, g63, Int.toNat_natCast, Int.natCast_add, nth_get, g33, g64, g65, Int.toNat_zero, hfd, h2, hs, liftS]
      · have hq : ((i : Int) - 1).toNat = i - 1 := by omega
        by_cases h1 : m.2.1[i].1 ≤ m.2.1[i - 1].1
        · have hs : rightStep m.2.1[i - 1].1 m.2.1[i] = .rt (false, ()) := if_neg fun hc => by omega
          simp (disch := first | assumption | omega | decide) only [↓g02, ↓g03, ↓g04, ↓g05, ↓g06, g01, g02, g03, g04, g05, g06, g07, g08, g09, g10, g11, g12, g13, g14, g15, g16, g17, g18, g19, g20, g21, g22, g23, g24, g25, g26, g27, g28, g29, g30, g31, g32, g34, g35, g36, g37, g38, g39, g40, g41, g42, g43, g44, g45, g46, g47, g48, g49, g50, g51, g52, g53, g54, g55, g56, g57, g58, g60, g61, eq_self, not_true_eq_false, not_false_eq_true, List.nil_append, List.append_nil, List.length_nil, and_true, true_and, or_true, true_or, or_false, false_or, and_false, false_and, iff_self, if_true, if_false, lc_rt', lc_ex', lc_nx, g62, g63, Int.toNat_natCast, Int.natCast_add, nth_get, g33, g64, g65, Int.toNat_zero, hfd, h2, hs, liftS, hq]
        · have hs : rightStep m.2.1[i - 1].1 m.2.1[i] = .nx m.2.1[i].1 := if_pos ⟨by omega, h2⟩
          simp (disch := first | assumption | omega | decide) only [↓g02, ↓g03, ↓g04, ↓g05, ↓g06, g01, g02, g03, g04, g05, g06, g07, g08, g09, g10, g11, g12, g13, g14, g15, g16, g17, g18, g19, g20, g21, g22, g23, g24, g25, g26, g27, g28, g29, g30, g31, g32, g34, g35, g36, g37, g38, g39, g40, g41, g42, g43, g44, g45, g46, g47, g48, g49, g50, g51, g52, g53, g54, g55, g56, g57, g58, g60, g61, eq_self, not_true_eq_false, not_false_eq_true, List.nil_append, List.append_nil, List.length_nil, and_true, true_and, or_true, true_or, or_false, false_or, and_false, false_and, iff_self, if_true, if_false, lc_rt', lc_ex', lc_nx, g62, g63, Int.toNat_natCast, Int.natCast_add, nth_get, g33, g64, g65, Int.toNat_zero, hfd, h2, hs, liftS, hq]
  · right
    refine ⟨by simpa using h, by omega, ?_⟩
    simp only [Nat.add_sub_cancel]
    unfold rightStep at hb
    split at hb
    · cases hb; rfl
    · cases hb
  · subst hf; simp (disch := first | assumption | omega | decide) only [↓g02, ↓g03, ↓g04, ↓g05, ↓g06, g01, g02, g03, g04, g05, g06, g07, g08, g09, g10, g11, g12, g13, g14, g15, g16, g17, g18, g19, g20, g21, g22, g23, g24, g25, g26, g27, g28, g29, g30, g31, g32, g34, g35, g36, g37, g38, g39, g40, g41, g42, g43, g44, g45, g46, g47, g48, g49, g50, g51, g52, g53, g54, g55, g56, g57, g58, g60, g61, eq_self, not_true_eq_false, not_false_eq_true, List.nil_append, List.append_nil, List.length_nil, and_true, true_and, or_true, true_or, or_false, false_or, and_false, false_and, iff_self, if_true, if_false, lc_rt', lc_ex', lc_nx, g62, g63, Int.toNat_natCast, Int.natCast_add, nth_get, g33, g64, g65, Int.toNat_zero]
theorem iso_Class_spec (m : Int) : iso_Class (m, ()) = some (if typeOK m then m / 100 else 0, ()) := by
  unfold iso_Class
  by_cases h : typeOK m
  · have hb := h
    unfold typeOK at hb
    have h2 := iso_figure_spec m 2 (by omega) (by omega) (by omega)
    simp at h2
    simp (disch := first | assumption | omega | decide) only [↓g02, ↓g03, ↓g04, ↓g05, ↓g06, g01, g02, g03, g04, g05, g06, g07, g08, g09, g10, g11, g12, g13, g14, g15, g16, g17, g18, g19, g20, g21, g22, g23, g24, g25, g26, g27, g28, g29, g30, g31, g32, g34, g35, g36, g37, g38, g39, g40, g41, g42, g43, g44, g45, g46, g47, g48, g49, g50, g51, g52, g53, g54, g55, g56, g57, g58, g60, g61, eq_self, not_true_eq_false, not_false_eq_true, List.nil_append, List.append_nil, List.length_nil, and_true, true_and, or_true, true_or, or_false, false_or, and_false, false_and, iff_self, if_true, if_false, lc_rt', lc_ex', lc_nx, g62, g63, Int.toNat_natCast, Int.natCast_add, nth_get, g33, g64, g65, Int.toNat_zero, iso_Type_spec, h, h2]
    exact congrArg (fun x => some (x, ())) (show m / 100 % 10 = m / 100 by omega)
  · simp (disch := first | assumption | omega | decide) only [↓g02, ↓g03, ↓g04, ↓g05, ↓g06, g01, g02, g03, g04, g05, g06, g07, g08, g09, g10, g11, g12, g13, g14, g15, g16, g17, g18, g19, g20, g21, g22, g23, g24, g25, g26, g27, g28, g29, g30, g31, g32, g34, g35, g36, g37, g38, g39, g40, g41, g42, g43, g44, g45, g46, g47, g48, g49, g50, g51, g52, g53, g54, g55, g56, g57, g58, g60, g61, eq_self, not_true_eq_false, not_false_eq_true, List.nil_append, List.append_nil, List.length_nil, and_true, true_and, or_true, true_or, or_false, false_or, and_false, false_and, iff_self, if_true, if_false, lc_rt', lc_ex', lc_nx, g62, g63, Int.toNat_natCast, Int.natCast_add, nth_get, g33, g64, g65, Int.toNat_zero, iso_Type_spec, h]
theorem ref07_Class_spec (m : Int) : ref07_Class (m, ()) = some (if typeOK m then m / 100 else 0, ()) := by
  unfold ref07_Class
  by_cases h : typeOK m
  · have hb := h
    unfold typeOK at hb
    simp (disch := first | assumption | omega | decide) only [↓g02, ↓g03, ↓g04, ↓g05, ↓g06, g01, g02, g03, g04, g05, g06, g07, g08, g09, g10, g11, g12, g13, g14, g15, g16, g17, g18, g19, g20, g21, g22, g23, g24, g25, g26, g27, g28, g29, g30, g31, g32, g34, g35, g36, g37, g38, g39, g40, g41, g42, g43, g44, g45, g46, g47, g48, g49, g50, g51, g52, g53, g54, g55, g56, g57, g58, g60, g61, eq_self, not_true_eq_false, not_false_eq_true, List.nil_append, List.append_nil, List.length_nil, and_true, true_and, or_true, true_or, or_false, false_or, and_false, false_and, iff_self, if_true, if_false, lc_rt', lc_ex', lc_nx, g62, g63, Int.toNat_natCast, Int.natCast_add, nth_get, g33, g64, g65, Int.toNat_zero, ref07_Type_spec, h]
  · simp (disch := first | assumption | omega | decide) only [↓g02, ↓g03, ↓g04, ↓g05, ↓g06, g01, g02, g03, g04, g05, g06, g07, g08, g09, g10, g11, g12, g13, g14, g15, g16, g17, g18, g19, g20, g21, g22, g23, g24, g25, g26, g27, g28, g29, g30, g31, g32, g34, g35, g36, g37, g38, g39, g40, g41, g42, g43, g44, g45, g46, g47, g48, g49, g50, g51, g52, g53, g54, g55, g56, g57, g58, g60, g61, eq_self, not_true_eq_false, not_false_eq_true, List.nil_append, List.append_nil, List.length_nil, and_true, true_and, or_true, true_or, or_false, false_or, and_false, false_and, iff_self, if_true, if_false, lc_rt', lc_ex', lc_nx, g62, g63, Int.toNat_natCast, Int.natCast_add, nth_get, g33, g64, g65, Int.toNat_zero, ref07_Type_spec, h]
def replyD (m : Int) : Int × Bool × Unit := if typeOK m ∧ (m / 10 % 10 = 0 ∨ m / 10 % 10 = 2) then (m + 10, true, ()) else (0, false, ())
theorem iso_figure_some (m : Int) : ∃ y, iso_figure (m, 1, ()) = some (y, ()) := by
  unfold iso_figure
  generalize hf : (fun (x_1 : Int × Int × Unit) => _) = f
  have step : ∀ (k : Int), f (k, (0 : Int), ()) = some (.nx (i64 (idiv k 10), (1 : Int), ())) := fun k => by
    subst hf; simp (disch := first | assumption | omega | decide) only [↓g02, ↓g03, ↓g04, ↓g05, ↓g06, g01, g02, g03, g04, g05, g06, g07, g08, g09, g10, g11, g12, g13, g14, g15, g16, g17, g18, g19, g20, g21, g22, g23, g24, g25, g26, g27, g28, g29, g30, g31, g32, g34, g35, g36, g37, g38, g39, g40, g41, g42, g43, g44, g45, g46, g47, g48, g49, g50, g51, g52, g53, g54, g55, g56, g57, g58, g60, g61, eq_self, not_true_eq_false, not_false_eq_true, List.nil_append, List.append_nil, List.length_nil, and_true, true_and, or_true, true_or, or_false, false_or, and_false, false_and, iff_self, if_true, if_false, lc_rt', lc_ex', lc_nx, g62, g63, Int.toNat_natCast, Int.natCast_add, nth_get, g33, g64, g65, Int.toNat_zero]; rfl
  have last : ∀ (k : Int), f (k, (1 : Int), ()) = some (.ex 0 (k, (1 : Int), ())) := fun k => by
    subst hf; simp (disch := first | assumption | omega | decide) only [↓g02, ↓g03, ↓g04, ↓g05, ↓g06, g01, g02, g03, g04, g05, g06, g07, g08, g09, g10, g11, g12, g13, g14, g15, g16, g17, g18, g19, g20, g21, g22, g23, g24, g25, g26, g27, g28, g29, g30, g31, g32, g34, g35, g36, g37, g38, g39, g40, g41, g42, g43, g44, g45, g46, g47, g48, g49, g50, g51, g52, g53, g54, g55, g56, g57, g58, g60, g61, eq_self, not_true_eq_false, not_false_eq_true, List.nil_append, List.append_nil, List.length_nil, and_true, true_and, or_true, true_or, or_false, false_or, and_false, false_and, iff_self, if_true, if_false, lc_rt', lc_ex', lc_nx, g62, g63, Int.toNat_natCast, Int.natCast_add, nth_get, g33, g64, g65, Int.toNat_zero]
  refine ⟨imod (i64 (idiv m 10)) 10, (lc_eq ((loop_nx (step m)).trans (loop_ex (last _)))).trans ?_⟩
  simp (disch := first | assumption | omega | decide) only [↓g02, ↓g03, ↓g04, ↓g05, ↓g06, g01, g02, g03, g04, g05, g06, g07, g08, g09, g10, g11, g12, g13, g14, g15, g16, g17, g18, g19, g20, g21, g22, g23, g24, g25, g26, g27, g28, g29, g30, g31, g32, g34, g35, g36, g37, g38, g39, g40, g41, g42, g43, g44, g45, g46, g47, g48, g49, g50, g51, g52, g53, g54, g55, g56, g57, g58, g60, g61, eq_self, not_true_eq_false, not_false_eq_true, List.nil_append, List.append_nil, List.length_nil, and_true, true_and, or_true, true_or, or_false, false_or, and_false, false_and, iff_self, if_true, if_false, lc_rt', lc_ex', lc_nx, g62, g63, Int.toNat_natCast, Int.natCast_add, nth_get, g33, g64, g65, Int.toNat_zero]
theorem iso_Reply_spec (m : Int) : iso_Reply (m, ()) = some (replyD m) := by
  unfold iso_Reply
  by_cases h : typeOK m
  · have hb := h
    unfold typeOK at hb
    have h1 := iso_figure_spec m 1 (by omega) (by omega) (by omega)
    simp at h1
    unfold replyD
    by_cases h2 : m / 10 % 10 = 0 ∨ m / 10 % 10 = 2
    · simp (disch := first | assumption | omega | decide) only [↓g02, ↓g03, ↓g04, ↓g05, ↓g06, g01, g02, g03, g04, g05, g06, g07, g08, g09, g10, g11, g12, g13, g14, g15, g16, g17, g18, g19, g20, g21, g22, g23, g24, g25, g26, g27, g28, g29, g30, g31, g32, g34, g35, g36, g37, g38, g39, g40, g41, g42, g43, g44, g45, g46, g47, g48, g49, g50, g51, g52, g53, g54, g55, g56, g57, g58, g60, g61, eq_self, not_true_eq_false, not_false_eq_true, List.nil_append, List.append_nil, List.length_nil, and_true, true_and, or_true, true_or, or_false, false_or, and_false, false_and, iff_self, if_true, if_false, lc_rt', lc_ex', lc_nx, g62, g63, Int.toNat_natCast, Int.natCast_add, nth_get, g33, g64, g65, Int.toNat_zero, iso_Type_spec, h, h1, h2]
    · simp (disch := first | assumption | omega | decide) only [↓g02, ↓g03, ↓g04, ↓g05, ↓g06, g01, g02, g03, g04, g05, g06, g07, g08, g09, g10, g11, g12, g13, g14, g15, g16, g17, g18, g19, g20, g21, g22, g23, g24, g25, g26, g27, g28, g29, g30, g31, g32, g34, g35, g36, g37, g38, g39, g40, g41, g42, g43, g44, g45, g46, g47, g48, g49, g50, g51, g52, g53, g54, g55, g56, g57, g58, g60, g61, eq_self, not_true_eq_false, not_false_eq_true, List.nil_append, List.append_nil, List.length_nil, and_true, true_and, or_true, true_or, or_false, false_or, and_false, false_and, iff_self, if_true, if_false, lc_rt', lc_ex', lc_nx, g62, g63, Int.toNat_natCast, Int.natCast_add, nth_get, g33, g64, g65, Int.toNat_zero, iso_Type_spec, h, h1, h2]
  · obtain ⟨y, h1⟩ := iso_figure_some m
    unfold replyD
    simp (disch := first | assumption | omega | decide) only [↓g02, ↓g03, ↓g04, ↓g05, ↓g06, g01, g02, g03, g04, g05, g06, g07, g08, g09, g10, g11, g12, g13, g14, g15, g16, g17, g18, g19, g20, g21, g22, g23, g24, g25, g26, g27, g28, g29, g30, g31, g32, g34, g35, g36, g37, g38, g39, g40, g41, g42, g43, g44, g45, g46, g47, g48, g49, g50, g51, g52, g53, g54, g55, g56, g57, g58, g60, g61, eq_self, not_true_eq_false, not_false_eq_true, List.nil_append, List.append_nil, List.length_nil, and_true, true_and, or_true, true_or, or_false, false_or, and_false, false_and, iff_self, if_true, if_false, lc_rt', lc_ex', lc_nx, g62, g63, Int.toNat_natCast, Int.natCast_add, nth_get, g33, g64, g65, Int.toNat_zero, iso_Type_spec, h, h1]
theorem ref07_Reply_spec (m : Int) : ref07_Reply (m, ()) = some (replyD m) := by
  unfold ref07_Reply
  by_cases h : typeOK m
  · have hb := h
    unfold typeOK at hb
    unfold replyD
    by_cases h2 : m / 10 % 10 = 0 ∨ m / 10 % 10 = 2
    · simp (disch := first | assumption | omega | decide) only [↓g02, ↓g03, ↓g04, ↓g05, ↓g06, g01, g02, g03, g04, g05, g06, g07, g08, g09, g10, g11, g12, g13, g14, g15, g16, g17, g18, g19, g20, g21, g22, g23, g24, g25, g26, g27, g28, g29, g30, g31, g32, g34, g35, g36, g37, g38, g39, g40, g41, g42, g43, g44, g45, g46, g47, g48, g49, g50, g51, g52, g53, g54, g55, g56, g57, g58, g60, g61, eq_self, not_true_eq_false, not_false_eq_true, List.nil_append, List.append_nil, List.length_nil, and_true, true_and, or_true, true_or, or_false, false_or, and_false, false_and, iff_self, if_true, if_false, lc_rt', lc_ex', lc_nx, g62, g63, Int.toNat_natCast, Int.natCast_add, nth_get, g33, g64, g65, Int.toNat_zero, ref07_Type_spec, h, h2]
    · simp (disch := first | assumption | omega | decide) only [↓g02, ↓g03, ↓g04, ↓g05, ↓g06, g01, g02, g03, g04, g05, g06, g07, g08, g09, g10, g11, g12, g13, g14, g15, g16, g17, g18, g19, g20, g21, g22, g23, g24, g25, g26, g27, g28, g29, g30, g31, g32, g34, g35, g36, g37, g38, g39, g40, g41, g42, g43, g44, g45, g46, g47, g48, g49, g50, g51, g52, g53, g54, g55, g56, g57, g58, g60, g61, eq_self, not_true_eq_false, not_false_eq_true, List.nil_append, List.append_nil, List.length_nil, and_true, true_and, or_true, true_or, or_false, false_or, and_false, false_and, iff_self, if_true, if_false, lc_rt', lc_ex', lc_nx, g62, g63, Int.toNat_natCast, Int.natCast_add, nth_get, g33, g64, g65, Int.toNat_zero, ref07_Type_spec, h, h2]
  · unfold replyD
    simp (disch := first | assumption | omega | decide) only [↓g02, ↓g03, ↓g04, ↓g05, ↓g06, g01, g02, g03, g04, g05, g06, g07, g08, g09, g10, g11, g12, g13, g14, g15, g16, g17, g18, g19, g20, g21, g22, g23, g24, g25, g26, g27, g28, g29, g30, g31, g32, g34, g35, g36, g37, g38, g39, g40, g41, g42, g43, g44, g45, g46, g47, g48, g49, g50, g51, g52, g53, g54, g55, g56, g57, g58, g60, g61, eq_self, not_true_eq_false, not_false_eq_true, List.nil_append, List.append_nil, List.length_nil, and_true, true_and, or_true, true_or, or_false, false_or, and_false, false_and, iff_self, if_true, if_false, lc_rt', lc_ex', lc_nx, g62, g63, Int.toNat_natCast, Int.natCast_add, nth_get, g33, g64, g65, Int.toNat_zero, ref07_Type_spec, h]
theorem bytes_Equal_spec (a b : List UInt8) : bytes_Equal (a, b, ()) = some (D (a = b), ()) := by unfold bytes_Equal; simp (disch := first | assumption | omega | decide) only [↓g02, ↓g03, ↓g04, ↓g05, ↓g06, g01, g02, g03, g04, g05, g06, g07, g08, g09, g10, g11, g12, g13, g14, g15, g16, g17, g18, g19, g20, g21, g22, g23, g24, g25, g26, g27, g28, g29, g30, g31, g32, g34, g35, g36, g37, g38, g39, g40, g41, g42, g43, g44, g45, g46, g47, g48, g49, g50, g51, g52, g53, g54, g55, g56, g57, g58, g60, g61, eq_self, not_true_eq_false, not_false_eq_true, List.nil_append, List.append_nil, List.length_nil, and_true, true_and, or_true, true_or, or_false, false_or, and_false, false_and, iff_self, if_true, if_false, lc_rt', lc_ex', lc_nx, g62, g63, Int.toNat_natCast, Int.natCast_add, nth_get, g33, g64, g65, Int.toNat_zero]
theorem iso_Same_1_spec (a b : V) : iso_Same_1 (a, b, ()) = some (D (a = b), ()) := by
  unfold iso_Same_1
  simp (disch := first | assumption | omega | decide) only [↓g02, ↓g03, ↓g04, ↓g05, ↓g06, g01, g02, g03, g04, g05, g06, g07, g08, g09, g10, g11, g12, g13, g14, g15, g16, g17, g18, g19, g20, g21, g22, g23, g24, g25, g26, g27, g28, g29, g30, g31, g32, g34, g35, g36, g37, g38, g39, g40, g41, g42, g43, g44, g45, g46, g47, g48, g49, g50, g51, g52, g53, g54, g55, g56, g57, g58, g60, g61, eq_self, not_true_eq_false, not_false_eq_true, List.nil_append, List.append_nil, List.length_nil, and_true, true_and, or_true, true_or, or_false, false_or, and_false, false_and, iff_self, if_true, if_false, lc_rt', lc_ex', lc_nx, g62, g63, Int.toNat_natCast, Int.natCast_add, nth_get, g33, g64, g65, Int.toNat_zero, bytes_Equal_spec]
  refine some_DD ?_
  obtain ⟨a1, a2, ⟨⟩⟩ := a; obtain ⟨b1, b2, ⟨⟩⟩ := b
  simp
def sameStep (b : Unit) (p : V × V) : LS Unit (Bool × Unit) := if p.1 = p.2 then .nx () else .rt (false, ())
theorem foldS_same {σ : Type} {mk : Unit → Nat → σ} {e : Nat} : ∀ (l : List (V × V)) (i : Nat), ((∀ p ∈ l, p.1 = p.2) ∧ ∃ y, foldS mk e sameStep () i l = .ex e y) ∨ ((¬ ∀ p ∈ l, p.1 = p.2) ∧ foldS mk e sameStep () i l = .rt (false, ()))
  | [], i => .inl ⟨by simp, _, rfl⟩
  | p :: r, i => by
    by_cases h : p.1 = p.2
    · have hs : sameStep () p = .nx () := if_pos h
      have := foldS_same (mk := mk) (e := e) r (i + 1)
      simp only [foldS, hs, List.mem_cons, forall_eq_or_imp, h, true_and]; exact this
    · have hs : sameStep () p = .rt (false, ()) := if_neg h
      refine .inr ⟨fun hc => h (hc p (by simp)), by simp only [foldS, hs]⟩
theorem zip_eq {α : Type} : ∀ {a b : List α}, a.length = b.length → ((∀ p ∈ a.zip b, p.1 = p.2) ↔ a = b)
  | [], [], _ => by simp
  | x :: a, y :: b, h => by
    have := zip_eq (a := a) (b := b) (by simpa using h)
    simp only [List.zip_cons_cons, List.mem_cons, forall_eq_or_imp, List.cons.injEq]
    rw [this]
  | [], _ :: _, h => by simp at h
  | _ :: _, [], h => by simp at h
theorem EqualFunc_spec (a b : List V) (hl : a.length ≤ 1000000) : slices_EqualFunc_api_Val_api_Val_api_Val_api_Val (a, b, 1, ()) = some (D (a = b), ()) := by
  unfold slices_EqualFunc_api_Val_api_Val_api_Val_api_Val
  by_cases h : a.length = b.length
  · generalize hf : (fun (x_1 : Bool × Int × Unit) => _) = f
    have hz : (a.zip b).length = a.length := by simp [h]
    have key := loop_fold (f := f) (a.zip b) (fun (_ : Unit) i => (false, (i : Int), ())) 0 sameStep (fun _ _ => True) (fun _ i hi _ => ⟨?_, fun _ _ => trivial⟩) (fun _ _ => ?_) () trivial
    · refine (sel_of_f ?_).trans ((lc_eq key).trans ?_)
      · simp (disch := first | assumption | omega | decide) only [↓g02, ↓g03, ↓g04, ↓g05, ↓g06, g01, g02, g03, g04, g05, g06, g07, g08, g09, g10, g11, g12, g13, g14, g15, g16, g17, g18, g19, g20, g21, g22, g23, g24, g25, g26, g27, g28, g29, g30, g31, g32, g34, g35, g36, g37, g38, g39, g40, g41, g42, g43, g44, g45, g46, g47, g48, g49, g50, g51, g52, g53, g54, g55, g56, g57, g58, g60, g61, eq_self, not_true_eq_false, not_false_eq_true, List.nil_append, List.append_nil, List.length_nil, and_true, true_and, or_true, true_or, or_false, false_or, and_false, false_and, iff_self, if_true, if_false, lc_rt', lc_ex', lc_nx, g62, g63, Int.toNat_natCast, Int.natCast_add, nth_get, g33, g64, g65, Int.toNat_zero, h]
      rcases foldS_same (mk := fun _ i => ((false, (i : Int), ()) : Bool × Int × Unit)) (e := 0) (a.zip b) 0 with ⟨h1, y, h2⟩ | ⟨h1, h2⟩
      · rw [zip_eq h] at h1; rw [h2]; simp (disch := first | assumption | omega | decide) only [↓g02, ↓g03, ↓g04, ↓g05, ↓g06, g01, g02, g03, g04, g05, g06, g07, g08, g09, g10, g11, g12, g13, g14, g15, g16, g17, g18, g19, g20, g21, g22, g23, g24, g25, g26, g27, g28, g29, g30, g31, g32, g34, g35, g36, g37, g38, g39, g40, g41, g42, g43, g44, g45, g46, g47, g48, g49, g50, g51, g52, g53, g54, g55, g56, g57, g58, g60, g61, eq_self, not_true_eq_false, not_false_eq_true, List.nil_append, List.append_nil, List.length_nil, and_true, true_and, or_true, true_or, or_false, false_or, and_false, false_and, iff_self, if_true, if_false, lc_rt', lc_ex', lc_nx, g62, g63, Int.toNat_natCast, Int.natCast_add, nth_get, g33, g64, g65, Int.toNat_zero, h1]
      · rw [zip_eq h] at h1; rw [h2]; simp (disch := first | assumption | omega | decide) only [↓g02, ↓g03, ↓g04, ↓g05, ↓g06, g01, g02, g03, g04, g05, g06, g07, g08, g09, g10, g11, g12, g13, g14, g15, g16, g17, g18, g19, g20, g21, g22, g23, g24, g25, g26, g27, g28, g29, g30, g31, g32, g34, g35, g36, g37, g38, g39, g40, g41, g42, g43, g44, g45, g46, g47, g48, g49, g50, g51, g52, g53, g54, g55, g56, g57, g58, g60, g61, eq_self, not_true_eq_false, not_false_eq_true, List.nil_append, List.append_nil, List.length_nil, and_true, true_and, or_true, true_or, or_false, false_or, and_false, false_and, iff_self, if_true, if_false, lc_rt', lc_ex', lc_nx, g62, g63, Int.toNat_natCast, Int.natCast_add, nth_get, g33, g64, g65, Int.toNat_zero, h1]
    · subst hf
      have hia : i < a.length := by omega
      have hib : i < b.length := by omega
      simp only [List.getElem_zip]
      by_cases hx : a[i] = b[i]
      · have hs : sameStep () (b[i], b[i]) = .nx () := if_pos rfl
        simp (disch := first | assumption | omega | decide) only [↓g02, ↓g03, ↓g04, ↓g05, ↓g06, g01, g02, g03, g04, g05, g06, g07, g08, g09, g10, g11, g12, g13, g14, g15, g16, g17, g18, g19, g20, g21, g22, g23, g24, g25, g26, g27, g28, g29, g30, g31, g32, g34, g35, g36, g37, g38, g39, g40, g41, g42, g43, g44, g45, g46, g47, g48, g49, g50, g51, g52, g53, g54, g55, g56, g57, g58, g60, g61, eq_self, not_true_eq_false, not_false_eq_true, List.nil_append, List.append_nil, List.length_nil, and_true, true_and, or_true, true_or, or_false, false_or, and_false, false_and, iff_self, if_true, if_false, lc_rt', lc_ex', lc_nx, g62, g63, Int.toNat_natCast, Int.natCast_add, nth_get, g33, g64, g65, Int.toNat_zero, iso_Same_1_spec, hs, liftS, hx]
      · have hs : sameStep () (a[i], b[i]) = .rt (false, ()) := if_neg hx
        simp (disch := first | assumption | omega | decide) only [↓g02, ↓g03, ↓g04, ↓g05, ↓g06, g01, g02, g03, g04, g05, g06, g07, g08, g09, g10, g11, g12, g13, g14, g15, g16, g17, g18, g19, g20, g21, g22, g23, g24, g25, g26, g27, g28, g29, g30, g31, g32, g34, g35, g36, g37, g38, g39, g40, g41, g42, g43, g44, g45, g46, g47, g48, g49, g50, g51, g52, g53, g54, g55, g56, g57, g58, g60, g61, eq_self, not_true_eq_false, not_false_eq_true, List.nil_append, List.append_nil, List.length_nil, and_true, true_and, or_true, true_or, or_false, false_or, and_false, false_and, iff_self, if_true, if_false, lc_rt', lc_ex', lc_nx, g62, g63, Int.toNat_natCast, Int.natCast_add, nth_get, g33, g64, g65, Int.toNat_zero, iso_Same_1_spec, hs, liftS, hx]
    · subst hf; simp (disch := first | assumption | omega | decide) only [↓g02, ↓g03, ↓g04, ↓g05, ↓g06, g01, g02, g03, g04, g05, g06, g07, g08, g09, g10, g11, g12, g13, g14, g15, g16, g17, g18, g19, g20, g21, g22, g23, g24, g25, g26, g27, g28, g29, g30, g31, g32, g34, g35, g36, g37, g38, g39, g40, g41, g42, g43, g44, g45, g46, g47, g48, g49, g50, g51, g52, g53, g54, g55, g56, g57, g58, g60, g61, eq_self, not_true_eq_false, not_false_eq_true, List.nil_append, List.append_nil, List.length_nil, and_true, true_and, or_true, true_or, or_false, false_or, and_false, false_and, iff_self, if_true, if_false, lc_rt', lc_ex', lc_nx, g62, g63, Int.toNat_natCast, Int.natCast_add, nth_get, g33, g64, g65, Int.toNat_zero, hz]
  · have hn : ¬ a = b := fun e => h (by rw [e])
    simp (disch := first | assumption | omega | decide) only [↓g02, ↓g03, ↓g04, ↓g05, ↓g06, g01, g02, g03, g04, g05, g06, g07, g08, g09, g10, g11, g12, g13, g14, g15, g16, g17, g18, g19, g20, g21, g22, g23, g24, g25, g26, g27, g28, g29, g30, g31, g32, g34, g35, g36, g37, g38, g39, g40, g41, g42, g43, g44, g45, g46, g47, g48, g49, g50, g51, g52, g53, g54, g55, g56, g57, g58, g60, g61, eq_self, not_true_eq_false, not_false_eq_true, List.nil_append, List.append_nil, List.length_nil, and_true, true_and, or_true, true_or, or_false, false_or, and_false, false_and, iff_self, if_true, if_false, lc_rt', lc_ex', lc_nx, g62, g63, Int.toNat_natCast, Int.natCast_add, nth_get, g33, g64, g65, Int.toNat_zero, hn]
theorem M_eq {a b : M} : a = b ↔ a.1 = b.1 ∧ a.2.1 = b.2.1 := by
  obtain ⟨a1, a2, ⟨⟩⟩ := a; obtain ⟨b1, b2, ⟨⟩⟩ := b; simp
theorem V_eq {a b : V} : a = b ↔ a.1 = b.1 ∧ a.2.1 = b.2.1 := by
  obtain ⟨a1, a2, ⟨⟩⟩ := a; obtain ⟨b1, b2, ⟨⟩⟩ := b; simp
theorem iso_Same_spec (a b : M) (hl : a.2.1.length ≤ 1000000) : iso_Same (a, b, ()) = some (D (a = b), ()) := by
  unfold iso_Same
  simp (disch := first | assumption | omega | decide) only [↓g02, ↓g03, ↓g04, ↓g05, ↓g06, g01, g02, g03, g04, g05, g06, g07, g08, g09, g10, g11, g12, g13, g14, g15, g16, g17, g18, g19, g20, g21, g22, g23, g24, g25, g26, g27, g28, g29, g30, g31, g32, g34, g35, g36, g37, g38, g39, g40, g41, g42, g43, g44, g45, g46, g47, g48, g49, g50, g51, g52, g53, g54, g55, g56, g57, g58, g60, g61, eq_self, not_true_eq_false, not_false_eq_true, List.nil_append, List.append_nil, List.length_nil, and_true, true_and, or_true, true_or, or_false, false_or, and_false, false_and, iff_self, if_true, if_false, lc_rt', lc_ex', lc_nx, g62, g63, Int.toNat_natCast, Int.natCast_add, nth_get, g33, g64, g65, Int.toNat_zero, EqualFunc_spec]
  exact some_DD M_eq.symm
theorem ref07_Same_spec (a b : M) (hl : a.2.1.length ≤ 1000000) : ref07_Same (a, b, ()) = some (D (a = b), ()) := by
  obtain ⟨a1, a2, ⟨⟩⟩ := a; obtain ⟨b1, b2, ⟨⟩⟩ := b
  replace hl : a2.length ≤ 1000000 := hl
  unfold ref07_Same
  by_cases h : a1 = b1 ∧ a2.length = b2.length
  · generalize hf : (fun (x_1 : Bool × Int × Unit) => _) = f
    obtain ⟨rfl, h⟩ := h
    have hz : (a2.zip b2).length = a2.length := by simp [h]
    have key := loop_fold (f := f) (a2.zip b2) (fun (_ : Unit) i => (false, (i : Int), ())) 0 sameStep (fun _ _ => True) (fun _ i hi _ => ⟨?_, fun _ _ => trivial⟩) (fun _ _ => ?_) () trivial
    · refine (ob_of (a := (false, ())) ?_).trans ((sel_of_f rfl).trans ((lc_eq key).trans ?_))
      · simp (disch := first | assumption | omega | decide) only [↓g02, ↓g03, ↓g04, ↓g05, ↓g06, g01, g02, g03, g04, g05, g06, g07, g08, g09, g10, g11, g12, g13, g14, g15, g16, g17, g18, g19, g20, g21, g22, g23, g24, g25, g26, g27, g28, g29, g30, g31, g32, g34, g35, g36, g37, g38, g39, g40, g41, g42, g43, g44, g45, g46, g47, g48, g49, g50, g51, g52, g53, g54, g55, g56, g57, g58, g60, g61, eq_self, not_true_eq_false, not_false_eq_true, List.nil_append, List.append_nil, List.length_nil, and_true, true_and, or_true, true_or, or_false, false_or, and_false, false_and, iff_self, if_true, if_false, lc_rt', lc_ex', lc_nx, g62, g63, Int.toNat_natCast, Int.natCast_add, nth_get, g33, g64, g65, Int.toNat_zero, h]
      rcases foldS_same (mk := fun _ i => ((false, (i : Int), ()) : Bool × Int × Unit)) (e := 0) (a2.zip b2) 0 with ⟨h1, y, h2⟩ | ⟨h1, h2⟩
      · rw [zip_eq h] at h1; rw [h2]; simp (disch := first | assumption | omega | decide) only [↓g02, ↓g03, ↓g04, ↓g05, ↓g06, g01, g02, g03, g04, g05, g06, g07, g08, g09, g10, g11, g12, g13, g14, g15, g16, g17, g18, g19, g20, g21, g22, g23, g24, g25, g26, g27, g28, g29, g30, g31, g32, g34, g35, g36, g37, g38, g39, g40, g41, g42, g43, g44, g45, g46, g47, g48, g49, g50, g51, g52, g53, g54, g55, g56, g57, g58, g60, g61, eq_self, not_true_eq_false, not_false_eq_true, List.nil_append, List.append_nil, List.length_nil, and_true, true_and, or_true, true_or, or_false, false_or, and_false, false_and, iff_self, if_true, if_false, lc_rt', lc_ex', lc_nx, g62, g63, Int.toNat_natCast, Int.natCast_add, nth_get, g33, g64, g65, Int.toNat_zero, h1]
      · rw [zip_eq h] at h1; rw [h2]
        have hn : ¬ (a1, a2, ()) = (a1, b2, ()) := fun e => h1 (by simpa using e)
        simp (disch := first | assumption | omega | decide) only [↓g02, ↓g03, ↓g04, ↓g05, ↓g06, g01, g02, g03, g04, g05, g06, g07, g08, g09, g10, g11, g12, g13, g14, g15, g16, g17, g18, g19, g20, g21, g22, g23, g24, g25, g26, g27, g28, g29, g30, g31, g32, g34, g35, g36, g37, g38, g39, g40, g41, g42, g43, g44, g45, g46, g47, g48, g49, g50, g51, g52, g53, g54, g55, g56, g57, g58, g60, g61, eq_self, not_true_eq_false, not_false_eq_true, List.nil_append, List.append_nil, List.length_nil, and_true, true_and, or_true, true_or, or_false, false_or, and_false, false_and, iff_self, if_true, if_false, lc_rt', lc_ex', lc_nx, g62, g63, Int.toNat_natCast, Int.natCast_add, nth_get, g33, g64, g65, Int.toNat_zero, hn]
    · subst hf
      have hia : i < a2.length := by omega
      have hib : i < b2.length := by omega
      simp only [List.getElem_zip]
      by_cases hx : a2[i] = b2[i]
      · have hs : sameStep () (b2[i], b2[i]) = .nx () := if_pos rfl
        simp (disch := first | assumption | omega | decide) only [↓g02, ↓g03, ↓g04, ↓g05, ↓g06, g01, g02, g03, g04, g05, g06, g07, g08, g09, g10, g11, g12, g13, g14, g15, g16, g17, g18, g19, g20, g21, g22, g23, g24, g25, g26, g27, g28, g29, g30, g31, g32, g34, g35, g36, g37, g38, g39, g40, g41, g42, g43, g44, g45, g46, g47, g48, g49, g50, g51, g52, g53, g54, g55, g56, g57, g58, g60, g61, eq_self, not_true_eq_false, not_false_eq_true, List.nil_append, List.append_nil, List.length_nil, and_true, true_and, or_true, true_or, or_false, false_or, and_false, false_and, iff_self, if_true, if_false, lc_rt', lc_ex', lc_nx, g62, g63, Int.toNat_natCast, Int.natCast_add, nth_get, g33, g64, g65, Int.toNat_zero, ref01_Same_spec, hs, liftS, hx]
      · have hs : sameStep () (a2[i], b2[i]) = .rt (false, ()) := if_neg hx
        rw [V_eq] at hx
        by_cases hx1 : a2[i].1 = b2[i].1
        · have hx2 : ¬ a2[i].2.1 = b2[i].2.1 := fun e => hx ⟨hx1, e⟩
          simp (disch := first | assumption | omega | decide) only [↓g02, ↓g03, ↓g04, ↓g05, ↓g06, g01, g02, g03, g04, g05, g06, g07, g08, g09, g10, g11, g12, g13, g14, g15, g16, g17, g18, g19, g20, g21, g22, g23, g24, g25, g26, g27, g28, g29, g30, g31, g32, g34, g35, g36, g37, g38, g39, g40, g41, g42, g43, g44, g45, g46, g47, g48, g49, g50, g51, g52, g53, g54, g55, g56, g57, g58, g60, g61, eq_self, not_true_eq_false, not_false_eq_true, List.nil_append, List.append_nil, List.length_nil, and_true, true_and, or_true, true_or, or_false, false_or, and_false, false_and, iff_self, if_true, if_false, lc_rt', lc_ex', lc_nx, g62, g63, Int.toNat_natCast, Int.natCast_add, nth_get, g33, g64, g65, Int.toNat_zero, ref01_Same_spec, hs, liftS, hx1, hx2]
        · simp (disch := first | assumption | omega | decide) only [↓g02, ↓g03, ↓g04, ↓g05, ↓g06, g01, g02, g03, g04, g05, g06, g07, g08, g09, g10, g11, g12, g13, g14, g15, g16, g17, g18, g19, g20, g21, g22, g23, g24, g25, g26, g27, g28, g29, g30, g31, g32, g34, g35, g36, g37, g38, g39, g40, g41, g42, g43, g44, g45, g46, g47, g48, g49, g50, g51, g52, g53, g54, g55, g56, g57, g58, g60, g61, eq_self, not_true_eq_false, not_false_eq_true, List.nil_append, List.append_nil, List.length_nil, and_true, true_and, or_true, true_or, or_false, false_or, and_false, false_and, iff_self, if_true, if_false, lc_rt', lc_ex', lc_nx, g62, g63, Int.toNat_natCast, Int.natCast_add, nth_get, g33, g64, g65, Int.toNat_zero, ref01_Same_spec, hs, liftS, hx1]
    · subst hf; simp (disch := first | assumption | omega | decide) only [↓g02, ↓g03, ↓g04, ↓g05, ↓g06, g01, g02, g03, g04, g05, g06, g07, g08, g09, g10, g11, g12, g13, g14, g15, g16, g17, g18, g19, g20, g21, g22, g23, g24, g25, g26, g27, g28, g29, g30, g31, g32, g34, g35, g36, g37, g38, g39, g40, g41, g42, g43, g44, g45, g46, g47, g48, g49, g50, g51, g52, g53, g54, g55, g56, g57, g58, g60, g61, eq_self, not_true_eq_false, not_false_eq_true, List.nil_append, List.append_nil, List.length_nil, and_true, true_and, or_true, true_or, or_false, false_or, and_false, false_and, iff_self, if_true, if_false, lc_rt', lc_ex', lc_nx, g62, g63, Int.toNat_natCast, Int.natCast_add, nth_get, g33, g64, g65, Int.toNat_zero, hz]
  · have hn : ¬ (a1, a2, ()) = (b1, b2, ()) := fun e => h (by simp at e; exact ⟨e.1, by rw [e.2]⟩)
    by_cases h1 : a1 = b1
    · have h2 : ¬ a2.length = b2.length := fun e => h ⟨h1, e⟩
      subst h1
      simp (disch := first | assumption | omega | decide) only [↓g02, ↓g03, ↓g04, ↓g05, ↓g06, g01, g02, g03, g04, g05, g06, g07, g08, g09, g10, g11, g12, g13, g14, g15, g16, g17, g18, g19, g20, g21, g22, g23, g24, g25, g26, g27, g28, g29, g30, g31, g32, g34, g35, g36, g37, g38, g39, g40, g41, g42, g43, g44, g45, g46, g47, g48, g49, g50, g51, g52, g53, g54, g55, g56, g57, g58, g60, g61, eq_self, not_true_eq_false, not_false_eq_true, List.nil_append, List.append_nil, List.length_nil, and_true, true_and, or_true, true_or, or_false, false_or, and_false, false_and, iff_self, if_true, if_false, lc_rt', lc_ex', lc_nx, g62, g63, Int.toNat_natCast, Int.natCast_add, nth_get, g33, g64, g65, Int.toNat_zero, hn]
    · simp (disch := first | assumption | omega | decide) only [↓g02, ↓g03, ↓g04, ↓g05, ↓g06, g01, g02, g03, g04, g05, g06, g07, g08, g09, g10, g11, g12, g13, g14, g15, g16, g17, g18, g19, g20, g21, g22, g23, g24, g25, g26, g27, g28, g29, g30, g31, g32, g34, g35, g36, g37, g38, g39, g40, g41, g42, g43, g44, g45, g46, g47, g48, g49, g50, g51, g52, g53, g54, g55, g56, g57, g58, g60, g61, eq_self, not_true_eq_false, not_false_eq_true, List.nil_append, List.append_nil, List.length_nil, and_true, true_and, or_true, true_or, or_false, false_or, and_false, false_and, iff_self, if_true, if_false, lc_rt', lc_ex', lc_nx, g62, g63, Int.toNat_natCast, Int.natCast_add, nth_get, g33, g64, g65, Int.toNat_zero, hn, h1]
end Yp

namespace Yp
open Go
theorem row_one : upd (rep 16 (u8 0)) 0 (u8 128) = rowB 16 (fun m => Nat.beq m 1) := by decide +kernel
theorem wide_sel {l : List Int} (hl : l.length ≤ 1000000) : sel (D (0 < (l.length : Int))) (ck (D (0 ≤ (l.length : Int) - 1 ∧ (l.length : Int) - 1 < (l.length : Int))) (some (D (64 < nth l ((l.length : Int) - 1).toNat 0), ()))) (some (false, ())) = some (wideL l, ()) := by
  have hq : ((l.length : Int) - 1).toNat = l.length - 1 := by omega
  by_cases h0 : 0 < l.length
  · have e : wideL l = decide (64 < nth l (l.length - 1) 0) := by unfold wideL; rw [decide_eq_true h0, Bool.true_and]
    simp (disch := first | assumption | omega | decide) only [↓g02, ↓g03, ↓g04, ↓g05, ↓g06, g01, g02, g03, g04, g05, g06, g07, g08, g09, g10, g11, g12, g13, g14, g15, g16, g17, g18, g19, g20, g21, g22, g23, g24, g25, g26, g27, g28, g29, g30, g31, g32, g34, g35, g36, g37, g38, g39, g40, g41, g42, g43, g44, g45, g46, g47, g48, g49, g50, g51, g52, g53, g54, g55, g56, g57, g58, g60, g61, eq_self, not_true_eq_false, not_false_eq_true, List.nil_append, List.append_nil, List.length_nil, and_true, true_and, or_true, true_or, or_false, false_or, and_false, false_and, iff_self, if_true, if_false, lc_rt', lc_ex', lc_nx, g62, g63, Int.toNat_natCast, Int.natCast_add, nth_get, g33, g64, g65, Int.toNat_zero, Bool.false_eq_true, Int.reduceToNat, hq, e]
  · have e : wideL l = false := by unfold wideL; rw [decide_eq_false h0, Bool.false_and]
    simp (disch := first | assumption | omega | decide) only [↓g02, ↓g03, ↓g04, ↓g05, ↓g06, g01, g02, g03, g04, g05, g06, g07, g08, g09, g10, g11, g12, g13, g14, g15, g16, g17, g18, g19, g20, g21, g22, g23, g24, g25, g26, g27, g28, g29, g30, g31, g32, g34, g35, g36, g37, g38, g39, g40, g41, g42, g43, g44, g45, g46, g47, g48, g49, g50, g51, g52, g53, g54, g55, g56, g57, g58, g60, g61, eq_self, not_true_eq_false, not_false_eq_true, List.nil_append, List.append_nil, List.length_nil, and_true, true_and, or_true, true_or, or_false, false_or, and_false, false_and, iff_self, if_true, if_false, lc_rt', lc_ex', lc_nx, g62, g63, Int.toNat_natCast, Int.natCast_add, nth_get, g33, g64, g65, Int.toNat_zero, Bool.false_eq_true, Int.reduceToNat, e]
theorem bitmap_Write_spec (l : List Int) (hl : l.length ≤ 1000000) : bitmap_Write (l, ()) = some (if rightL 1 l = true then (bmW l, 0, ()) else ([], 1, ())) := by
  unfold bitmap_Write
  generalize hf : (fun (x_1 : Int × List UInt8 × Unit) => _) = f
  have hws := wide_sel hl
  cases hr : rightL 1 l
  · simp (disch := first | assumption | omega | decide) only [↓g02, ↓g03, ↓g04, ↓g05, ↓g06, g01, g02, g03, g04, g05, g06, g07, g08, g09, g10, g11, g12, g13, g14, g15, g16, g17, g18, g19, g20, g21, g22, g23, g24, g25, g26, g27, g28, g29, g30, g31, g32, g34, g35, g36, g37, g38, g39, g40, g41, g42, g43, g44, g45, g46, g47, g48, g49, g50, g51, g52, g53, g54, g55, g56, g57, g58, g60, g61, eq_self, not_true_eq_false, not_false_eq_true, List.nil_append, List.append_nil, List.length_nil, and_true, true_and, or_true, true_or, or_false, false_or, and_false, false_and, iff_self, if_true, if_false, lc_rt', lc_ex', lc_nx, g62, g63, Int.toNat_natCast, Int.natCast_add, nth_get, g33, g64, g65, Int.toNat_zero, Bool.false_eq_true, Int.reduceToNat, bitmap_Right_spec, hr]
  have hm := rightL_mem hr
  have step : ∀ (size : Nat), (∀ n ∈ l, n ≤ 8 * (size : Int)) → ∀ S0 : Nat → Bool, loop f (0, rowB size S0, ()) = some (.ex 0 ((l.length : Int), rowB size (fun m => S0 m || memI l m), ())) := by
    intro size hle S0
    refine bits_loop (fun S i h _ => ?_) (fun n hn => by have := hm n hn; omega) (fun x => ?_)
    · subst hf
      have hx := hm l[i] (List.getElem_mem h)
      have hx2 := hle l[i] (List.getElem_mem h)
      obtain ⟨N, hN⟩ : ∃ N : Nat, l[i] = N := ⟨l[i].toNat, by omega⟩
      have hP := bitmap_Place_spec (n := N) (by omega) (by omega)
      have hrl : (rowB size S).length = size := rowB_length
      have hset := set_row (size := size) (S := S) (n := N) (by omega) (by omega) (or_bit (nth (rowB size S) ((N - 1) / 8) (u8 0)) ((N - 1) % 8) (by omega))
      have hnl : ((N - 1) / 8) < (rowB size S).length := by omega
      rw [nth_get hnl] at hset
      simp (disch := first | assumption | omega | decide) only [↓g02, ↓g03, ↓g04, ↓g05, ↓g06, g01, g02, g03, g04, g05, g06, g07, g08, g09, g10, g11, g12, g13, g14, g15, g16, g17, g18, g19, g20, g21, g22, g23, g24, g25, g26, g27, g28, g29, g30, g31, g32, g34, g35, g36, g37, g38, g39, g40, g41, g42, g43, g44, g45, g46, g47, g48, g49, g50, g51, g52, g53, g54, g55, g56, g57, g58, g60, g61, eq_self, not_true_eq_false, not_false_eq_true, List.nil_append, List.append_nil, List.length_nil, and_true, true_and, or_true, true_or, or_false, false_or, and_false, false_and, iff_self, if_true, if_false, lc_rt', lc_ex', lc_nx, g62, g63, Int.toNat_natCast, Int.natCast_add, nth_get, g33, g64, g65, Int.toNat_zero, Bool.false_eq_true, Int.reduceToNat, hN, hP, hrl, hset]
    · subst hf; simp (disch := first | assumption | omega | decide) only [↓g02, ↓g03, ↓g04, ↓g05, ↓g06, g01, g02, g03, g04, g05, g06, g07, g08, g09, g10, g11, g12, g13, g14, g15, g16, g17, g18, g19, g20, g21, g22, g23, g24, g25, g26, g27, g28, g29, g30, g31, g32, g34, g35, g36, g37, g38, g39, g40, g41, g42, g43, g44, g45, g46, g47, g48, g49, g50, g51, g52, g53, g54, g55, g56, g57, g58, g60, g61, eq_self, not_true_eq_false, not_false_eq_true, List.nil_append, List.append_nil, List.length_nil, and_true, true_and, or_true, true_or, or_false, false_or, and_false, false_and, iff_self, if_true, if_false, lc_rt', lc_ex', lc_nx, g62, g63, Int.toNat_natCast, Int.natCast_add, nth_get, g33, g64, g65, Int.toNat_zero, Bool.false_eq_true, Int.reduceToNat]
  by_cases hw : wideL l = true
  · have := step 16 (fun n hn => by have := hm n hn; omega) (fun m => Nat.beq m 1)
    rw [← row_one] at this
    have e : rowB 16 (fun m => Nat.beq m 1 || memI l m) = bmW l := by
      unfold bmW; rw [if_pos hw]
      refine rowB_ext fun n _ _ => ?_
      unfold memI
      refine Bool.eq_iff_iff.2 ?_
      simp only [Bool.or_eq_true, Nat.beq_eq, decide_eq_true_eq, List.mem_cons]
      refine or_congr ?_ Iff.rfl
      omega
    rw [e] at this
    simp (disch := first | assumption | omega | decide) only [↓g02, ↓g03, ↓g04, ↓g05, ↓g06, g01, g02, g03, g04, g05, g06, g07, g08, g09, g10, g11, g12, g13, g14, g15, g16, g17, g18, g19, g20, g21, g22, g23, g24, g25, g26, g27, g28, g29, g30, g31, g32, g34, g35, g36, g37, g38, g39, g40, g41, g42, g43, g44, g45, g46, g47, g48, g49, g50, g51, g52, g53, g54, g55, g56, g57, g58, g60, g61, eq_self, not_true_eq_false, not_false_eq_true, List.nil_append, List.append_nil, List.length_nil, and_true, true_and, or_true, true_or, or_false, false_or, and_false, false_and, iff_self, if_true, if_false, lc_rt', lc_ex', lc_nx, g62, g63, Int.toNat_natCast, Int.natCast_add, nth_get, g33, g64, g65, Int.toNat_zero, Bool.false_eq_true, Int.reduceToNat, bitmap_Right_spec, hr, hws, hw, this]
  · have := step 8 (fun n hn => by have := not_wide hr hw n hn; omega) (fun m => false)
    rw [← rep_row] at this
    have hw' : wideL l = false := (Bool.not_eq_true _).mp hw
    have e : rowB 8 (fun m => false || memI l m) = bmW l := by
      unfold bmW; rw [if_neg hw]
      exact rowB_ext fun n _ _ => Bool.false_or _
    rw [e] at this
    simp (disch := first | assumption | omega | decide) only [↓g02, ↓g03, ↓g04, ↓g05, ↓g06, g01, g02, g03, g04, g05, g06, g07, g08, g09, g10, g11, g12, g13, g14, g15, g16, g17, g18, g19, g20, g21, g22, g23, g24, g25, g26, g27, g28, g29, g30, g31, g32, g34, g35, g36, g37, g38, g39, g40, g41, g42, g43, g44, g45, g46, g47, g48, g49, g50, g51, g52, g53, g54, g55, g56, g57, g58, g60, g61, eq_self, not_true_eq_false, not_false_eq_true, List.nil_append, List.append_nil, List.length_nil, and_true, true_and, or_true, true_or, or_false, false_or, and_false, false_and, iff_self, if_true, if_false, lc_rt', lc_ex', lc_nx, g62, g63, Int.toNat_natCast, Int.natCast_add, nth_get, g33, g64, g65, Int.toNat_zero, Bool.false_eq_true, Int.reduceToNat, bitmap_Right_spec, hr, hws, hw', this]
theorem ref06_Write_spec (l : List Int) (hl : l.length ≤ 1000000) : ref06_Write (l, ()) = some (if rightL 1 l = true then (bmW l, 0, ()) else ([], 1, ())) := by
  unfold ref06_Write
  have hws := wide_sel hl
  generalize hf : (fun (x_1 : Int × List UInt8 × Unit) => _) = f
  generalize hg : (fun (x_1 : Int × List UInt8 × Unit) => (sel (lt x_1.1 (len (app (none' Int) (l, ()).1))) _ _ : Option (LS (Int × List UInt8 × Unit) (List UInt8 × Int × Unit)))) = g
  cases hr : rightL 1 l
  · simp (disch := first | assumption | omega | decide) only [↓g02, ↓g03, ↓g04, ↓g05, ↓g06, g01, g02, g03, g04, g05, g06, g07, g08, g09, g10, g11, g12, g13, g14, g15, g16, g17, g18, g19, g20, g21, g22, g23, g24, g25, g26, g27, g28, g29, g30, g31, g32, g34, g35, g36, g37, g38, g39, g40, g41, g42, g43, g44, g45, g46, g47, g48, g49, g50, g51, g52, g53, g54, g55, g56, g57, g58, g60, g61, eq_self, not_true_eq_false, not_false_eq_true, List.nil_append, List.append_nil, List.length_nil, and_true, true_and, or_true, true_or, or_false, false_or, and_false, false_and, iff_self, if_true, if_false, lc_rt', lc_ex', lc_nx, g62, g63, Int.toNat_natCast, Int.natCast_add, nth_get, g33, g64, g65, Int.toNat_zero, Bool.false_eq_true, Int.reduceToNat, ref06_Right_spec, hr]
  have hm := rightL_mem hr
  have hnd : ∀ (last : Int) (l : List Int), rightL last l = true → ∀ i (h : i < l.length), ¬ l[i] ∈ l.take i := by
    intro last l
    induction l generalizing last with
    | nil => intro _ i h; simp at h
    | cons x r ih =>
      intro h i hi
      have hr := (by simpa only [rightL, Bool.and_eq_true, decide_eq_true_eq] using h : _)
      cases i with
      | zero => simp
      | succ i =>
        simp only [List.getElem_cons_succ, List.take_succ_cons, List.mem_cons, not_or]
        have hi' : i < r.length := by simpa using hi
        have := (rightL_mem hr.2 r[i] (List.getElem_mem hi')).1
        exact ⟨by omega, ih x hr.2 i hi'⟩
  have step : ∀ (L : List Int) (size : Nat) (f : Int × List UInt8 × Unit → Option (LS (Int × List UInt8 × Unit) (List UInt8 × Int × Unit))), (fun (x_1 : Int × List UInt8 × Unit) =>
           sel (lt x_1.1 (len L)) (ck (inB x_1.1 (len L)) (ob (ref06_Place (nth L (nat x_1.1) 0, ())) fun (a : Int × UInt8 × Unit) => ck (inB a.1 (len x_1.2.1)) (ck (inB a.1 (len x_1.2.1))
            (some (LS.nx (i64 (iadd x_1.1 1), upd x_1.2.1 (nat a.1) (u8 (iadd (n8 (nth x_1.2.1 (nat a.1) (u8 0))) (n8 a.2.1))), ())))))) (some (LS.ex 0 (x_1.1, x_1.2.1, ())))) = f → L.length ≤ 1000001 → (∀ n ∈ L, 1 ≤ n ∧ n ≤ 128 ∧ n ≤ 8 * (size : Int)) →
      (∀ i (h : i < L.length), ¬ L[i] ∈ L.take i) → loop f (0, rep size (u8 0), ()) = some (.ex 0 ((L.length : Int), rowB size (memI L), ())) := by
    intro L size f hf hl hle hnd
    have := bits_loop (f := f) (l := L) (size := size) (S0 := fun _ => false) (fun S i h hS => ?_) (fun n hn => (hle n hn).1) (fun x => ?_)
    · simp only [Bool.false_or] at this
      rw [← rep_row] at this; exact this
    · subst hf
      have hx := hle L[i] (List.getElem_mem h)
      obtain ⟨N, hN⟩ : ∃ N : Nat, L[i] = N := ⟨L[i].toNat, by omega⟩
      have hP := ref06_Place_spec (n := N) (by omega) (by omega)
      have hrl : (rowB size S).length = size := rowB_length
      have hfree : bt (nth (rowB size S) ((N - 1) / 8) (u8 0)) ((N - 1) % 8) = false := by
        have h1 : hasB (rowB size S) N = S N := hasB_rowB (by omega) (by omega)
        unfold hasB at h1
        rw [h1, hS, Bool.false_or]
        unfold memI
        rw [← hN]; exact decide_eq_false (hnd i h)
      have hset := set_row (size := size) (S := S) (n := N) (by omega) (by omega) (add_bit (nth (rowB size S) ((N - 1) / 8) (u8 0)) ((N - 1) % 8) (by omega) hfree)
      have hnl : ((N - 1) / 8) < (rowB size S).length := by omega
      rw [nth_get hnl] at hset
      simp only [iadd] at hset
      simp (disch := first | assumption | omega | decide) only [↓g02, ↓g03, ↓g04, ↓g05, ↓g06, g01, g02, g03, g04, g05, g06, g07, g08, g09, g10, g11, g12, g13, g14, g15, g16, g17, g18, g19, g20, g21, g22, g23, g24, g25, g26, g27, g28, g29, g30, g31, g32, g34, g35, g36, g37, g38, g39, g40, g41, g42, g43, g44, g45, g46, g47, g48, g49, g50, g51, g52, g53, g54, g55, g56, g57, g58, g60, g61, eq_self, not_true_eq_false, not_false_eq_true, List.nil_append, List.append_nil, List.length_nil, and_true, true_and, or_true, true_or, or_false, false_or, and_false, false_and, iff_self, if_true, if_false, lc_rt', lc_ex', lc_nx, g62, g63, Int.toNat_natCast, Int.natCast_add, nth_get, g33, g64, g65, Int.toNat_zero, Bool.false_eq_true, Int.reduceToNat, hN, hP, hrl, hset]
    · subst hf; simp (disch := first | assumption | omega | decide) only [↓g02, ↓g03, ↓g04, ↓g05, ↓g06, g01, g02, g03, g04, g05, g06, g07, g08, g09, g10, g11, g12, g13, g14, g15, g16, g17, g18, g19, g20, g21, g22, g23, g24, g25, g26, g27, g28, g29, g30, g31, g32, g34, g35, g36, g37, g38, g39, g40, g41, g42, g43, g44, g45, g46, g47, g48, g49, g50, g51, g52, g53, g54, g55, g56, g57, g58, g60, g61, eq_self, not_true_eq_false, not_false_eq_true, List.nil_append, List.append_nil, List.length_nil, and_true, true_and, or_true, true_or, or_false, false_or, and_false, false_and, iff_self, if_true, if_false, lc_rt', lc_ex', lc_nx, g62, g63, Int.toNat_natCast, Int.natCast_add, nth_get, g33, g64, g65, Int.toNat_zero, Bool.false_eq_true, Int.reduceToNat]
  by_cases hw : wideL l = true
  · have := step (l ++ [1]) 16 _ rfl (by simp; omega) (fun n hn => by
      rcases List.mem_append.1 hn with hn | hn
      · have := hm n hn; omega
      · simp at hn; subst hn; omega) (fun i h => by
      rcases Nat.lt_or_ge i l.length with hi | hi
      · rw [List.getElem_append_left hi, List.take_append_of_le_length (by omega)]; exact hnd 1 l hr i hi
      · have : i = l.length := by simp at h; omega
        subst this
        rw [List.getElem_append_right (by omega), List.take_left]
        simp only [Nat.sub_self, List.getElem_cons_zero]
        intro hc; have := hm 1 hc; omega)
    have e : rowB 16 (memI (l ++ [1])) = bmW l := by
      unfold bmW; rw [if_pos hw]
      refine rowB_ext fun n _ _ => ?_
      unfold memI
      exact Bool.eq_iff_iff.2 (by simp [or_comm])
    rw [e] at this
    have this : loop f (0, rep 16 (u8 0), ()) = some (.ex 0 (((l ++ [1]).length : Int), bmW l, ())) := by rw [← hf]; exact this
    simp (disch := first | assumption | omega | decide) only [↓g02, ↓g03, ↓g04, ↓g05, ↓g06, g01, g02, g03, g04, g05, g06, g07, g08, g09, g10, g11, g12, g13, g14, g15, g16, g17, g18, g19, g20, g21, g22, g23, g24, g25, g26, g27, g28, g29, g30, g31, g32, g34, g35, g36, g37, g38, g39, g40, g41, g42, g43, g44, g45, g46, g47, g48, g49, g50, g51, g52, g53, g54, g55, g56, g57, g58, g60, g61, eq_self, not_true_eq_false, not_false_eq_true, List.nil_append, List.append_nil, List.length_nil, and_true, true_and, or_true, true_or, or_false, false_or, and_false, false_and, iff_self, if_true, if_false, lc_rt', lc_ex', lc_nx, g62, g63, Int.toNat_natCast, Int.natCast_add, nth_get, g33, g64, g65, Int.toNat_zero, Bool.false_eq_true, Int.reduceToNat, ref06_Right_spec, hr, hws, hw, List.length_cons, this]
  · have := step l 8 _ rfl (by omega) (fun n hn => by have := not_wide hr hw n hn; have := hm n hn; omega) (hnd 1 l hr)
    have hw' : wideL l = false := (Bool.not_eq_true _).mp hw
    have e : rowB 8 (memI l) = bmW l := by unfold bmW; rw [if_neg hw]
    rw [e] at this
    have this : loop g (0, rep 8 (u8 0), ()) = some (.ex 0 ((l.length : Int), bmW l, ())) := by rw [← hg]; exact this
    simp (disch := first | assumption | omega | decide) only [↓g02, ↓g03, ↓g04, ↓g05, ↓g06, g01, g02, g03, g04, g05, g06, g07, g08, g09, g10, g11, g12, g13, g14, g15, g16, g17, g18, g19, g20, g21, g22, g23, g24, g25, g26, g27, g28, g29, g30, g31, g32, g34, g35, g36, g37, g38, g39, g40, g41, g42, g43, g44, g45, g46, g47, g48, g49, g50, g51, g52, g53, g54, g55, g56, g57, g58, g60, g61, eq_self, not_true_eq_false, not_false_eq_true, List.nil_append, List.append_nil, List.length_nil, and_true, true_and, or_true, true_or, or_false, false_or, and_false, false_and, iff_self, if_true, if_false, lc_rt', lc_ex', lc_nx, g62, g63, Int.toNat_natCast, Int.natCast_add, nth_get, g33, g64, g65, Int.toNat_zero, Bool.false_eq_true, Int.reduceToNat, ref06_Right_spec, hr, hws, hw', this]
end Yp

namespace Yp
open Go
theorem ref06_has_spec {c : List UInt8} {n : Nat} (h1 : 1 ≤ n) (h2 : n ≤ 128) (h3 : n ≤ 8 * c.length) : ref06_has (c, (n : Int), ()) = some (hasB c n, ()) := by
  unfold ref06_has
  have hP := ref06_Place_spec h1 h2
  have hlt : (n - 1) / 8 < c.length := by omega
  refine (ob_of hP).trans ((ck_of (inB_nat hlt)).trans ?_)
  have := and_bit (nth c ((n - 1) / 8) (u8 0)) ((n - 1) % 8) (by omega)
  simp only [nat_nat, this]; rfl
theorem hasB_take {c : List UInt8} {n k : Nat} (h1 : 1 ≤ n) (h2 : n ≤ 8 * k) (h3 : k ≤ c.length) : hasB (c.take k) n = hasB c n := by
  unfold hasB
  have h : (n - 1) / 8 < k := by omega
  rw [nth_get (by rw [List.length_take]; omega), nth_get (by omega), List.getElem_take]
def outB (c : List UInt8) (k : Nat) : List Nat := (List.range k).filter fun n => Nat.ble 2 n && hasB c n
theorem outB_succ (c : List UInt8) (k : Nat) (h : 2 ≤ k) : outB c (k + 1) = outB c k ++ if hasB c k = true then [k] else [] := by
  unfold outB
  rw [List.range_succ, List.filter_append]
  congr 1
  have : Nat.ble 2 k = true := Nat.ble_eq_true_of_le h
  simp only [List.filter_cons, this, Bool.true_and, List.filter_nil]
theorem outB_two (c : List UInt8) : outB c 2 = [] := by
  unfold outB; rw [List.filter_eq_nil_iff]
  intro n hn; rw [List.mem_range] at hn
  have : Nat.ble 2 n = false := (Bool.not_eq_true _).mp fun hb => by have := Nat.le_of_ble_eq_true hb; omega
  rw [this]; simp
theorem outB_take {c : List UInt8} {k : Nat} (h : k ≤ c.length) : numsB (c.take k) = outB c (8 * k + 1) := by
  unfold numsB outB
  rw [List.length_take, Nat.min_eq_left h]
  refine List.filter_congr fun n hn => ?_
  rw [List.mem_range] at hn
  by_cases h2 : 2 ≤ n
  · rw [hasB_take (by omega) (by omega) h]
  · have : Nat.ble 2 n = false := (Bool.not_eq_true _).mp fun hb => h2 (Nat.le_of_ble_eq_true hb)
    rw [this, Bool.false_and, Bool.false_and]
theorem outB_sorted (c : List UInt8) (k : Nat) : (outB c k).Pairwise (· < ·) := List.Pairwise.filter _ List.pairwise_lt_range
theorem outB_mem {c : List UInt8} {k n : Nat} : n ∈ outB c k ↔ n < k ∧ 2 ≤ n ∧ hasB c n = true := by
  unfold outB; rw [List.mem_filter, List.mem_range, Bool.and_eq_true, Nat.ble_eq]
theorem sorted_last {l : List Nat} (h : l.Pairwise (· < ·)) {n : Nat} (hn : n ∈ l) (h0 : l.length - 1 < l.length) : n ≤ l[l.length - 1] := by
  obtain ⟨i, hi, rfl⟩ := List.getElem_of_mem hn
  rcases Nat.lt_or_ge i (l.length - 1) with hlt | hge
  · exact Nat.le_of_lt (List.pairwise_iff_getElem.1 h i (l.length - 1) hi h0 hlt)
  · have : i = l.length - 1 := by omega
    subst this; exact Nat.le_refl _
theorem last_65 {l : List Nat} (h : l.Pairwise (· < ·)) : (65 ∈ l ∨ l.length = 0 ∨ ∃ h0 : l.length - 1 < l.length, l[l.length - 1] ≤ 65) ↔ (65 ∈ l ∨ ∀ n ∈ l, n < 65) := by
  constructor
  · rintro (h1 | h1 | ⟨h0, h1⟩)
    · exact .inl h1
    · right; intro n hn; rw [List.length_eq_zero_iff.1 h1] at hn; cases hn
    · by_cases h65 : 65 ∈ l
      · exact .inl h65
      · right; intro n hn
        have := sorted_last h hn h0
        have : n ≠ 65 := fun e => h65 (e ▸ hn)
        omega
  · rintro (h1 | h1)
    · exact .inl h1
    · by_cases h0 : l.length = 0
      · exact .inr (.inl h0)
      · right; right
        refine ⟨by omega, ?_⟩
        have := h1 _ (List.getElem_mem (show l.length - 1 < l.length by omega))
        omega
theorem outB_len (c : List UInt8) (k : Nat) : (outB c k).length ≤ k := by
  unfold outB
  have := List.length_filter_le (fun n => Nat.ble 2 n && hasB c n) (List.range k)
  rwa [List.length_range] at this
theorem ref06_Read_spec (b : List UInt8) (a : Int) (hl : b.length ≤ 1000000) : ref06_Read (b, a, ()) = some (bmR b a) := by
  unfold ref06_Read
  by_cases ha : a < 0 ∨ (b.length : Int) < a
  · unfold bmR; rw [if_pos ha]; simp (disch := first | assumption | omega | decide) only [↓g02, ↓g03, ↓g04, ↓g05, ↓g06, g01, g02, g03, g04, g05, g06, g07, g08, g09, g10, g11, g12, g13, g14, g15, g16, g17, g18, g19, g20, g21, g22, g23, g24, g25, g26, g27, g28, g29, g30, g31, g32, g34, g35, g36, g37, g38, g39, g40, g41, g42, g43, g44, g45, g46, g47, g48, g49, g50, g51, g52, g53, g54, g55, g56, g57, g58, g60, g61, eq_self, not_true_eq_false, not_false_eq_true, List.nil_append, List.append_nil, List.length_nil, and_true, true_and, or_true, true_or, or_false, false_or, and_false, false_and, iff_self, if_true, if_false, lc_rt', lc_ex', lc_nx, g62, g63, Int.toNat_natCast, Int.natCast_add, nth_get, g33, g64, g65, Int.toNat_zero, Bool.false_eq_true, Int.reduceToNat]
  have hb : bmR b a = bmC (b.drop a.toNat) a := by unfold bmR; rw [if_neg ha]
  rw [hb]
  have hsub : sub b a (len b) = b.drop a.toNat := by
    simp only [sub, len, Int.toNat_natCast]
    rw [List.take_of_length_le (by rw [List.length_drop]; omega)]
  have hcl : (b.drop a.toNat).length = b.length - a.toNat := List.length_drop
  simp only [hsub]
  generalize hc : b.drop a.toNat = c at *
  clear hb hsub
  by_cases h8 : c.length < 8
  · unfold bmC; rw [if_pos (Or.inl h8)]; simp (disch := first | assumption | omega | decide) only [↓g02, ↓g03, ↓g04, ↓g05, ↓g06, g01, g02, g03, g04, g05, g06, g07, g08, g09, g10, g11, g12, g13, g14, g15, g16, g17, g18, g19, g20, g21, g22, g23, g24, g25, g26, g27, g28, g29, g30, g31, g32, g34, g35, g36, g37, g38, g39, g40, g41, g42, g43, g44, g45, g46, g47, g48, g49, g50, g51, g52, g53, g54, g55, g56, g57, g58, g60, g61, eq_self, not_true_eq_false, not_false_eq_true, List.nil_append, List.append_nil, List.length_nil, and_true, true_and, or_true, true_or, or_false, false_or, and_false, false_and, iff_self, if_true, if_false, lc_rt', lc_ex', lc_nx, g62, g63, Int.toNat_natCast, Int.natCast_add, nth_get, g33, g64, g65, Int.toNat_zero, Bool.false_eq_true, Int.reduceToNat]
  have h1 := ref06_has_spec (c := c) (n := 1) (by omega) (by omega) (by omega)
  replace h1 : ref06_has (c, 1, ()) = some (hasB c 1, ()) := h1
  -- the loop
  have lp : ∀ (size : Nat) (f : List Int × Int × Unit → Option (LS (List Int × Int × Unit) (List Int × Int × Int × Unit))), (fun (x_1 : List Int × Int × Unit) =>
           sel (le x_1.2.1 (i64 (imul 8 (size : Int)))) (ob (ref06_has (c, x_1.2.1, ())) fun (a : Bool × Unit) => sel a.1 (ck (rm 32 (nadd (ln x_1.1) (ln [x_1.2.1]))) (some (LS.nx (app x_1.1 [x_1.2.1], i64 (iadd x_1.2.1 1), ()))))
            (some (LS.nx (x_1.1, i64 (iadd x_1.2.1 1), ())))) (some (LS.ex 0 (x_1.1, x_1.2.1, ())))) = f → 1 ≤ size → size ≤ 16 → size ≤ c.length →
      loop f ([], 2, ()) = some (.ex 0 ((numsB (c.take size)).map Int.ofNat, ((8 * size + 1 : Nat) : Int), ())) := by
    intro size f hf hs0 hs hsc
    have step : ∀ i, i < 8 * size - 1 → f ((outB c (i + 2)).map Int.ofNat, ((i + 2 : Nat) : Int), ()) = some (.nx ((outB c (i + 1 + 2)).map Int.ofNat, ((i + 1 + 2 : Nat) : Int), ())) := fun i hi => by
      subst hf
      have hh := ref06_has_spec (c := c) (n := i + 2) (by omega) (by omega) (by omega)
      have hol := outB_len c (i + 2)
      have hos := outB_succ c (i + 2) (by omega)
      rw [show i + 1 + 2 = i + 2 + 1 by omega, hos]
      cases hhb : hasB c (i + 2)
      · rw [hhb] at hh
        simp only [Bool.false_eq_true, if_false, List.append_nil]
        generalize hN : i + 2 = N at *
        simp (disch := first | assumption | omega | decide) only [↓g02, ↓g03, ↓g04, ↓g05, ↓g06, g01, g02, g03, g04, g05, g06, g07, g08, g09, g10, g11, g12, g13, g14, g15, g16, g17, g18, g19, g20, g21, g22, g23, g24, g25, g26, g27, g28, g29, g30, g31, g32, g34, g35, g36, g37, g38, g39, g40, g41, g42, g43, g44, g45, g46, g47, g48, g49, g50, g51, g52, g53, g54, g55, g56, g57, g58, g60, g61, eq_self, not_true_eq_false, not_false_eq_true, List.nil_append, List.append_nil, List.length_nil, and_true, true_and, or_true, true_or, or_false, false_or, and_false, false_and, iff_self, if_true, if_false, lc_rt', lc_ex', lc_nx, g62, g63, Int.toNat_natCast, Int.natCast_add, nth_get, g33, g64, g65, Int.toNat_zero, Bool.false_eq_true, Int.reduceToNat, hh]
      · rw [hhb] at hh
        simp only [if_true, List.map_append, List.map_cons, List.map_nil]
        generalize hN : i + 2 = N at *
        simp (disch := first | assumption | omega | decide) only [↓g02, ↓g03, ↓g04, ↓g05, ↓g06, g01, g02, g03, g04, g05, g06, g07, g08, g09, g10, g11, g12, g13, g14, g15, g16, g17, g18, g19, g20, g21, g22, g23, g24, g25, g26, g27, g28, g29, g30, g31, g32, g34, g35, g36, g37, g38, g39, g40, g41, g42, g43, g44, g45, g46, g47, g48, g49, g50, g51, g52, g53, g54, g55, g56, g57, g58, g60, g61, eq_self, not_true_eq_false, not_false_eq_true, List.nil_append, List.append_nil, List.length_nil, and_true, true_and, or_true, true_or, or_false, false_or, and_false, false_and, iff_self, if_true, if_false, lc_rt', lc_ex', lc_nx, g62, g63, Int.toNat_natCast, Int.natCast_add, nth_get, g33, g64, g65, Int.toNat_zero, Bool.false_eq_true, Int.reduceToNat, hh, List.length_map, List.length_cons]
        rfl
    have e := loop_count (f := f) (fun i => ((outB c (i + 2)).map Int.ofNat, ((i + 2 : Nat) : Int), ())) (8 * size - 1) step 0 (by omega)
    simp only [Nat.zero_add, outB_two, List.map_nil] at e
    replace e : loop f ([], 2, ()) = _ := e
    rw [e, outB_take hsc, show 8 * size - 1 + 2 = 8 * size + 1 by omega]
    refine loop_ex ?_
    subst hf; simp (disch := first | assumption | omega | decide) only [↓g02, ↓g03, ↓g04, ↓g05, ↓g06, g01, g02, g03, g04, g05, g06, g07, g08, g09, g10, g11, g12, g13, g14, g15, g16, g17, g18, g19, g20, g21, g22, g23, g24, g25, g26, g27, g28, g29, g30, g31, g32, g34, g35, g36, g37, g38, g39, g40, g41, g42, g43, g44, g45, g46, g47, g48, g49, g50, g51, g52, g53, g54, g55, g56, g57, g58, g60, g61, eq_self, not_true_eq_false, not_false_eq_true, List.nil_append, List.append_nil, List.length_nil, and_true, true_and, or_true, true_or, or_false, false_or, and_false, false_and, iff_self, if_true, if_false, lc_rt', lc_ex', lc_nx, g62, g63, Int.toNat_natCast, Int.natCast_add, nth_get, g33, g64, g65, Int.toNat_zero, Bool.false_eq_true, Int.reduceToNat]
  refine (ob_of (a := (false, ())) (by simp (disch := first | assumption | omega | decide) only [↓g02, ↓g03, ↓g04, ↓g05, ↓g06, g01, g02, g03, g04, g05, g06, g07, g08, g09, g10, g11, g12, g13, g14, g15, g16, g17, g18, g19, g20, g21, g22, g23, g24, g25, g26, g27, g28, g29, g30, g31, g32, g34, g35, g36, g37, g38, g39, g40, g41, g42, g43, g44, g45, g46, g47, g48, g49, g50, g51, g52, g53, g54, g55, g56, g57, g58, g60, g61, eq_self, not_true_eq_false, not_false_eq_true, List.nil_append, List.append_nil, List.length_nil, and_true, true_and, or_true, true_or, or_false, false_or, and_false, false_and, iff_self, if_true, if_false, lc_rt', lc_ex', lc_nx, g62, g63, Int.toNat_natCast, Int.natCast_add, nth_get, g33, g64, g65, Int.toNat_zero, Bool.false_eq_true, Int.reduceToNat]; exact some_Df (by omega))).trans ?_
  refine (sel_of_f rfl).trans ?_
  refine (ck_of (by simp (disch := first | assumption | omega | decide) only [↓g02, ↓g03, ↓g04, ↓g05, ↓g06, g01, g02, g03, g04, g05, g06, g07, g08, g09, g10, g11, g12, g13, g14, g15, g16, g17, g18, g19, g20, g21, g22, g23, g24, g25, g26, g27, g28, g29, g30, g31, g32, g34, g35, g36, g37, g38, g39, g40, g41, g42, g43, g44, g45, g46, g47, g48, g49, g50, g51, g52, g53, g54, g55, g56, g57, g58, g60, g61, eq_self, not_true_eq_false, not_false_eq_true, List.nil_append, List.append_nil, List.length_nil, and_true, true_and, or_true, true_or, or_false, false_or, and_false, false_and, iff_self, if_true, if_false, lc_rt', lc_ex', lc_nx, g62, g63, Int.toNat_natCast, Int.natCast_add, nth_get, g33, g64, g65, Int.toNat_zero, Bool.false_eq_true, Int.reduceToNat]; exact ⟨by omega, by omega⟩)).trans ?_
  refine (sel_of_f (by simp (disch := first | assumption | omega | decide) only [↓g02, ↓g03, ↓g04, ↓g05, ↓g06, g01, g02, g03, g04, g05, g06, g07, g08, g09, g10, g11, g12, g13, g14, g15, g16, g17, g18, g19, g20, g21, g22, g23, g24, g25, g26, g27, g28, g29, g30, g31, g32, g34, g35, g36, g37, g38, g39, g40, g41, g42, g43, g44, g45, g46, g47, g48, g49, g50, g51, g52, g53, g54, g55, g56, g57, g58, g60, g61, eq_self, not_true_eq_false, not_false_eq_true, List.nil_append, List.append_nil, List.length_nil, and_true, true_and, or_true, true_or, or_false, false_or, and_false, false_and, iff_self, if_true, if_false, lc_rt', lc_ex', lc_nx, g62, g63, Int.toNat_natCast, Int.natCast_add, nth_get, g33, g64, g65, Int.toNat_zero, Bool.false_eq_true, Int.reduceToNat]; omega)).trans ?_
  refine (ob_of h1).trans ?_
  cases hw : hasB c 1
  · have e := lp 8 _ rfl (by omega) (by omega) (by omega)
    have hbm : bmC c a = ((numsB (c.take 8)).map Int.ofNat, a + 8, 0, ()) := by
      unfold bmC
      rw [if_neg (by rw [hw]; simp; omega), if_neg (by rw [hw]; simp)]
    rw [hbm]
    refine (ob_of (sel_of_f rfl)).trans ?_
    refine (sel_of_f (by simp (disch := first | assumption | omega | decide) only [↓g02, ↓g03, ↓g04, ↓g05, ↓g06, g01, g02, g03, g04, g05, g06, g07, g08, g09, g10, g11, g12, g13, g14, g15, g16, g17, g18, g19, g20, g21, g22, g23, g24, g25, g26, g27, g28, g29, g30, g31, g32, g34, g35, g36, g37, g38, g39, g40, g41, g42, g43, g44, g45, g46, g47, g48, g49, g50, g51, g52, g53, g54, g55, g56, g57, g58, g60, g61, eq_self, not_true_eq_false, not_false_eq_true, List.nil_append, List.append_nil, List.length_nil, and_true, true_and, or_true, true_or, or_false, false_or, and_false, false_and, iff_self, if_true, if_false, lc_rt', lc_ex', lc_nx, g62, g63, Int.toNat_natCast, Int.natCast_add, nth_get, g33, g64, g65, Int.toNat_zero, Bool.false_eq_true, Int.reduceToNat]; omega)).trans ?_
    refine (lc_eq e).trans ?_
    simp (disch := first | assumption | omega | decide) only [↓g02, ↓g03, ↓g04, ↓g05, ↓g06, g01, g02, g03, g04, g05, g06, g07, g08, g09, g10, g11, g12, g13, g14, g15, g16, g17, g18, g19, g20, g21, g22, g23, g24, g25, g26, g27, g28, g29, g30, g31, g32, g34, g35, g36, g37, g38, g39, g40, g41, g42, g43, g44, g45, g46, g47, g48, g49, g50, g51, g52, g53, g54, g55, g56, g57, g58, g60, g61, eq_self, not_true_eq_false, not_false_eq_true, List.nil_append, List.append_nil, List.length_nil, and_true, true_and, or_true, true_or, or_false, false_or, and_false, false_and, iff_self, if_true, if_false, lc_rt', lc_ex', lc_nx, g62, g63, Int.toNat_natCast, Int.natCast_add, nth_get, g33, g64, g65, Int.toNat_zero, Bool.false_eq_true, Int.reduceToNat]
  · by_cases h16 : c.length < 16
    · unfold bmC; rw [if_pos (Or.inr ⟨hw, h16⟩)]
      simp (disch := first | assumption | omega | decide) only [↓g02, ↓g03, ↓g04, ↓g05, ↓g06, g01, g02, g03, g04, g05, g06, g07, g08, g09, g10, g11, g12, g13, g14, g15, g16, g17, g18, g19, g20, g21, g22, g23, g24, g25, g26, g27, g28, g29, g30, g31, g32, g34, g35, g36, g37, g38, g39, g40, g41, g42, g43, g44, g45, g46, g47, g48, g49, g50, g51, g52, g53, g54, g55, g56, g57, g58, g60, g61, eq_self, not_true_eq_false, not_false_eq_true, List.nil_append, List.append_nil, List.length_nil, and_true, true_and, or_true, true_or, or_false, false_or, and_false, false_and, iff_self, if_true, if_false, lc_rt', lc_ex', lc_nx, g62, g63, Int.toNat_natCast, Int.natCast_add, nth_get, g33, g64, g65, Int.toNat_zero, Bool.false_eq_true, Int.reduceToNat]
    · have e := lp 16 _ rfl (by omega) (by omega) (by omega)
      have h65 := ref06_has_spec (c := c) (n := 65) (by omega) (by omega) (by omega)
      replace h65 : ref06_has (c, 65, ()) = some (hasB c 65, ()) := h65
      rw [outB_take (by omega)] at e
      have hol := outB_len c (8 * 16 + 1)
      have hm65 : 65 ∈ outB c (8 * 16 + 1) ↔ hasB c 65 = true := ⟨fun h => (outB_mem.1 h).2.2, fun h => outB_mem.2 ⟨by omega, by omega, h⟩⟩
      have hlast := last_65 (outB_sorted c (8 * 16 + 1))
      have hbm : bmC c a = if 65 ∈ outB c (8 * 16 + 1) ∨ ∀ n ∈ outB c (8 * 16 + 1), n < 65 then ([], 0, 2, ()) else ((outB c (8 * 16 + 1)).map Int.ofNat, a + 16, 0, ()) := by
        unfold bmC
        rw [if_neg (by omega), if_pos hw, outB_take (by omega)]
      rw [hbm]
      refine (ob_of (sel_of_t rfl)).trans ?_
      refine (sel_of_f (by simp (disch := first | assumption | omega | decide) only [↓g02, ↓g03, ↓g04, ↓g05, ↓g06, g01, g02, g03, g04, g05, g06, g07, g08, g09, g10, g11, g12, g13, g14, g15, g16, g17, g18, g19, g20, g21, g22, g23, g24, g25, g26, g27, g28, g29, g30, g31, g32, g34, g35, g36, g37, g38, g39, g40, g41, g42, g43, g44, g45, g46, g47, g48, g49, g50, g51, g52, g53, g54, g55, g56, g57, g58, g60, g61, eq_self, not_true_eq_false, not_false_eq_true, List.nil_append, List.append_nil, List.length_nil, and_true, true_and, or_true, true_or, or_false, false_or, and_false, false_and, iff_self, if_true, if_false, lc_rt', lc_ex', lc_nx, g62, g63, Int.toNat_natCast, Int.natCast_add, nth_get, g33, g64, g65, Int.toNat_zero, Bool.false_eq_true, Int.reduceToNat]; omega)).trans ?_
      refine (lc_eq e).trans ?_
      generalize outB c (8 * 16 + 1) = l at *
      have hq : ((l.length : Int) - 1).toNat = l.length - 1 := by omega
      cases hb65 : hasB c 65
      · rw [hb65] at h65 hm65
        have hn65 : ¬ 65 ∈ l := fun h => by have := hm65.1 h; simp at this
        by_cases h0 : l.length = 0
        · rw [if_pos (hlast.1 (.inr (.inl h0)))]
          simp (disch := first | assumption | omega | decide) only [↓g02, ↓g03, ↓g04, ↓g05, ↓g06, g01, g02, g03, g04, g05, g06, g07, g08, g09, g10, g11, g12, g13, g14, g15, g16, g17, g18, g19, g20, g21, g22, g23, g24, g25, g26, g27, g28, g29, g30, g31, g32, g34, g35, g36, g37, g38, g39, g40, g41, g42, g43, g44, g45, g46, g47, g48, g49, g50, g51, g52, g53, g54, g55, g56, g57, g58, g60, g61, eq_self, not_true_eq_false, not_false_eq_true, List.nil_append, List.append_nil, List.length_nil, and_true, true_and, or_true, true_or, or_false, false_or, and_false, false_and, iff_self, if_true, if_false, lc_rt', lc_ex', lc_nx, g62, g63, Int.toNat_natCast, Int.natCast_add, nth_get, g33, g64, g65, Int.toNat_zero, Bool.false_eq_true, Int.reduceToNat, h65, List.length_map]
        · have hlt : l.length - 1 < l.length := by omega
          have hn : nth (l.map Int.ofNat) (l.length - 1) 0 = Int.ofNat l[l.length - 1] := by rw [nth_get (by simpa using hlt), List.getElem_map]
          by_cases h6 : l[l.length - 1] ≤ 65
          · rw [if_pos (hlast.1 (.inr (.inr ⟨hlt, h6⟩)))]
            have h6' : Int.ofNat l[l.length - 1] ≤ 65 := by simp; omega
            simp (disch := first | assumption | omega | decide) only [↓g02, ↓g03, ↓g04, ↓g05, ↓g06, g01, g02, g03, g04, g05, g06, g07, g08, g09, g10, g11, g12, g13, g14, g15, g16, g17, g18, g19, g20, g21, g22, g23, g24, g25, g26, g27, g28, g29, g30, g31, g32, g34, g35, g36, g37, g38, g39, g40, g41, g42, g43, g44, g45, g46, g47, g48, g49, g50, g51, g52, g53, g54, g55, g56, g57, g58, g60, g61, eq_self, not_true_eq_false, not_false_eq_true, List.nil_append, List.append_nil, List.length_nil, and_true, true_and, or_true, true_or, or_false, false_or, and_false, false_and, iff_self, if_true, if_false, lc_rt', lc_ex', lc_nx, g62, g63, Int.toNat_natCast, Int.natCast_add, nth_get, g33, g64, g65, Int.toNat_zero, Bool.false_eq_true, Int.reduceToNat, h65, List.length_map, hq, hn]
          · rw [if_neg fun hc => by
              rcases hlast.2 hc with h | h | ⟨_, h⟩
              · exact hn65 h
              · exact h0 h
              · exact h6 h]
            have h6' : ¬ Int.ofNat l[l.length - 1] ≤ 65 := by simp; omega
            simp (disch := first | assumption | omega | decide) only [↓g02, ↓g03, ↓g04, ↓g05, ↓g06, g01, g02, g03, g04, g05, g06, g07, g08, g09, g10, g11, g12, g13, g14, g15, g16, g17, g18, g19, g20, g21, g22, g23, g24, g25, g26, g27, g28, g29, g30, g31, g32, g34, g35, g36, g37, g38, g39, g40, g41, g42, g43, g44, g45, g46, g47, g48, g49, g50, g51, g52, g53, g54, g55, g56, g57, g58, g60, g61, eq_self, not_true_eq_false, not_false_eq_true, List.nil_append, List.append_nil, List.length_nil, and_true, true_and, or_true, true_or, or_false, false_or, and_false, false_and, iff_self, if_true, if_false, lc_rt', lc_ex', lc_nx, g62, g63, Int.toNat_natCast, Int.natCast_add, nth_get, g33, g64, g65, Int.toNat_zero, Bool.false_eq_true, Int.reduceToNat, h65, List.length_map, hq, hn]
      · rw [if_pos (.inl (hm65.2 hb65))]
        rw [hb65] at h65
        simp (disch := first | assumption | omega | decide) only [↓g02, ↓g03, ↓g04, ↓g05, ↓g06, g01, g02, g03, g04, g05, g06, g07, g08, g09, g10, g11, g12, g13, g14, g15, g16, g17, g18, g19, g20, g21, g22, g23, g24, g25, g26, g27, g28, g29, g30, g31, g32, g34, g35, g36, g37, g38, g39, g40, g41, g42, g43, g44, g45, g46, g47, g48, g49, g50, g51, g52, g53, g54, g55, g56, g57, g58, g60, g61, eq_self, not_true_eq_false, not_false_eq_true, List.nil_append, List.append_nil, List.length_nil, and_true, true_and, or_true, true_or, or_false, false_or, and_false, false_and, iff_self, if_true, if_false, lc_rt', lc_ex', lc_nx, g62, g63, Int.toNat_natCast, Int.natCast_add, nth_get, g33, g64, g65, Int.toNat_zero, Bool.false_eq_true, Int.reduceToNat, h65]
end Yp

namespace Yp
open Go
theorem formOf_no {no k l : Int} (h : formOf no = some (k, l)) : 2 ≤ no ∧ no ≤ 128 ∧ no ≠ 65 := by
  unfold formOf at h
  rw [Option.map_eq_some_iff] at h
  obtain ⟨r, hr, he⟩ := h
  have hm := List.mem_of_find?_eq_some hr
  have hp := List.find?_some hr
  simp only [List.contains_eq_mem, decide_eq_true_eq] at hp
  have : ∀ r ∈ frows, ∀ c ∈ r.drop 2, 2 ≤ c ∧ c ≤ 128 ∧ c ≠ 65 := by decide +kernel
  exact this r hm no hp
theorem fitsD_iff {no : Int} {v : List UInt8} : fitsD no v = true ↔ ∃ k l, formOf no = some (k, l) ∧ fv k l v := by
  unfold fitsD
  cases ho : formOf no with
  | none => simp
  | some p =>
    obtain ⟨k, l⟩ := p
    simp only [decide_eq_true_eq, Option.some.injEq, Prod.mk.injEq]
    exact ⟨fun h => ⟨k, l, ⟨rfl, rfl⟩, h⟩, fun ⟨_, _, ⟨h1, h2⟩, h⟩ => by rw [h1, h2]; exact h⟩
theorem fitsD_no {no : Int} {v : List UInt8} (h : fitsD no v = true) : 2 ≤ no ∧ no ≤ 128 ∧ no ≠ 65 := by
  obtain ⟨k, l, h1, _⟩ := fitsD_iff.1 h; exact formOf_no h1
theorem rightF_mem {l : List V} : ∀ {last : Int}, rightF last l = true → ∀ v ∈ l, last < v.1 ∧ fitsD v.1 v.2.1 = true := by
  induction l with
  | nil => intro _ _ v hv; cases hv
  | cons x r ih =>
    intro last h v hv
    simp only [rightF, Bool.and_eq_true, decide_eq_true_eq] at h
    rcases List.mem_cons.1 hv with rfl | hv
    · exact ⟨h.1, h.2.1⟩
    · have := ih h.2.2 v hv
      exact ⟨by omega, this.2⟩
def nosF (l : List V) : List Int := l.map fun v => v.1
theorem rightF_L {l : List V} : ∀ {last : Int}, 1 ≤ last → rightF last l = true → rightL last (nosF l) = true := by
  induction l with
  | nil => intros; rfl
  | cons x r ih =>
    intro last hl h
    simp only [rightF, Bool.and_eq_true, decide_eq_true_eq] at h
    have hn := fitsD_no h.2.1
    simp only [nosF, List.map_cons, rightL, Bool.and_eq_true, decide_eq_true_eq]
    exact ⟨⟨h.1, hn.2⟩, ih (by omega) h.2.2⟩
theorem rightF_L1 {l : List V} (h : rightF 0 l = true) : rightL 1 (nosF l) = true := by
  cases l with
  | nil => rfl
  | cons x r =>
    simp only [rightF, Bool.and_eq_true, decide_eq_true_eq] at h
    have hn := fitsD_no h.2.1
    simp only [nosF, List.map_cons, rightL, Bool.and_eq_true, decide_eq_true_eq]
    exact ⟨⟨by omega, hn.2⟩, rightF_L (by omega) h.2.2⟩
def wrV (v : V) : List UInt8 := (wrD v.1 v.2.1).1
theorem wrD_fit {no : Int} {v : List UInt8} (h : fitsD no v = true) : wrD no v = ((wrD no v).1, 0, ()) ∧ (wrD no v).1.length ≤ 402 ∧ 1 ≤ (wrD no v).1.length := by
  obtain ⟨k, l, h1, h2⟩ := fitsD_iff.1 h
  have e : wrD no v = (wrF k v, 0, ()) := by unfold wrD; rw [h1]; simp only [if_pos h2]
  have hl := fv_len h1 h2
  rw [e]
  exact ⟨rfl, wrF_le (form_ok h1).1 hl.2.2, wrF_pos (form_ok h1).1 hl.1⟩
def typB (m : Int) : List UInt8 := bcd (pad (ps 10 dch m.toNat 4))
theorem typB_length {m : Int} : (typB m).length = 2 := by unfold typB; rw [bcdpad_length, ps_length]
def wrM (m : M) : List UInt8 := typB m.1 ++ (bmW (nosF m.2.1) ++ m.2.1.flatMap wrV)
theorem bmW_length (l : List Int) : (bmW l).length = if wideL l = true then 16 else 8 := by unfold bmW; split <;> exact rowB_length
theorem foldl_nos (l : List V) : ∀ acc : List Int, l.foldl (fun acc v => acc ++ [v.1]) acc = acc ++ nosF l := by
  induction l with
  | nil => intro acc; simp [nosF]
  | cons v r ih => intro acc; rw [List.foldl_cons, ih]; simp [nosF]
theorem foldl_wr (l : List V) : ∀ acc : List UInt8, l.foldl (fun acc v => acc ++ wrV v) acc = acc ++ l.flatMap wrV := by
  induction l with
  | nil => intro acc; simp
  | cons v r ih => intro acc; rw [List.foldl_cons, ih]; simp
theorem typ_digits {m : Int} (h : typeOK m) : dig_Digits (m, 4, ()) = some (ps 10 dch m.toNat 4, 0, ()) ∧ dig_Bcd (ps 10 dch m.toNat 4, ()) = some (typB m, 0, ()) ∧ ref01_Digits (m, 4, ()) = some (ps 10 dch m.toNat 4, 0, ()) ∧ ref01_Bcd (ps 10 dch m.toNat 4, ()) = some (typB m, 0, ()) := by
  unfold typeOK at h
  have e : (10 : Int) ^ (4 : Int).toNat = 10000 := by decide
  refine ⟨?_, ?_, ?_, ?_⟩
  · rw [dig_Digits_spec _ _ (by omega), if_pos ⟨by omega, by omega, by omega, by rw [e]; omega⟩]; rfl
  · rw [dig_Bcd_spec _ (by rw [ps_length]; omega), if_pos figs_ps]; rfl
  · rw [ref01_Digits_spec _ _ (by omega), if_pos ⟨by omega, by omega, by omega, by rw [e]; omega⟩]; rfl
  · rw [ref01_Bcd_spec _ (by rw [ps_length]; omega), if_pos figs_ps]; rfl
theorem iso_Write_spec (m : M) (hm : fewM m) : iso_Write (m, ()) = some (if rightM m = true then (wrM m, 0, ()) else ([], 1, ())) := by
  unfold iso_Write
  generalize hf : (fun (x_1 : List Int × Int × Unit) => _) = f
  generalize hg : (fun (x_1 : List UInt8 × Int × Unit) => (_ : Option (LS (List UInt8 × Int × Unit) (List UInt8 × Int × Unit)))) = g
  have hR := iso_Right_spec m hm
  have hl := hm.1
  cases hr : rightM m
  · simp (disch := first | assumption | omega | decide) only [↓g02, ↓g03, ↓g04, ↓g05, ↓g06, g01, g02, g03, g04, g05, g06, g07, g08, g09, g10, g11, g12, g13, g14, g15, g16, g17, g18, g19, g20, g21, g22, g23, g24, g25, g26, g27, g28, g29, g30, g31, g32, g34, g35, g36, g37, g38, g39, g40, g41, g42, g43, g44, g45, g46, g47, g48, g49, g50, g51, g52, g53, g54, g55, g56, g57, g58, g60, g61, eq_self, not_true_eq_false, not_false_eq_true, List.nil_append, List.append_nil, List.length_nil, and_true, true_and, or_true, true_or, or_false, false_or, and_false, false_and, iff_self, if_true, if_false, lc_rt', lc_ex', lc_nx, g62, g63, Int.toNat_natCast, Int.natCast_add, nth_get, g33, g64, g65, Int.toNat_zero, Bool.false_eq_true, Int.reduceToNat, hR, hr]
  have hr' := hr
  simp only [rightM, Bool.and_eq_true, decide_eq_true_eq] at hr'
  obtain ⟨d1, d2, -, -⟩ := typ_digits hr'.2
  have key := loop_fold (f := f) (ρ := List UInt8 × Int × Unit) m.2.1 (fun (acc : List Int) i => (acc, (i : Int), ())) 0 (fun acc v => .nx (acc ++ [v.1])) (fun acc i => acc.length = i) (fun b i h hI => ⟨?_, fun b' hb => ?_⟩) (fun b _ => ?_) [] rfl
  · rw [foldS_all (g := fun (acc : List Int) (v : V) => acc ++ [v.1]) (fun _ _ => rfl), foldl_nos, List.nil_append] at key
    have hbm := bitmap_Write_spec (nosF m.2.1) (by simp [nosF]; omega)
    rw [if_pos (rightF_L1 hr'.1)] at hbm
    have htl := typB_length (m := m.1)
    have hbl : (bmW (nosF m.2.1)).length ≤ 16 := by rw [bmW_length]; split <;> omega
    have key2 := loop_fold (f := g) (ρ := List UInt8 × Int × Unit) m.2.1 (fun (acc : List UInt8) i => (acc, (i : Int), ())) 2 (fun acc v => .nx (acc ++ wrV v)) (fun acc i => acc.length ≤ 100 + 402 * i) (fun b i h hI => ⟨?_, fun b' hb => ?_⟩) (fun b _ => ?_) (typB m.1 ++ bmW (nosF m.2.1)) (by rw [List.length_append]; omega)
    · rw [foldS_all (g := fun (acc : List UInt8) (v : V) => acc ++ wrV v) (fun _ _ => rfl), foldl_wr, List.append_assoc] at key2
      have hnl : (nosF m.2.1).length = m.2.1.length := by simp [nosF]
      replace key : loop f ([], 0, ()) = _ := key
      replace key2 : loop g (typB m.1 ++ bmW (nosF m.2.1), 0, ()) = _ := key2
      simp (disch := first | assumption | omega | decide) only [↓g02, ↓g03, ↓g04, ↓g05, ↓g06, g01, g02, g03, g04, g05, g06, g07, g08, g09, g10, g11, g12, g13, g14, g15, g16, g17, g18, g19, g20, g21, g22, g23, g24, g25, g26, g27, g28, g29, g30, g31, g32, g34, g35, g36, g37, g38, g39, g40, g41, g42, g43, g44, g45, g46, g47, g48, g49, g50, g51, g52, g53, g54, g55, g56, g57, g58, g60, g61, eq_self, not_true_eq_false, not_false_eq_true, List.nil_append, List.append_nil, List.length_nil, and_true, true_and, or_true, true_or, or_false, false_or, and_false, false_and, iff_self, if_true, if_false, lc_rt', lc_ex', lc_nx, g62, g63, Int.toNat_natCast, Int.natCast_add, nth_get, g33, g64, g65, Int.toNat_zero, Bool.false_eq_true, Int.reduceToNat, hR, hr, d1, d2, key, hbm, key2]
      rfl
    · subst hg
      have hfit := rightF_mem hr'.1 m.2.1[i] (List.getElem_mem h)
      have hw := wrD_fit hfit.2
      have hlv := hm.nth h
      have hws := field_Write_spec m.2.1[i].1 m.2.1[i].2.1 hlv
      rw [hw.1] at hws
      have hwl : (wrV m.2.1[i]).length ≤ 402 := hw.2.1
      change field_Write _ = some (wrV m.2.1[i], 0, ()) at hws
      simp (disch := first | assumption | omega | decide) only [↓g02, ↓g03, ↓g04, ↓g05, ↓g06, g01, g02, g03, g04, g05, g06, g07, g08, g09, g10, g11, g12, g13, g14, g15, g16, g17, g18, g19, g20, g21, g22, g23, g24, g25, g26, g27, g28, g29, g30, g31, g32, g34, g35, g36, g37, g38, g39, g40, g41, g42, g43, g44, g45, g46, g47, g48, g49, g50, g51, g52, g53, g54, g55, g56, g57, g58, g60, g61, eq_self, not_true_eq_false, not_false_eq_true, List.nil_append, List.append_nil, List.length_nil, and_true, true_and, or_true, true_or, or_false, false_or, and_false, false_and, iff_self, if_true, if_false, lc_rt', lc_ex', lc_nx, g62, g63, Int.toNat_natCast, Int.natCast_add, nth_get, g33, g64, g65, Int.toNat_zero, Bool.false_eq_true, Int.reduceToNat, hws, liftS]
    · cases hb
      have hfit := rightF_mem hr'.1 m.2.1[i] (List.getElem_mem h)
      have hwl : (wrV m.2.1[i]).length ≤ 402 := (wrD_fit hfit.2).2.1
      rw [List.length_append]; omega
    · subst hg; simp (disch := first | assumption | omega | decide) only [↓g02, ↓g03, ↓g04, ↓g05, ↓g06, g01, g02, g03, g04, g05, g06, g07, g08, g09, g10, g11, g12, g13, g14, g15, g16, g17, g18, g19, g20, g21, g22, g23, g24, g25, g26, g27, g28, g29, g30, g31, g32, g34, g35, g36, g37, g38, g39, g40, g41, g42, g43, g44, g45, g46, g47, g48, g49, g50, g51, g52, g53, g54, g55, g56, g57, g58, g60, g61, eq_self, not_true_eq_false, not_false_eq_true, List.nil_append, List.append_nil, List.length_nil, and_true, true_and, or_true, true_or, or_false, false_or, and_false, false_and, iff_self, if_true, if_false, lc_rt', lc_ex', lc_nx, g62, g63, Int.toNat_natCast, Int.natCast_add, nth_get, g33, g64, g65, Int.toNat_zero, Bool.false_eq_true, Int.reduceToNat]
  · subst hf; simp (disch := first | assumption | omega | decide) only [↓g02, ↓g03, ↓g04, ↓g05, ↓g06, g01, g02, g03, g04, g05, g06, g07, g08, g09, g10, g11, g12, g13, g14, g15, g16, g17, g18, g19, g20, g21, g22, g23, g24, g25, g26, g27, g28, g29, g30, g31, g32, g34, g35, g36, g37, g38, g39, g40, g41, g42, g43, g44, g45, g46, g47, g48, g49, g50, g51, g52, g53, g54, g55, g56, g57, g58, g60, g61, eq_self, not_true_eq_false, not_false_eq_true, List.nil_append, List.append_nil, List.length_nil, and_true, true_and, or_true, true_or, or_false, false_or, and_false, false_and, iff_self, if_true, if_false, lc_rt', lc_ex', lc_nx, g62, g63, Int.toNat_natCast, Int.natCast_add, nth_get, g33, g64, g65, Int.toNat_zero, Bool.false_eq_true, Int.reduceToNat, List.length_cons, liftS]
  · cases hb; rw [List.length_append, hI]; rfl
  · subst hf; simp (disch := first | assumption | omega | decide) only [↓g02, ↓g03, ↓g04, ↓g05, ↓g06, g01, g02, g03, g04, g05, g06, g07, g08, g09, g10, g11, g12, g13, g14, g15, g16, g17, g18, g19, g20, g21, g22, g23, g24, g25, g26, g27, g28, g29, g30, g31, g32, g34, g35, g36, g37, g38, g39, g40, g41, g42, g43, g44, g45, g46, g47, g48, g49, g50, g51, g52, g53, g54, g55, g56, g57, g58, g60, g61, eq_self, not_true_eq_false, not_false_eq_true, List.nil_append, List.append_nil, List.length_nil, and_true, true_and, or_true, true_or, or_false, false_or, and_false, false_and, iff_self, if_true, if_false, lc_rt', lc_ex', lc_nx, g62, g63, Int.toNat_natCast, Int.natCast_add, nth_get, g33, g64, g65, Int.toNat_zero, Bool.false_eq_true, Int.reduceToNat]
theorem ref07_four_spec {m : Int} (h : typeOK m) : ref07_four (m, ()) = some (ps 10 dch m.toNat 4, ()) := by
  unfold ref07_four
  obtain ⟨-, -, d1, -⟩ := typ_digits h
  simp (disch := first | assumption | omega | decide) only [↓g02, ↓g03, ↓g04, ↓g05, ↓g06, g01, g02, g03, g04, g05, g06, g07, g08, g09, g10, g11, g12, g13, g14, g15, g16, g17, g18, g19, g20, g21, g22, g23, g24, g25, g26, g27, g28, g29, g30, g31, g32, g34, g35, g36, g37, g38, g39, g40, g41, g42, g43, g44, g45, g46, g47, g48, g49, g50, g51, g52, g53, g54, g55, g56, g57, g58, g60, g61, eq_self, not_true_eq_false, not_false_eq_true, List.nil_append, List.append_nil, List.length_nil, and_true, true_and, or_true, true_or, or_false, false_or, and_false, false_and, iff_self, if_true, if_false, lc_rt', lc_ex', lc_nx, g62, g63, Int.toNat_natCast, Int.natCast_add, nth_get, g33, g64, g65, Int.toNat_zero, Bool.false_eq_true, Int.reduceToNat, d1]
theorem ref07_Write_spec (m : M) (hm : fewM m) : ref07_Write (m, ()) = some (if rightM m = true then (wrM m, 0, ()) else ([], 1, ())) := by
  unfold ref07_Write
  generalize hf : (fun (x_1 : List Int × List UInt8 × Int × Unit) => _) = f
  have hR := ref07_Right_spec m hm
  have hl := hm.1
  cases hr : rightM m
  · simp (disch := first | assumption | omega | decide) only [↓g02, ↓g03, ↓g04, ↓g05, ↓g06, g01, g02, g03, g04, g05, g06, g07, g08, g09, g10, g11, g12, g13, g14, g15, g16, g17, g18, g19, g20, g21, g22, g23, g24, g25, g26, g27, g28, g29, g30, g31, g32, g34, g35, g36, g37, g38, g39, g40, g41, g42, g43, g44, g45, g46, g47, g48, g49, g50, g51, g52, g53, g54, g55, g56, g57, g58, g60, g61, eq_self, not_true_eq_false, not_false_eq_true, List.nil_append, List.append_nil, List.length_nil, and_true, true_and, or_true, true_or, or_false, false_or, and_false, false_and, iff_self, if_true, if_false, lc_rt', lc_ex', lc_nx, g62, g63, Int.toNat_natCast, Int.natCast_add, nth_get, g33, g64, g65, Int.toNat_zero, Bool.false_eq_true, Int.reduceToNat, hR, hr]
  have hr' := hr
  simp only [rightM, Bool.and_eq_true, decide_eq_true_eq] at hr'
  obtain ⟨-, -, d1, d2⟩ := typ_digits hr'.2
  have key := loop_fold (f := f) (ρ := List UInt8 × Int × Unit) m.2.1 (fun (acc : List Int × List UInt8) i => (acc.1, acc.2, (i : Int), ())) 0 (fun acc v => .nx (acc.1 ++ [v.1], acc.2 ++ wrV v)) (fun acc i => acc.1.length = i ∧ acc.2.length ≤ 402 * i) (fun b i h hI => ⟨?_, fun b' hb => ?_⟩) (fun b _ => ?_) ([], []) ⟨rfl, by simp⟩
  · rw [foldS_all (g := fun (acc : List Int × List UInt8) (v : V) => (acc.1 ++ [v.1], acc.2 ++ wrV v)) (fun _ _ => rfl)] at key
    have hfold : ∀ (l : List V) (a : List Int) (b : List UInt8), l.foldl (fun (acc : List Int × List UInt8) v => (acc.1 ++ [v.1], acc.2 ++ wrV v)) (a, b) = (a ++ nosF l, b ++ l.flatMap wrV) := by
      intro l
      induction l with
      | nil => intro a b; simp [nosF]
      | cons v r ih => intro a b; rw [List.foldl_cons, ih]; simp [nosF]
    rw [hfold, List.nil_append, List.nil_append] at key
    have hbm := ref06_Write_spec (nosF m.2.1) (by simp [nosF]; omega)
    rw [if_pos (rightF_L1 hr'.1)] at hbm
    have htl := typB_length (m := m.1)
    have hbl : (bmW (nosF m.2.1)).length ≤ 16 := by rw [bmW_length]; split <;> omega
    have hfl : (m.2.1.flatMap wrV).length ≤ 402 * m.2.1.length := by
      have : ∀ l : List V, (∀ v ∈ l, fitsD v.1 v.2.1 = true) → (l.flatMap wrV).length ≤ 402 * l.length := by
        intro l
        induction l with
        | nil => simp
        | cons v r ih =>
          intro h
          have h1 : (wrV v).length ≤ 402 := (wrD_fit (h v (by simp))).2.1
          have h2 := ih fun u hu => h u (by simp [hu])
          simp only [List.flatMap_cons, List.length_append, List.length_cons]; omega
      exact this _ fun v hv => (rightF_mem hr'.1 v hv).2
    have h4 := ref07_four_spec hr'.2
    replace key : loop f ([], [], 0, ()) = _ := key
    simp (disch := first | assumption | omega | decide) only [↓g02, ↓g03, ↓g04, ↓g05, ↓g06, g01, g02, g03, g04, g05, g06, g07, g08, g09, g10, g11, g12, g13, g14, g15, g16, g17, g18, g19, g20, g21, g22, g23, g24, g25, g26, g27, g28, g29, g30, g31, g32, g34, g35, g36, g37, g38, g39, g40, g41, g42, g43, g44, g45, g46, g47, g48, g49, g50, g51, g52, g53, g54, g55, g56, g57, g58, g60, g61, eq_self, not_true_eq_false, not_false_eq_true, List.nil_append, List.append_nil, List.length_nil, and_true, true_and, or_true, true_or, or_false, false_or, and_false, false_and, iff_self, if_true, if_false, lc_rt', lc_ex', lc_nx, g62, g63, Int.toNat_natCast, Int.natCast_add, nth_get, g33, g64, g65, Int.toNat_zero, Bool.false_eq_true, Int.reduceToNat, hR, hr, h4, d2, key, hbm, List.length_append]
    rw [List.append_assoc]; rfl
  · subst hf
    have hfit := rightF_mem hr'.1 m.2.1[i] (List.getElem_mem h)
    have hw := wrD_fit hfit.2
    have hlv := hm.nth h
    have hws := ref05_Write_spec m.2.1[i].1 m.2.1[i].2.1 hlv
    rw [hw.1] at hws
    have hwl : (wrV m.2.1[i]).length ≤ 402 := hw.2.1
    change ref05_Write _ = some (wrV m.2.1[i], 0, ()) at hws
    simp (disch := first | assumption | omega | decide) only [↓g02, ↓g03, ↓g04, ↓g05, ↓g06, g01, g02, g03, g04, g05, g06, g07, g08, g09, g10, g11, g12, g13, g14, g15, g16, g17, g18, g19, g20, g21, g22, g23, g24, g25, g26, g27, g28, g29, g30, g31, g32, g34, g35, g36, g37, g38, g39, g40, g41, g42, g43, g44, g45, g46, g47, g48, g49, g50, g51, g52, g53, g54, g55, g56, g57, g58, g60, g61, eq_self, not_true_eq_false, not_false_eq_true, List.nil_append, List.append_nil, List.length_nil, and_true, true_and, or_true, true_or, or_false, false_or, and_false, false_and, iff_self, if_true, if_false, lc_rt', lc_ex', lc_nx, g62, g63, Int.toNat_natCast, Int.natCast_add, nth_get, g33, g64, g65, Int.toNat_zero, Bool.false_eq_true, Int.reduceToNat, hws, liftS, List.length_cons]
  · cases hb
    have hfit := rightF_mem hr'.1 m.2.1[i] (List.getElem_mem h)
    have hwl : (wrV m.2.1[i]).length ≤ 402 := (wrD_fit hfit.2).2.1
    refine ⟨by rw [List.length_append, hI.1]; rfl, ?_⟩
    rw [List.length_append]; omega
  · subst hf; simp (disch := first | assumption | omega | decide) only [↓g02, ↓g03, ↓g04, ↓g05, ↓g06, g01, g02, g03, g04, g05, g06, g07, g08, g09, g10, g11, g12, g13, g14, g15, g16, g17, g18, g19, g20, g21, g22, g23, g24, g25, g26, g27, g28, g29, g30, g31, g32, g34, g35, g36, g37, g38, g39, g40, g41, g42, g43, g44, g45, g46, g47, g48, g49, g50, g51, g52, g53, g54, g55, g56, g57, g58, g60, g61, eq_self, not_true_eq_false, not_false_eq_true, List.nil_append, List.append_nil, List.length_nil, and_true, true_and, or_true, true_or, or_false, false_or, and_false, false_and, iff_self, if_true, if_false, lc_rt', lc_ex', lc_nx, g62, g63, Int.toNat_natCast, Int.natCast_add, nth_get, g33, g64, g65, Int.toNat_zero, Bool.false_eq_true, Int.reduceToNat]
end Yp

namespace Yp
open Go
def noM : M := (0, [], ())
def rdFs (b : List UInt8) : List Int → Int → List V → Option Int × Int × List V
  | [], at', F => (none, at', F)
  | n :: r, at', F => if (rdD n b at').2.2.1 = 0 then rdFs b r (rdD n b at').2.1 (F ++ [(n, (rdD n b at').1, ())]) else (some (rdD n b at').2.2.1, at', F)
def rdStep (b : List UInt8) (s : Int × List V) (n : Int) : LS (Int × List V) (M × Int × Unit) := if (rdD n b s.1).2.2.1 = 0 then .nx ((rdD n b s.1).2.1, s.2 ++ [(n, (rdD n b s.1).1, ())]) else .rt (noM, (rdD n b s.1).2.2.1, ())
theorem foldS_rd {σ : Type} {mk : Int × List V → Nat → σ} {e : Nat} {b : List UInt8} : ∀ (l : List Int) (s : Int × List V) (i : Nat), foldS mk e (rdStep b) s i l = match rdFs b l s.1 s.2 with | (none, a, F) => .ex e (mk (a, F) (i + l.length)) | (some q, _, _) => .rt (noM, q, ())
  | [], s, i => rfl
  | n :: r, s, i => by
    unfold rdFs
    by_cases h : (rdD n b s.1).2.2.1 = 0
    · have hs : rdStep b s n = .nx ((rdD n b s.1).2.1, s.2 ++ [(n, (rdD n b s.1).1, ())]) := if_pos h
      simp only [foldS, hs, if_pos h]
      rw [foldS_rd r _ (i + 1)]
      simp only [List.length_cons, Nat.add_assoc, Nat.add_comm 1]
    · have hs : rdStep b s n = .rt (noM, (rdD n b s.1).2.2.1, ()) := if_neg h
      simp only [foldS, hs, if_neg h]
def ofStep (_ : Unit) (n : Int) : LS Unit (M × Int × Unit) := if (formOf n).isSome = true then .nx () else .rt (noM, 2, ())
theorem foldS_of {σ : Type} {mk : Unit → Nat → σ} {e : Nat} : ∀ (l : List Int) (i : Nat), foldS mk e ofStep () i l = if ∀ n ∈ l, (formOf n).isSome = true then .ex e (mk () (i + l.length)) else .rt (noM, 2, ())
  | [], i => by simp [foldS]
  | n :: r, i => by
    by_cases h : (formOf n).isSome = true
    · have hs : ofStep () n = .nx () := if_pos h
      simp only [foldS, hs, List.mem_cons, forall_eq_or_imp, h, true_and]
      rw [foldS_of r (i + 1)]
      simp only [List.length_cons, Nat.add_assoc, Nat.add_comm 1]
    · have hs : ofStep () n = .rt (noM, 2, ()) := if_neg h
      simp only [foldS, hs]
      rw [if_neg fun hc => h (hc n (by simp))]
def rdE (b : List UInt8) (m : Int) (l : List Int) (at' : Int) : M × Int × Unit :=
  if ∀ n ∈ l, (formOf n).isSome = true then (match rdFs b l at' [] with | (none, a, F) => if a < (b.length : Int) then (noM, 4, ()) else ((m, F, ()), 0, ()) | (some q, _, _) => (noM, q, ())) else (noM, 2, ())
def rdM (b : List UInt8) : M × Int × Unit :=
  if (takeBcd b 0 4).2.2.1 ≠ 0 then (noM, (takeBcd b 0 4).2.2.1, ()) else if typeOK (val (takeBcd b 0 4).1 : Int) then
    (if (bmR b 2).2.2.1 ≠ 0 then (noM, (bmR b 2).2.2.1, ()) else rdE b (val (takeBcd b 0 4).1 : Int) (bmR b 2).1 (bmR b 2).2.1) else (noM, 2, ())
theorem numsB_length {c : List UInt8} : (numsB c).length ≤ 8 * c.length + 1 := by
  unfold numsB
  have := List.length_filter_le (fun n => Nat.ble 2 n && hasB c n) (List.range (8 * c.length + 1))
  rwa [List.length_range] at this
theorem bmR_length {b : List UInt8} {a : Int} : (bmR b a).1.length ≤ 129 := by
  unfold bmR
  split
  · simp
  unfold bmC
  split
  · simp
  split
  · split
    · simp
    · have := numsB_length (c := (b.drop a.toNat).take 16)
      have h2 := List.length_take_le 16 (b.drop a.toNat)
      simp only [List.length_map]; omega
  · have := numsB_length (c := (b.drop a.toNat).take 8)
    have h2 := List.length_take_le 8 (b.drop a.toNat)
    simp only [List.length_map]; omega
theorem fr_is {o : Option (Int × Int)} : (fr o).2.1 = o.isSome := by cases o <;> rfl
theorem rd_loops {Of : Int × Unit → Option ((Int × Int × Unit) × Bool × Unit)} (hOf : ∀ n, Of (n, ()) = some (fr (formOf n))) {Rd : Int × List UInt8 × Int × Unit → Option (List UInt8 × Int × Int × Unit)} {b : List UInt8} (hRd : ∀ n a, Rd (n, b, a, ()) = some (rdD n b a))
    {l : List Int} (hl : l.length ≤ 129) {at' mti : Int} {e1 : Int} {f : Int × Int × Unit → Option (LS (Int × Int × Unit) (M × Int × Unit))} {g : Int × Int × Int × M × Unit → Option (LS (Int × Int × Int × M × Unit) (M × Int × Unit))}
    (hf : ∀ x (i : Nat), f (x, (i : Int), ()) = sel (lt (i : Int) (len l)) (ck (inB (i : Int) (len l)) (ob (Of (nth l (nat (i : Int)) 0, ())) fun a => sel (bnot a.2.1) (some (.rt (noM, 2, ()))) (some (.nx (x, i64 (iadd (i : Int) 1), ()))))) (some (.ex 0 (x, (i : Int), ()))))
    (hg : ∀ x a (i : Nat) (F : List V), g (x, a, (i : Int), (mti, F, ()), ()) = sel (lt (i : Int) (len l)) (ck (inB (i : Int) (len l)) (ob (Rd (nth l (nat (i : Int)) 0, b, a, ())) fun q => sel (bnot (beq q.2.2.1 0)) (some (.rt (noM, q.2.2.1, ())))
      (ck (rm 56 (nadd (ln F) 1)) (some (.nx (x, q.2.1, i64 (iadd (i : Int) 1), (mti, app F [(nth l (nat (i : Int)) 0, q.1, ())], ()), ())))))) (some (.ex 2 (x, a, (i : Int), (mti, F, ()), ())))) (x0 : Int) :
    lc (loop f (x0, 0, ())) (fun _ => none) (fun i a => ck (neb i 0) (lc (loop g (a.1, at', 0, (mti, [], ()), ())) (fun _ => none) (fun i a => ck (neb i 2) (sel (lt a.2.1 (len b)) (some (noM, 4, ())) (some ((a.2.2.2.1.1, a.2.2.2.1.2.1, a.2.2.2.1.2.2), 0, ())))) fun r => some r)) (fun r => some r) = some (rdE b mti l at') := by
  have key := loop_fold (f := f) l (fun (_ : Unit) i => (x0, (i : Int), ())) 0 ofStep (fun _ _ => True) (fun _ i h _ => ⟨?_, fun _ _ => trivial⟩) (fun _ _ => ?_) () trivial
  · refine (lc_eq key).trans ?_
    rw [foldS_of]
    unfold rdE
    by_cases ho : ∀ n ∈ l, (formOf n).isSome = true
    · rw [if_pos ho, if_pos ho]
      refine lc_ex'.trans ((ck_of g62).trans ?_)
      have key2 := loop_fold (f := g) l (fun (s : Int × List V) i => (x0, s.1, (i : Int), (mti, s.2, ()), ())) 2 (rdStep b) (fun s i => s.2.length ≤ i) (fun s i h hI => ⟨?_, fun s' hs => ?_⟩) (fun s _ => ?_) (at', []) (Nat.le_refl _)
      · refine (lc_eq key2).trans ?_
        rw [foldS_rd]
        rcases rdFs b l at' [] with ⟨_ | q, a, F⟩
        · refine lc_ex'.trans ((ck_of g62).trans ?_)
          by_cases ha : a < (b.length : Int)
          · simp only [if_pos ha]; simp (disch := first | assumption | omega | decide) only [↓g02, ↓g03, ↓g04, ↓g05, ↓g06, g01, g02, g03, g04, g05, g06, g07, g08, g09, g10, g11, g12, g13, g14, g15, g16, g17, g18, g19, g20, g21, g22, g23, g24, g25, g26, g27, g28, g29, g30, g31, g32, g34, g35, g36, g37, g38, g39, g40, g41, g42, g43, g44, g45, g46, g47, g48, g49, g50, g51, g52, g53, g54, g55, g56, g57, g58, g60, g61, eq_self, not_true_eq_false, not_false_eq_true, List.nil_append, List.append_nil, List.length_nil, and_true, true_and, or_true, true_or, or_false, false_or, and_false, false_and, iff_self, if_true, if_false, lc_rt', lc_ex', lc_nx, g62, g63, Int.toNat_natCast, Int.natCast_add, nth_get, g33, g64, g65, Int.toNat_zero, Bool.false_eq_true, Int.reduceToNat]
          · simp only [if_neg ha]; simp (disch := first | assumption | omega | decide) only [↓g02, ↓g03, ↓g04, ↓g05, ↓g06, g01, g02, g03, g04, g05, g06, g07, g08, g09, g10, g11, g12, g13, g14, g15, g16, g17, g18, g19, g20, g21, g22, g23, g24, g25, g26, g27, g28, g29, g30, g31, g32, g34, g35, g36, g37, g38, g39, g40, g41, g42, g43, g44, g45, g46, g47, g48, g49, g50, g51, g52, g53, g54, g55, g56, g57, g58, g60, g61, eq_self, not_true_eq_false, not_false_eq_true, List.nil_append, List.append_nil, List.length_nil, and_true, true_and, or_true, true_or, or_false, false_or, and_false, false_and, iff_self, if_true, if_false, lc_rt', lc_ex', lc_nx, g62, g63, Int.toNat_natCast, Int.natCast_add, nth_get, g33, g64, g65, Int.toNat_zero, Bool.false_eq_true, Int.reduceToNat]
        · rfl
      · rw [hg]
        by_cases h0 : (rdD l[i] b s.1).2.2.1 = 0
        · have hst : rdStep b s l[i] = .nx ((rdD l[i] b s.1).2.1, s.2 ++ [(l[i], (rdD l[i] b s.1).1, ())]) := if_pos h0
          simp (disch := first | assumption | omega | decide) only [↓g02, ↓g03, ↓g04, ↓g05, ↓g06, g01, g02, g03, g04, g05, g06, g07, g08, g09, g10, g11, g12, g13, g14, g15, g16, g17, g18, g19, g20, g21, g22, g23, g24, g25, g26, g27, g28, g29, g30, g31, g32, g34, g35, g36, g37, g38, g39, g40, g41, g42, g43, g44, g45, g46, g47, g48, g49, g50, g51, g52, g53, g54, g55, g56, g57, g58, g60, g61, eq_self, not_true_eq_false, not_false_eq_true, List.nil_append, List.append_nil, List.length_nil, and_true, true_and, or_true, true_or, or_false, false_or, and_false, false_and, iff_self, if_true, if_false, lc_rt', lc_ex', lc_nx, g62, g63, Int.toNat_natCast, Int.natCast_add, nth_get, g33, g64, g65, Int.toNat_zero, Bool.false_eq_true, Int.reduceToNat, hRd, h0, hst, liftS]
        · have hst : rdStep b s l[i] = .rt (noM, (rdD l[i] b s.1).2.2.1, ()) := if_neg h0
          simp (disch := first | assumption | omega | decide) only [↓g02, ↓g03, ↓g04, ↓g05, ↓g06, g01, g02, g03, g04, g05, g06, g07, g08, g09, g10, g11, g12, g13, g14, g15, g16, g17, g18, g19, g20, g21, g22, g23, g24, g25, g26, g27, g28, g29, g30, g31, g32, g34, g35, g36, g37, g38, g39, g40, g41, g42, g43, g44, g45, g46, g47, g48, g49, g50, g51, g52, g53, g54, g55, g56, g57, g58, g60, g61, eq_self, not_true_eq_false, not_false_eq_true, List.nil_append, List.append_nil, List.length_nil, and_true, true_and, or_true, true_or, or_false, false_or, and_false, false_and, iff_self, if_true, if_false, lc_rt', lc_ex', lc_nx, g62, g63, Int.toNat_natCast, Int.natCast_add, nth_get, g33, g64, g65, Int.toNat_zero, Bool.false_eq_true, Int.reduceToNat, hRd, h0, hst, liftS]
      · unfold rdStep at hs
        split at hs
        · cases hs; rw [List.length_append]; simp; omega
        · cases hs
      · rw [hg]; simp (disch := first | assumption | omega | decide) only [↓g02, ↓g03, ↓g04, ↓g05, ↓g06, g01, g02, g03, g04, g05, g06, g07, g08, g09, g10, g11, g12, g13, g14, g15, g16, g17, g18, g19, g20, g21, g22, g23, g24, g25, g26, g27, g28, g29, g30, g31, g32, g34, g35, g36, g37, g38, g39, g40, g41, g42, g43, g44, g45, g46, g47, g48, g49, g50, g51, g52, g53, g54, g55, g56, g57, g58, g60, g61, eq_self, not_true_eq_false, not_false_eq_true, List.nil_append, List.append_nil, List.length_nil, and_true, true_and, or_true, true_or, or_false, false_or, and_false, false_and, iff_self, if_true, if_false, lc_rt', lc_ex', lc_nx, g62, g63, Int.toNat_natCast, Int.natCast_add, nth_get, g33, g64, g65, Int.toNat_zero, Bool.false_eq_true, Int.reduceToNat]
    · rw [if_neg ho, if_neg ho]; rfl
  · rw [hf]
    cases h0 : (formOf l[i]).isSome
    · have hst : ofStep () l[i] = .rt (noM, 2, ()) := if_neg (by rw [h0]; simp)
      simp (disch := first | assumption | omega | decide) only [↓g02, ↓g03, ↓g04, ↓g05, ↓g06, g01, g02, g03, g04, g05, g06, g07, g08, g09, g10, g11, g12, g13, g14, g15, g16, g17, g18, g19, g20, g21, g22, g23, g24, g25, g26, g27, g28, g29, g30, g31, g32, g34, g35, g36, g37, g38, g39, g40, g41, g42, g43, g44, g45, g46, g47, g48, g49, g50, g51, g52, g53, g54, g55, g56, g57, g58, g60, g61, eq_self, not_true_eq_false, not_false_eq_true, List.nil_append, List.append_nil, List.length_nil, and_true, true_and, or_true, true_or, or_false, false_or, and_false, false_and, iff_self, if_true, if_false, lc_rt', lc_ex', lc_nx, g62, g63, Int.toNat_natCast, Int.natCast_add, nth_get, g33, g64, g65, Int.toNat_zero, Bool.false_eq_true, Int.reduceToNat, hOf, fr_is, h0, hst, liftS]
    · have hst : ofStep () l[i] = .nx () := if_pos h0
      simp (disch := first | assumption | omega | decide) only [↓g02, ↓g03, ↓g04, ↓g05, ↓g06, g01, g02, g03, g04, g05, g06, g07, g08, g09, g10, g11, g12, g13, g14, g15, g16, g17, g18, g19, g20, g21, g22, g23, g24, g25, g26, g27, g28, g29, g30, g31, g32, g34, g35, g36, g37, g38, g39, g40, g41, g42, g43, g44, g45, g46, g47, g48, g49, g50, g51, g52, g53, g54, g55, g56, g57, g58, g60, g61, eq_self, not_true_eq_false, not_false_eq_true, List.nil_append, List.append_nil, List.length_nil, and_true, true_and, or_true, true_or, or_false, false_or, and_false, false_and, iff_self, if_true, if_false, lc_rt', lc_ex', lc_nx, g62, g63, Int.toNat_natCast, Int.natCast_add, nth_get, g33, g64, g65, Int.toNat_zero, Bool.false_eq_true, Int.reduceToNat, hOf, fr_is, h0, hst, liftS]
  · rw [hf]; simp (disch := first | assumption | omega | decide) only [↓g02, ↓g03, ↓g04, ↓g05, ↓g06, g01, g02, g03, g04, g05, g06, g07, g08, g09, g10, g11, g12, g13, g14, g15, g16, g17, g18, g19, g20, g21, g22, g23, g24, g25, g26, g27, g28, g29, g30, g31, g32, g34, g35, g36, g37, g38, g39, g40, g41, g42, g43, g44, g45, g46, g47, g48, g49, g50, g51, g52, g53, g54, g55, g56, g57, g58, g60, g61, eq_self, not_true_eq_false, not_false_eq_true, List.nil_append, List.append_nil, List.length_nil, and_true, true_and, or_true, true_or, or_false, false_or, and_false, false_and, iff_self, if_true, if_false, lc_rt', lc_ex', lc_nx, g62, g63, Int.toNat_natCast, Int.natCast_add, nth_get, g33, g64, g65, Int.toNat_zero, Bool.false_eq_true, Int.reduceToNat]
theorem iso_Read_spec (b : List UInt8) (hl : b.length ≤ 1000000) : iso_Read (b, ()) = some (rdM b) := by
  unfold iso_Read
  refine (ob_of (dig_TakeBcd_spec b 0 4 hl)).trans ?_
  unfold rdM
  rcases takeBcd_cases (b := b) (I := 0) (N := 4) (Nat.zero_le _) (by omega) with ⟨_, h⟩ | ⟨_, h, _⟩ | ⟨s, h4, h, hf, hs, _⟩
  · replace h : takeBcd b 0 4 = ([], 0, 3, ()) := h
    rw [h]; rfl
  · replace h : takeBcd b 0 4 = ([], 0, 2, ()) := h
    rw [h]; rfl
  · replace h : takeBcd b 0 4 = (s, 2, 0, ()) := h
    rw [h]
    refine (sel_of_f rfl).trans ?_
    refine (ob_of (dig_Value_spec s)).trans ?_
    rw [if_pos ⟨by omega, by omega, hf⟩, if_neg (by simp)]
    refine (ob_of (iso_Type_spec _)).trans ?_
    by_cases ht : typeOK (val s : Int)
    · refine (sel_of_f (by rw [D_t ht]; rfl)).trans ?_
      rw [if_pos ht]
      refine (ob_of (a := bmR b 2) rfl).trans ?_
      by_cases h0 : (bmR b 2).2.2.1 = 0
      · refine (sel_of_f (by rw [beq_t h0]; rfl)).trans ?_
        rw [if_neg (by simp [h0])]
        exact rd_loops (e1 := 0) field_Of_spec (b := b) (fun n a => field_Read_spec n b a hl) bmR_length (fun _ _ => rfl) (fun _ _ _ _ => rfl) 0
      · refine (sel_of_t (by rw [beq_f h0]; rfl)).trans ?_
        rw [if_pos h0]; rfl
    · refine (sel_of_t (by rw [D_f ht]; rfl)).trans ?_
      rw [if_neg ht]; rfl
theorem ref07_Read_spec (b : List UInt8) (hl : b.length ≤ 1000000) : ref07_Read (b, ()) = some (rdM b) := by
  unfold ref07_Read
  unfold rdM
  rcases takeBcd_cases (b := b) (I := 0) (N := 4) (Nat.zero_le _) (by omega) with ⟨h2, h⟩ | ⟨h2, h, _⟩ | ⟨s, h4, h, hf, hs, _⟩
  · replace h : takeBcd b 0 4 = ([], 0, 3, ()) := h
    rw [h]
    exact (sel_of_t (lt_t (by simp only [len]; omega))).trans rfl
  · replace h : takeBcd b 0 4 = ([], 0, 2, ()) := h
    rw [h]
    refine (sel_of_f (lt_f (by simp only [len]; omega))).trans ?_
    refine (ob_of (ref01_TakeBcd_spec b 0 4 hl)).trans ?_
    rw [h]
    refine (ob_of (ref01_Value_spec [] (by simp))).trans ?_
    rfl
  · replace h : takeBcd b 0 4 = (s, 2, 0, ()) := h
    rw [h]
    refine (sel_of_f (lt_f (by simp only [len]; omega))).trans ?_
    refine (ob_of (ref01_TakeBcd_spec b 0 4 hl)).trans ?_
    rw [h]
    refine (ob_of (ref01_Value_spec s (by omega))).trans ?_
    rw [if_pos ⟨by omega, by omega, hf⟩, if_neg (by simp)]
    by_cases ht : typeOK (val s : Int)
    · refine (ob_of (a := (false, ())) ((sel_of_f rfl).trans ((ob_of (ref07_Type_spec _)).trans (by rw [D_t ht]; rfl)))).trans ?_
      refine (sel_of_f rfl).trans ?_
      rw [if_pos ht]
      refine (ob_of (ref06_Read_spec b 2 hl)).trans ?_
      by_cases h0 : (bmR b 2).2.2.1 = 0
      · refine (sel_of_f (by rw [beq_t h0]; rfl)).trans ?_
        rw [if_neg (by simp [h0])]
        refine rd_loops (e1 := 0) ref05_Of_spec (b := b) (fun n a => ref05_Read_spec n b a hl) bmR_length (fun _ _ => rfl) (fun x a i F => ?_) 0
        by_cases hi : i < (bmR b 2).1.length
        · have hin : inB (i : Int) (len (bmR b 2).1) = true := inB_nat hi
          simp only [hin, ck_t]; rfl
        · refine (sel_of_f (lt_f (by simp only [len]; omega))).trans (sel_of_f (lt_f (by simp only [len]; omega))).symm
      · refine (sel_of_t (by rw [beq_f h0]; rfl)).trans ?_
        rw [if_pos h0]; rfl
    · refine (ob_of (a := (true, ())) ((sel_of_f rfl).trans ((ob_of (ref07_Type_spec _)).trans (by rw [D_f ht]; rfl)))).trans ?_
      rw [if_neg ht]; rfl
end Yp

namespace Yp
open Go
noncomputable def concatM {α : Type} (c : Nat) (z : α) (x : List (List α) × Unit) : Option (List α × Unit) :=
  lc (loop (fun (x_1 : Int × Int × Unit) => sel (lt x_1.2.1 (len x.1)) (ck (inB x_1.2.1 (len x.1)) (sel (lt (i64 (iadd x_1.1 (len (nth x.1 (nat x_1.2.1) (none' α))))) 0) none
        (some (LS.nx (i64 (iadd x_1.1 (len (nth x.1 (nat x_1.2.1) (none' α)))), i64 (iadd x_1.2.1 1), ()))))) (some (LS.ex 0 (x_1.1, x_1.2.1, ())))) (0, 0, ()))
  (fun (a : Int × Int × Unit) => none)
  (fun (i : Nat) (a : Int × Int × Unit) => ck (neb i 0) (sel (lt a.1 0) none (sel (lt 0 (i64 (isub a.1 (i64 (isub 0 0))))) (ck (inC 0 0 0)
       (ck (band (le 0 (i64 (isub a.1 (i64 (isub 0 0))))) (rm c (nat (i64 (isub a.1 (i64 (isub 0 0))))))) (ck (inC 0 0 (len (rep (nat (i64 (isub a.1 (i64 (isub 0 0))))) z)))
         (lc (loop (fun (x_1 : List α × Int × Unit) => sel (lt x_1.2.1 (len x.1)) (ck (inB x_1.2.1 (len x.1)) (ck (rm c (nadd (ln x_1.1) (ln (nth x.1 (nat x_1.2.1) (none' α)))))
            (some (LS.nx (app x_1.1 (nth x.1 (nat x_1.2.1) (none' α)), i64 (iadd x_1.2.1 1), ()))))) (some (LS.ex 2 (x_1.1, x_1.2.1, ())))) (cut (rep (nat (i64 (isub a.1 (i64 (isub 0 0))))) z) (nat 0) (nsub (nat 0) (nat 0)), 0, ()))
          (fun (a : List α × Int × Unit) => none) (fun (i : Nat) (a : List α × Int × Unit) => ck (neb i 2) (some (a.1, ()))) fun (r : List α × Unit) => some r))))
      (lc (loop (fun (x_1 : List α × Int × Unit) => sel (lt x_1.2.1 (len x.1)) (ck (inB x_1.2.1 (len x.1)) (ck (rm c (nadd (ln x_1.1) (ln (nth x.1 (nat x_1.2.1) (none' α)))))
            (some (LS.nx (app x_1.1 (nth x.1 (nat x_1.2.1) (none' α)), i64 (iadd x_1.2.1 1), ()))))) (some (LS.ex 2 (x_1.1, x_1.2.1, ())))) (none' α, 0, ()))
       (fun (a : List α × Int × Unit) => none) (fun (i : Nat) (a : List α × Int × Unit) => ck (neb i 2) (some (a.1, ()))) fun (r : List α × Unit) => some r))))
  fun (r : List α × Unit) => some r
theorem foldS_all' {α β σ ρ : Type} {mk : β → Nat → σ} {e : Nat} {step : β → α → LS β ρ} {g : β → α → β} (h : ∀ b x, step b x = .nx (g b x)) : ∀ (l : List α) (b : β) (i : Nat), foldS mk e step b i l = .ex e (mk (l.foldl g b) (i + l.length))
  | [], b, i => rfl
  | x :: r, b, i => by
    simp only [foldS, h, List.foldl_cons, List.length_cons]
    rw [foldS_all' h r (g b x) (i + 1)]
    congr 2; omega
theorem foldl_len {α : Type} (ls : List (List α)) : ∀ a : Int, ls.foldl (fun s x => s + (x.length : Int)) a = a + (ls.flatten.length : Int) := by
  induction ls with
  | nil => intro a; simp
  | cons x r ih => intro a; rw [List.foldl_cons, ih]; simp only [List.flatten_cons, List.length_append]; omega
theorem foldl_cat {α : Type} (ls : List (List α)) : ∀ a : List α, ls.foldl (fun s x => s ++ x) a = a ++ ls.flatten := by
  induction ls with
  | nil => intro a; simp
  | cons x r ih => intro a; rw [List.foldl_cons, ih]; simp
theorem concatM_spec {α : Type} {c : Nat} {z : α} (hc : c ≤ 100000) (ls : List (List α)) (hl : ls.length ≤ 100) (hx : ∀ x ∈ ls, x.length ≤ 1000000) : concatM c z (ls, ()) = some (ls.flatten, ()) := by
  unfold concatM
  generalize hf : (fun (x_1 : Int × Int × Unit) => _) = f
  generalize hg : (fun (x_1 : List α × Int × Unit) => (_ : Option (LS (List α × Int × Unit) (List α × Unit)))) = g
  have hmul : ∀ n : Nat, n ≤ 100000000 → n * c ≤ 140737488355328 := fun n hn => Nat.le_trans (Nat.mul_le_mul hn hc) (by omega)
  have hlen : ls.flatten.length ≤ 100000000 := by
    have : ∀ ls : List (List α), (∀ x ∈ ls, x.length ≤ 1000000) → ls.flatten.length ≤ 1000000 * ls.length := by
      intro ls
      induction ls with
      | nil => simp
      | cons x r ih =>
        intro h
        have h1 := h x (by simp)
        have h2 := ih fun u hu => h u (by simp [hu])
        simp only [List.flatten_cons, List.length_append, List.length_cons]; omega
    have := this ls hx
    omega
  have key := loop_fold (f := f) (ρ := List α × Unit) ls (fun (s : Int) i => (s, (i : Int), ())) 0 (fun s x => .nx (s + (x.length : Int))) (fun s i => 0 ≤ s ∧ s ≤ 1000000 * i) (fun s i h hI => ⟨?_, fun b' hb => ?_⟩) (fun s _ => ?_) 0 (by simp)
  · rw [foldS_all' (g := fun (s : Int) (x : List α) => s + (x.length : Int)) (fun _ _ => rfl), foldl_len, Int.zero_add] at key
    replace key : loop f (0, 0, ()) = _ := key
    have key2 := loop_fold (f := g) (ρ := List α × Unit) ls (fun (s : List α) i => (s, (i : Int), ())) 2 (fun s x => .nx (s ++ x)) (fun s i => s.length ≤ 1000000 * i) (fun s i h hI => ⟨?_, fun b' hb => ?_⟩) (fun s _ => ?_) [] (by simp)
    · rw [foldS_all' (g := fun (s : List α) (x : List α) => s ++ x) (fun _ _ => rfl), foldl_cat, List.nil_append] at key2
      replace key2 : loop g ([], 0, ()) = _ := key2
      refine (lc_eq key).trans (lc_ex'.trans ((ck_of g62).trans ((sel_of_f (by simp (disch := first | assumption | omega | decide) only [↓g02, ↓g03, ↓g04, ↓g05, ↓g06, g01, g02, g03, g04, g05, g06, g07, g08, g09, g10, g11, g12, g13, g14, g15, g16, g17, g18, g19, g20, g21, g22, g23, g24, g25, g26, g27, g28, g29, g30, g31, g32, g34, g35, g36, g37, g38, g39, g40, g41, g42, g43, g44, g45, g46, g47, g48, g49, g50, g51, g52, g53, g54, g55, g56, g57, g58, g60, g61, eq_self, not_true_eq_false, not_false_eq_true, List.nil_append, List.append_nil, List.length_nil, and_true, true_and, or_true, true_or, or_false, false_or, and_false, false_and, iff_self, if_true, if_false, lc_rt', lc_ex', lc_nx, g62, g63, Int.toNat_natCast, Int.natCast_add, nth_get, g33, g64, g65, Int.toNat_zero, Bool.false_eq_true, Int.reduceToNat]; omega)).trans ?_)))
      by_cases h0 : 0 < ls.flatten.length
      · refine (sel_of_t (by simp (disch := first | assumption | omega | decide) only [↓g02, ↓g03, ↓g04, ↓g05, ↓g06, g01, g02, g03, g04, g05, g06, g07, g08, g09, g10, g11, g12, g13, g14, g15, g16, g17, g18, g19, g20, g21, g22, g23, g24, g25, g26, g27, g28, g29, g30, g31, g32, g34, g35, g36, g37, g38, g39, g40, g41, g42, g43, g44, g45, g46, g47, g48, g49, g50, g51, g52, g53, g54, g55, g56, g57, g58, g60, g61, eq_self, not_true_eq_false, not_false_eq_true, List.nil_append, List.append_nil, List.length_nil, and_true, true_and, or_true, true_or, or_false, false_or, and_false, false_and, iff_self, if_true, if_false, lc_rt', lc_ex', lc_nx, g62, g63, Int.toNat_natCast, Int.natCast_add, nth_get, g33, g64, g65, Int.toNat_zero, Bool.false_eq_true, Int.reduceToNat]; omega)).trans ((ck_of (by simp (disch := first | assumption | omega | decide) only [↓g02, ↓g03, ↓g04, ↓g05, ↓g06, g01, g02, g03, g04, g05, g06, g07, g08, g09, g10, g11, g12, g13, g14, g15, g16, g17, g18, g19, g20, g21, g22, g23, g24, g25, g26, g27, g28, g29, g30, g31, g32, g34, g35, g36, g37, g38, g39, g40, g41, g42, g43, g44, g45, g46, g47, g48, g49, g50, g51, g52, g53, g54, g55, g56, g57, g58, g60, g61, eq_self, not_true_eq_false, not_false_eq_true, List.nil_append, List.append_nil, List.length_nil, and_true, true_and, or_true, true_or, or_false, false_or, and_false, false_and, iff_self, if_true, if_false, lc_rt', lc_ex', lc_nx, g62, g63, Int.toNat_natCast, Int.natCast_add, nth_get, g33, g64, g65, Int.toNat_zero, Bool.false_eq_true, Int.reduceToNat]; decide)).trans ?_)
        have hrep : ∀ (n : Nat) (a : α), (rep n a).length = n := fun n a => by simp [rep]
        have h5 : i64 (isub (ls.flatten.length : Int) (i64 (isub 0 0))) = (ls.flatten.length : Int) := by simp (disch := first | assumption | omega | decide) only [↓g02, ↓g03, ↓g04, ↓g05, ↓g06, g01, g02, g03, g04, g05, g06, g07, g08, g09, g10, g11, g12, g13, g14, g15, g16, g17, g18, g19, g20, g21, g22, g23, g24, g25, g26, g27, g28, g29, g30, g31, g32, g34, g35, g36, g37, g38, g39, g40, g41, g42, g43, g44, g45, g46, g47, g48, g49, g50, g51, g52, g53, g54, g55, g56, g57, g58, g60, g61, eq_self, not_true_eq_false, not_false_eq_true, List.nil_append, List.append_nil, List.length_nil, and_true, true_and, or_true, true_or, or_false, false_or, and_false, false_and, iff_self, if_true, if_false, lc_rt', lc_ex', lc_nx, g62, g63, Int.toNat_natCast, Int.natCast_add, nth_get, g33, g64, g65, Int.toNat_zero, Bool.false_eq_true, Int.reduceToNat]; omega
        simp only [h5]
        have hm := hmul _ hlen
        refine (ck_of (by simp (disch := first | assumption | omega | decide) only [↓g02, ↓g03, ↓g04, ↓g05, ↓g06, g01, g02, g03, g04, g05, g06, g07, g08, g09, g10, g11, g12, g13, g14, g15, g16, g17, g18, g19, g20, g21, g22, g23, g24, g25, g26, g27, g28, g29, g30, g31, g32, g34, g35, g36, g37, g38, g39, g40, g41, g42, g43, g44, g45, g46, g47, g48, g49, g50, g51, g52, g53, g54, g55, g56, g57, g58, g60, g61, eq_self, not_true_eq_false, not_false_eq_true, List.nil_append, List.append_nil, List.length_nil, and_true, true_and, or_true, true_or, or_false, false_or, and_false, false_and, iff_self, if_true, if_false, lc_rt', lc_ex', lc_nx, g62, g63, Int.toNat_natCast, Int.natCast_add, nth_get, g33, g64, g65, Int.toNat_zero, Bool.false_eq_true, Int.reduceToNat]; exact ⟨by omega, hm⟩)).trans ((ck_of (by simp (disch := first | assumption | omega | decide) only [↓g02, ↓g03, ↓g04, ↓g05, ↓g06, g01, g02, g03, g04, g05, g06, g07, g08, g09, g10, g11, g12, g13, g14, g15, g16, g17, g18, g19, g20, g21, g22, g23, g24, g25, g26, g27, g28, g29, g30, g31, g32, g34, g35, g36, g37, g38, g39, g40, g41, g42, g43, g44, g45, g46, g47, g48, g49, g50, g51, g52, g53, g54, g55, g56, g57, g58, g60, g61, eq_self, not_true_eq_false, not_false_eq_true, List.nil_append, List.append_nil, List.length_nil, and_true, true_and, or_true, true_or, or_false, false_or, and_false, false_and, iff_self, if_true, if_false, lc_rt', lc_ex', lc_nx, g62, g63, Int.toNat_natCast, Int.natCast_add, nth_get, g33, g64, g65, Int.toNat_zero, Bool.false_eq_true, Int.reduceToNat, hrep]; exact ⟨by omega, by omega, by omega⟩)).trans ?_)
        have hcut : cut (rep (nat (ls.flatten.length : Int)) z) (nat 0) (nsub (nat 0) (nat 0)) = [] := by simp [cut, nat, nsub]
        rw [hcut]
        refine (lc_eq key2).trans ?_
        simp (disch := first | assumption | omega | decide) only [↓g02, ↓g03, ↓g04, ↓g05, ↓g06, g01, g02, g03, g04, g05, g06, g07, g08, g09, g10, g11, g12, g13, g14, g15, g16, g17, g18, g19, g20, g21, g22, g23, g24, g25, g26, g27, g28, g29, g30, g31, g32, g34, g35, g36, g37, g38, g39, g40, g41, g42, g43, g44, g45, g46, g47, g48, g49, g50, g51, g52, g53, g54, g55, g56, g57, g58, g60, g61, eq_self, not_true_eq_false, not_false_eq_true, List.nil_append, List.append_nil, List.length_nil, and_true, true_and, or_true, true_or, or_false, false_or, and_false, false_and, iff_self, if_true, if_false, lc_rt', lc_ex', lc_nx, g62, g63, Int.toNat_natCast, Int.natCast_add, nth_get, g33, g64, g65, Int.toNat_zero, Bool.false_eq_true, Int.reduceToNat]
      · refine (sel_of_f (by simp (disch := first | assumption | omega | decide) only [↓g02, ↓g03, ↓g04, ↓g05, ↓g06, g01, g02, g03, g04, g05, g06, g07, g08, g09, g10, g11, g12, g13, g14, g15, g16, g17, g18, g19, g20, g21, g22, g23, g24, g25, g26, g27, g28, g29, g30, g31, g32, g34, g35, g36, g37, g38, g39, g40, g41, g42, g43, g44, g45, g46, g47, g48, g49, g50, g51, g52, g53, g54, g55, g56, g57, g58, g60, g61, eq_self, not_true_eq_false, not_false_eq_true, List.nil_append, List.append_nil, List.length_nil, and_true, true_and, or_true, true_or, or_false, false_or, and_false, false_and, iff_self, if_true, if_false, lc_rt', lc_ex', lc_nx, g62, g63, Int.toNat_natCast, Int.natCast_add, nth_get, g33, g64, g65, Int.toNat_zero, Bool.false_eq_true, Int.reduceToNat]; omega)).trans ((lc_eq key2).trans ?_)
        simp (disch := first | assumption | omega | decide) only [↓g02, ↓g03, ↓g04, ↓g05, ↓g06, g01, g02, g03, g04, g05, g06, g07, g08, g09, g10, g11, g12, g13, g14, g15, g16, g17, g18, g19, g20, g21, g22, g23, g24, g25, g26, g27, g28, g29, g30, g31, g32, g34, g35, g36, g37, g38, g39, g40, g41, g42, g43, g44, g45, g46, g47, g48, g49, g50, g51, g52, g53, g54, g55, g56, g57, g58, g60, g61, eq_self, not_true_eq_false, not_false_eq_true, List.nil_append, List.append_nil, List.length_nil, and_true, true_and, or_true, true_or, or_false, false_or, and_false, false_and, iff_self, if_true, if_false, lc_rt', lc_ex', lc_nx, g62, g63, Int.toNat_natCast, Int.natCast_add, nth_get, g33, g64, g65, Int.toNat_zero, Bool.false_eq_true, Int.reduceToNat]
    · subst hg
      have h2 := hx ls[i] (List.getElem_mem h)
      have hm := hmul (s.length + (ls[i]).length) (by omega)
      simp (disch := first | assumption | omega | decide) only [↓g02, ↓g03, ↓g04, ↓g05, ↓g06, g01, g02, g03, g04, g05, g06, g07, g08, g09, g10, g11, g12, g13, g14, g15, g16, g17, g18, g19, g20, g21, g22, g23, g24, g25, g26, g27, g28, g29, g30, g31, g32, g34, g35, g36, g37, g38, g39, g40, g41, g42, g43, g44, g45, g46, g47, g48, g49, g50, g51, g52, g53, g54, g55, g56, g57, g58, g60, g61, eq_self, not_true_eq_false, not_false_eq_true, List.nil_append, List.append_nil, List.length_nil, and_true, true_and, or_true, true_or, or_false, false_or, and_false, false_and, iff_self, if_true, if_false, lc_rt', lc_ex', lc_nx, g62, g63, Int.toNat_natCast, Int.natCast_add, nth_get, g33, g64, g65, Int.toNat_zero, Bool.false_eq_true, Int.reduceToNat, liftS]
    · cases hb
      have h2 := hx ls[i] (List.getElem_mem h)
      rw [List.length_append]; omega
    · subst hg; simp (disch := first | assumption | omega | decide) only [↓g02, ↓g03, ↓g04, ↓g05, ↓g06, g01, g02, g03, g04, g05, g06, g07, g08, g09, g10, g11, g12, g13, g14, g15, g16, g17, g18, g19, g20, g21, g22, g23, g24, g25, g26, g27, g28, g29, g30, g31, g32, g34, g35, g36, g37, g38, g39, g40, g41, g42, g43, g44, g45, g46, g47, g48, g49, g50, g51, g52, g53, g54, g55, g56, g57, g58, g60, g61, eq_self, not_true_eq_false, not_false_eq_true, List.nil_append, List.append_nil, List.length_nil, and_true, true_and, or_true, true_or, or_false, false_or, and_false, false_and, iff_self, if_true, if_false, lc_rt', lc_ex', lc_nx, g62, g63, Int.toNat_natCast, Int.natCast_add, nth_get, g33, g64, g65, Int.toNat_zero, Bool.false_eq_true, Int.reduceToNat]
  · subst hf
    have h2 := hx ls[i] (List.getElem_mem h)
    simp (disch := first | assumption | omega | decide) only [↓g02, ↓g03, ↓g04, ↓g05, ↓g06, g01, g02, g03, g04, g05, g06, g07, g08, g09, g10, g11, g12, g13, g14, g15, g16, g17, g18, g19, g20, g21, g22, g23, g24, g25, g26, g27, g28, g29, g30, g31, g32, g34, g35, g36, g37, g38, g39, g40, g41, g42, g43, g44, g45, g46, g47, g48, g49, g50, g51, g52, g53, g54, g55, g56, g57, g58, g60, g61, eq_self, not_true_eq_false, not_false_eq_true, List.nil_append, List.append_nil, List.length_nil, and_true, true_and, or_true, true_or, or_false, false_or, and_false, false_and, iff_self, if_true, if_false, lc_rt', lc_ex', lc_nx, g62, g63, Int.toNat_natCast, Int.natCast_add, nth_get, g33, g64, g65, Int.toNat_zero, Bool.false_eq_true, Int.reduceToNat, liftS]
  · cases hb
    have h2 := hx ls[i] (List.getElem_mem h)
    omega
  · subst hf; simp (disch := first | assumption | omega | decide) only [↓g02, ↓g03, ↓g04, ↓g05, ↓g06, g01, g02, g03, g04, g05, g06, g07, g08, g09, g10, g11, g12, g13, g14, g15, g16, g17, g18, g19, g20, g21, g22, g23, g24, g25, g26, g27, g28, g29, g30, g31, g32, g34, g35, g36, g37, g38, g39, g40, g41, g42, g43, g44, g45, g46, g47, g48, g49, g50, g51, g52, g53, g54, g55, g56, g57, g58, g60, g61, eq_self, not_true_eq_false, not_false_eq_true, List.nil_append, List.append_nil, List.length_nil, and_true, true_and, or_true, true_or, or_false, false_or, and_false, false_and, iff_self, if_true, if_false, lc_rt', lc_ex', lc_nx, g62, g63, Int.toNat_natCast, Int.natCast_add, nth_get, g33, g64, g65, Int.toNat_zero, Bool.false_eq_true, Int.reduceToNat]
end Yp

namespace Yp
open Go
theorem Concat_spec (ls : List (List V)) (hl : ls.length ≤ 100) (hx : ∀ x ∈ ls, x.length ≤ 1000000) : slices_Concat_api_Val_api_Val (ls, ()) = some (ls.flatten, ()) :=
  (show slices_Concat_api_Val_api_Val (ls, ()) = concatM 56 (0, none' UInt8, ()) (ls, ()) from rfl).trans (concatM_spec (by omega) ls hl hx)
def findI (no : Int) : List V → Nat
  | [] => 0
  | v :: r => if no ≤ v.1 then 0 else findI no r + 1
def hasI (no : Int) : List V → Bool
  | [] => false
  | v :: r => if no ≤ v.1 then decide (v.1 = no) else hasI no r
theorem findI_le (no : Int) : ∀ l : List V, findI no l ≤ l.length
  | [] => Nat.le_refl _
  | v :: r => by
    unfold findI
    split
    · exact Nat.zero_le _
    · have := findI_le no r
      simp only [List.length_cons]; omega
theorem hasI_lt {no : Int} : ∀ {l : List V}, hasI no l = true → ∃ h : findI no l < l.length, (l[findI no l]).1 = no
  | [], h => by cases h
  | v :: r, h => by
    unfold hasI at h
    by_cases hc : no ≤ v.1
    · rw [if_pos hc] at h
      have : findI no (v :: r) = 0 := by unfold findI; rw [if_pos hc]
      simp only [this]
      exact ⟨by simp, by simpa using h⟩
    · rw [if_neg hc] at h
      obtain ⟨h1, h2⟩ := hasI_lt h
      have : findI no (v :: r) = findI no r + 1 := by conv => { lhs; unfold findI }; rw [if_neg hc]
      simp only [this]
      exact ⟨by simp; omega, by simpa using h2⟩
theorem find_spec (l : List V) (no : Int) (hl : l.length ≤ 1000000) : iso_rows_api_Val_find ((l, 1, ()), no, ()) = some ((findI no l : Int), hasI no l, ()) := by
  unfold iso_rows_api_Val_find
  generalize hf : (fun (x_1 : Int × Bool × Int × Unit) => _) = f
  have key : ∀ (r : List V) (i : Nat), l.drop i = r → i ≤ l.length → loop f (0, false, (i : Int), ()) = if i + findI no r < l.length then some (.rt (((i + findI no r : Nat) : Int), hasI no r, ())) else some (.ex 0 (0, false, (l.length : Int), ())) := by
    intro r
    induction r with
    | nil =>
      intro i hr hi
      have hl' := congrArg List.length hr
      rw [List.length_drop, List.length_nil] at hl'
      have : i = l.length := by omega
      subst this
      rw [if_neg (by simp [findI])]
      refine loop_ex ?_
      subst hf; simp (disch := first | assumption | omega | decide) only [↓g02, ↓g03, ↓g04, ↓g05, ↓g06, g01, g02, g03, g04, g05, g06, g07, g08, g09, g10, g11, g12, g13, g14, g15, g16, g17, g18, g19, g20, g21, g22, g23, g24, g25, g26, g27, g28, g29, g30, g31, g32, g34, g35, g36, g37, g38, g39, g40, g41, g42, g43, g44, g45, g46, g47, g48, g49, g50, g51, g52, g53, g54, g55, g56, g57, g58, g60, g61, eq_self, not_true_eq_false, not_false_eq_true, List.nil_append, List.append_nil, List.length_nil, and_true, true_and, or_true, true_or, or_false, false_or, and_false, false_and, iff_self, if_true, if_false, lc_rt', lc_ex', lc_nx, g62, g63, Int.toNat_natCast, Int.natCast_add, nth_get, g33, g64, g65, Int.toNat_zero, Bool.false_eq_true, Int.reduceToNat, g66]
    | cons v r ih =>
      intro i hr hi
      have hl' := congrArg List.length hr
      rw [List.length_drop, List.length_cons] at hl'
      have hlt : i < l.length := by omega
      rw [List.drop_eq_getElem_cons hlt] at hr
      obtain ⟨hv, hr'⟩ := List.cons.inj hr
      have hp : iso_fields_1 (v, ()) = some (v.1, ()) := rfl
      by_cases hc : no ≤ v.1
      · have h0 : findI no (v :: r) = 0 := by unfold findI; rw [if_pos hc]
        have h1 : hasI no (v :: r) = D (v.1 = no) := by unfold hasI; rw [if_pos hc]; exact g51
        rw [h0, h1, if_pos (by omega)]
        refine loop_rt ?_
        subst hf; simp (disch := first | assumption | omega | decide) only [↓g02, ↓g03, ↓g04, ↓g05, ↓g06, g01, g02, g03, g04, g05, g06, g07, g08, g09, g10, g11, g12, g13, g14, g15, g16, g17, g18, g19, g20, g21, g22, g23, g24, g25, g26, g27, g28, g29, g30, g31, g32, g34, g35, g36, g37, g38, g39, g40, g41, g42, g43, g44, g45, g46, g47, g48, g49, g50, g51, g52, g53, g54, g55, g56, g57, g58, g60, g61, eq_self, not_true_eq_false, not_false_eq_true, List.nil_append, List.append_nil, List.length_nil, and_true, true_and, or_true, true_or, or_false, false_or, and_false, false_and, iff_self, if_true, if_false, lc_rt', lc_ex', lc_nx, g62, g63, Int.toNat_natCast, Int.natCast_add, nth_get, g33, g64, g65, Int.toNat_zero, Bool.false_eq_true, Int.reduceToNat, g66, hv, hp, Int.add_zero]
      · have h0 : findI no (v :: r) = findI no r + 1 := by conv => { lhs; unfold findI }; rw [if_neg hc]
        have h1 : hasI no (v :: r) = hasI no r := by conv => { lhs; unfold hasI }; rw [if_neg hc]
        rw [h0, h1]
        refine (loop_nx (y := (0, false, ((i + 1 : Nat) : Int), ())) ?_).trans ((ih (i + 1) hr' hlt).trans ?_)
        · subst hf; simp (disch := first | assumption | omega | decide) only [↓g02, ↓g03, ↓g04, ↓g05, ↓g06, g01, g02, g03, g04, g05, g06, g07, g08, g09, g10, g11, g12, g13, g14, g15, g16, g17, g18, g19, g20, g21, g22, g23, g24, g25, g26, g27, g28, g29, g30, g31, g32, g34, g35, g36, g37, g38, g39, g40, g41, g42, g43, g44, g45, g46, g47, g48, g49, g50, g51, g52, g53, g54, g55, g56, g57, g58, g60, g61, eq_self, not_true_eq_false, not_false_eq_true, List.nil_append, List.append_nil, List.length_nil, and_true, true_and, or_true, true_or, or_false, false_or, and_false, false_and, iff_self, if_true, if_false, lc_rt', lc_ex', lc_nx, g62, g63, Int.toNat_natCast, Int.natCast_add, nth_get, g33, g64, g65, Int.toNat_zero, Bool.false_eq_true, Int.reduceToNat, g66, hv, hp]
        · rw [show i + 1 + findI no r = i + (findI no r + 1) by omega]
  have k0 := key l 0 rfl (Nat.zero_le _)
  rw [Nat.zero_add] at k0
  refine (lc_eq k0).trans ?_
  by_cases hlt : findI no l < l.length
  · rw [if_pos hlt]; rfl
  · rw [if_neg hlt]
    have he := findI_le no l
    have : findI no l = l.length := by omega
    have hn : hasI no l = false := (Bool.not_eq_true _).mp fun h => hlt (hasI_lt h).1
    rw [this, hn]; rfl
def getD (l : List V) (no : Int) : List UInt8 × Bool × Unit := if hasI no l = true then ((nth l (findI no l) (0, [], ())).2.1, true, ()) else ([], false, ())
theorem iso_Get_spec (m : M) (no : Int) (hl : m.2.1.length ≤ 1000000) : iso_Get (m, no, ()) = some (getD m.2.1 no) := by
  unfold iso_Get
  refine (ob_of (show iso_fields (m, ()) = some ((m.2.1, 1, ()), ()) from rfl)).trans ?_
  refine (ob_of (find_spec m.2.1 no hl)).trans ?_
  unfold getD
  cases h : hasI no m.2.1
  · rfl
  · obtain ⟨h1, h2⟩ := hasI_lt h
    exact (sel_of_f rfl).trans ((ck_of (inB_nat h1)).trans rfl)
def withD (l : List V) (x : V) : List V := l.take (findI x.1 l) ++ (x :: l.drop (if hasI x.1 l = true then findI x.1 l + 1 else findI x.1 l))
theorem sub_pre {α : Type} {l : List α} {n : Nat} : sub l 0 (n : Int) = l.take n := by simp [sub]
theorem sub_suf {α : Type} {l : List α} {n : Nat} : sub l (n : Int) (len l) = l.drop n := by
  simp only [sub, len, Int.toNat_natCast]; rw [List.take_of_length_le (by rw [List.length_drop]; omega)]
theorem with_spec (l : List V) (x : V) (hl : l.length ≤ 100000) : iso_rows_api_Val_with ((l, 1, ()), x, ()) = some (withD l x, ()) := by
  unfold iso_rows_api_Val_with
  refine (ck_of g62).trans ((ob_of (show iso_fields_1 (x, ()) = some (x.1, ()) from rfl)).trans ((ob_of (find_spec l x.1 (by omega))).trans ?_))
  have hle := findI_le x.1 l
  have hc : ∀ n : Nat, slices_Concat_api_Val_api_Val ([l.take (findI x.1 l), [x], l.drop n], ()) = some (l.take (findI x.1 l) ++ (x :: l.drop n), ()) := fun n => by
    rw [Concat_spec _ (by simp) (fun y hy => by
      simp only [List.mem_cons, List.not_mem_nil, or_false] at hy
      rcases hy with rfl | rfl | rfl
      · have := List.length_take_le' (findI x.1 l) l; omega
      · simp
      · rw [List.length_drop]; omega)]
    simp
  unfold withD
  cases h : hasI x.1 l
  · refine (ob_of (sel_of_f rfl)).trans ?_
    refine (ck_of (by simp (disch := first | assumption | omega | decide) only [↓g02, ↓g03, ↓g04, ↓g05, ↓g06, g01, g02, g03, g04, g05, g06, g07, g08, g09, g10, g11, g12, g13, g14, g15, g16, g17, g18, g19, g20, g21, g22, g23, g24, g25, g26, g27, g28, g29, g30, g31, g32, g34, g35, g36, g37, g38, g39, g40, g41, g42, g43, g44, g45, g46, g47, g48, g49, g50, g51, g52, g53, g54, g55, g56, g57, g58, g60, g61, eq_self, not_true_eq_false, not_false_eq_true, List.nil_append, List.append_nil, List.length_nil, and_true, true_and, or_true, true_or, or_false, false_or, and_false, false_and, iff_self, if_true, if_false, lc_rt', lc_ex', lc_nx, g62, g63, Int.toNat_natCast, Int.natCast_add, nth_get, g33, g64, g65, Int.toNat_zero, Bool.false_eq_true, Int.reduceToNat, g66]; omega)).trans ((ck_of (by simp (disch := first | assumption | omega | decide) only [↓g02, ↓g03, ↓g04, ↓g05, ↓g06, g01, g02, g03, g04, g05, g06, g07, g08, g09, g10, g11, g12, g13, g14, g15, g16, g17, g18, g19, g20, g21, g22, g23, g24, g25, g26, g27, g28, g29, g30, g31, g32, g34, g35, g36, g37, g38, g39, g40, g41, g42, g43, g44, g45, g46, g47, g48, g49, g50, g51, g52, g53, g54, g55, g56, g57, g58, g60, g61, eq_self, not_true_eq_false, not_false_eq_true, List.nil_append, List.append_nil, List.length_nil, and_true, true_and, or_true, true_or, or_false, false_or, and_false, false_and, iff_self, if_true, if_false, lc_rt', lc_ex', lc_nx, g62, g63, Int.toNat_natCast, Int.natCast_add, nth_get, g33, g64, g65, Int.toNat_zero, Bool.false_eq_true, Int.reduceToNat, g66]; omega)).trans ?_)
    simp only [sub_pre, sub_suf]
    exact (ob_of (hc _)).trans rfl
  · obtain ⟨h1, h2⟩ := hasI_lt h
    have e : i64 (iadd (findI x.1 l : Int) 1) = ((findI x.1 l + 1 : Nat) : Int) := i64_add (b := 1) (by omega)
    refine (ob_of (sel_of_t rfl)).trans ?_
    simp only [e]
    refine (ck_of (by simp (disch := first | assumption | omega | decide) only [↓g02, ↓g03, ↓g04, ↓g05, ↓g06, g01, g02, g03, g04, g05, g06, g07, g08, g09, g10, g11, g12, g13, g14, g15, g16, g17, g18, g19, g20, g21, g22, g23, g24, g25, g26, g27, g28, g29, g30, g31, g32, g34, g35, g36, g37, g38, g39, g40, g41, g42, g43, g44, g45, g46, g47, g48, g49, g50, g51, g52, g53, g54, g55, g56, g57, g58, g60, g61, eq_self, not_true_eq_false, not_false_eq_true, List.nil_append, List.append_nil, List.length_nil, and_true, true_and, or_true, true_or, or_false, false_or, and_false, false_and, iff_self, if_true, if_false, lc_rt', lc_ex', lc_nx, g62, g63, Int.toNat_natCast, Int.natCast_add, nth_get, g33, g64, g65, Int.toNat_zero, Bool.false_eq_true, Int.reduceToNat, g66]; omega)).trans ((ck_of (by simp (disch := first | assumption | omega | decide) only [↓g02, ↓g03, ↓g04, ↓g05, ↓g06, g01, g02, g03, g04, g05, g06, g07, g08, g09, g10, g11, g12, g13, g14, g15, g16, g17, g18, g19, g20, g21, g22, g23, g24, g25, g26, g27, g28, g29, g30, g31, g32, g34, g35, g36, g37, g38, g39, g40, g41, g42, g43, g44, g45, g46, g47, g48, g49, g50, g51, g52, g53, g54, g55, g56, g57, g58, g60, g61, eq_self, not_true_eq_false, not_false_eq_true, List.nil_append, List.append_nil, List.length_nil, and_true, true_and, or_true, true_or, or_false, false_or, and_false, false_and, iff_self, if_true, if_false, lc_rt', lc_ex', lc_nx, g62, g63, Int.toNat_natCast, Int.natCast_add, nth_get, g33, g64, g65, Int.toNat_zero, Bool.false_eq_true, Int.reduceToNat, g66]; omega)).trans ?_)
    simp only [sub_pre, sub_suf]
    exact (ob_of (hc _)).trans rfl
def setD' (m : M) (no : Int) (v : List UInt8) : M × Int × Unit := if formOf no = none then (m, 12, ()) else if fitsD no v = true then ((m.1, withD m.2.1 (no, v, ()), ()), 0, ()) else (m, 1, ())
theorem iso_Set_spec (m : M) (no : Int) (v : List UInt8) (hl : m.2.1.length ≤ 100000) (hv : v.length ≤ 1000000) : iso_Set (m, no, v, ()) = some (setD' m no v) := by
  unfold iso_Set setD'
  refine (ob_of (field_Of_spec no)).trans ?_
  rw [fr_is]
  cases ho : formOf no with
  | none => rfl
  | some p =>
    rw [if_neg (by simp)]
    refine (sel_of_f rfl).trans ((ob_of (field_Fits_spec no v hv)).trans ?_)
    cases hf : fitsD no v
    · rfl
    · exact (sel_of_f rfl).trans ((ob_of (show iso_fields (m, ()) = some ((m.2.1, 1, ()), ()) from rfl)).trans ((ob_of (with_spec m.2.1 (no, v, ()) hl)).trans rfl))
def dropL (l : List V) (no : Int) : List V := if hasI no l = true then l.take (findI no l) ++ l.drop (findI no l + 1) else l
theorem iso_Drop_spec (m : M) (no : Int) (hl : m.2.1.length ≤ 100000) : iso_Drop (m, no, ()) = some ((m.1, dropL m.2.1 no, ()), ()) := by
  unfold iso_Drop dropL
  refine (ob_of (show iso_fields (m, ()) = some ((m.2.1, 1, ()), ()) from rfl)).trans ((ob_of (find_spec m.2.1 no (by omega))).trans ?_)
  cases h : hasI no m.2.1
  · rfl
  · obtain ⟨h1, h2⟩ := hasI_lt h
    have e : i64 (iadd (findI no m.2.1 : Int) 1) = ((findI no m.2.1 + 1 : Nat) : Int) := i64_add (b := 1) (by omega)
    refine (sel_of_t rfl).trans ?_
    simp only [e]
    refine (ck_of (by simp (disch := first | assumption | omega | decide) only [↓g02, ↓g03, ↓g04, ↓g05, ↓g06, g01, g02, g03, g04, g05, g06, g07, g08, g09, g10, g11, g12, g13, g14, g15, g16, g17, g18, g19, g20, g21, g22, g23, g24, g25, g26, g27, g28, g29, g30, g31, g32, g34, g35, g36, g37, g38, g39, g40, g41, g42, g43, g44, g45, g46, g47, g48, g49, g50, g51, g52, g53, g54, g55, g56, g57, g58, g60, g61, eq_self, not_true_eq_false, not_false_eq_true, List.nil_append, List.append_nil, List.length_nil, and_true, true_and, or_true, true_or, or_false, false_or, and_false, false_and, iff_self, if_true, if_false, lc_rt', lc_ex', lc_nx, g62, g63, Int.toNat_natCast, Int.natCast_add, nth_get, g33, g64, g65, Int.toNat_zero, Bool.false_eq_true, Int.reduceToNat, g66]; omega)).trans ((ck_of (by simp (disch := first | assumption | omega | decide) only [↓g02, ↓g03, ↓g04, ↓g05, ↓g06, g01, g02, g03, g04, g05, g06, g07, g08, g09, g10, g11, g12, g13, g14, g15, g16, g17, g18, g19, g20, g21, g22, g23, g24, g25, g26, g27, g28, g29, g30, g31, g32, g34, g35, g36, g37, g38, g39, g40, g41, g42, g43, g44, g45, g46, g47, g48, g49, g50, g51, g52, g53, g54, g55, g56, g57, g58, g60, g61, eq_self, not_true_eq_false, not_false_eq_true, List.nil_append, List.append_nil, List.length_nil, and_true, true_and, or_true, true_or, or_false, false_or, and_false, false_and, iff_self, if_true, if_false, lc_rt', lc_ex', lc_nx, g62, g63, Int.toNat_natCast, Int.natCast_add, nth_get, g33, g64, g65, Int.toNat_zero, Bool.false_eq_true, Int.reduceToNat, g66]; omega)).trans ?_)
    simp only [sub_pre, sub_suf]
    refine (ob_of (Concat_spec _ (by simp) (fun y hy => by
      simp only [List.mem_cons, List.not_mem_nil, or_false] at hy
      rcases hy with rfl | rfl
      · have := List.length_take_le' (findI no m.2.1) m.2.1; omega
      · rw [List.length_drop]; omega))).trans ?_
    simp
def getR (no : Int) : List V → List UInt8 × Bool × Unit
  | [] => ([], false, ())
  | v :: r => if v.1 = no then (v.2.1, true, ()) else getR no r
def grStep (no : Int) (_ : Unit) (v : V) : LS Unit (List UInt8 × Bool × Unit) := if v.1 = no then .rt (v.2.1, true, ()) else .nx ()
theorem foldS_gr {σ : Type} {mk : Unit → Nat → σ} {e : Nat} {no : Int} : ∀ (l : List V) (i : Nat), ∃ j, foldS mk e (grStep no) () i l = if (getR no l).2.1 = true then .rt (getR no l) else .ex e (mk () j)
  | [], i => ⟨i, rfl⟩
  | v :: r, i => by
    by_cases h : v.1 = no
    · have hs : grStep no () v = .rt (v.2.1, true, ()) := if_pos h
      have hg : getR no (v :: r) = (v.2.1, true, ()) := by unfold getR; rw [if_pos h]
      exact ⟨0, by simp only [foldS, hs, hg, if_pos]⟩
    · have hs : grStep no () v = .nx () := if_neg h
      have hg : getR no (v :: r) = getR no r := by conv => { lhs; unfold getR }; rw [if_neg h]
      obtain ⟨j, hj⟩ := foldS_gr (mk := mk) (e := e) (no := no) r (i + 1)
      exact ⟨j, by simp only [foldS, hs, hg]; exact hj⟩
theorem getR_none {no : Int} : ∀ {l : List V}, (getR no l).2.1 = false → getR no l = ([], false, ())
  | [], _ => rfl
  | v :: r, h => by
    unfold getR at h ⊢
    split
    · rename_i hc; rw [if_pos hc] at h; cases h
    · rename_i hc; rw [if_neg hc] at h; exact getR_none h
theorem ref07_Get_spec (m : M) (no : Int) (hl : m.2.1.length ≤ 1000000) : ref07_Get (m, no, ()) = some (getR no m.2.1) := by
  unfold ref07_Get
  generalize hf : (fun (x_1 : Bool × Int × Unit) => _) = f
  have key := loop_fold (f := f) m.2.1 (fun (_ : Unit) i => (false, (i : Int), ())) 0 (grStep no) (fun _ _ => True) (fun _ i h _ => ⟨?_, fun _ _ => trivial⟩) (fun _ _ => ?_) () trivial
  · refine (lc_eq key).trans ?_
    obtain ⟨j, hj⟩ := foldS_gr (mk := fun _ i => ((false, (i : Int), ()) : Bool × Int × Unit)) (e := 0) (no := no) m.2.1 0
    rw [hj]
    cases h : (getR no m.2.1).2.1
    · rw [getR_none h]; rfl
    · rfl
  · subst hf
    by_cases h1 : (m.2.1[i]).1 = no
    · have hs : grStep no () m.2.1[i] = .rt (m.2.1[i].2.1, true, ()) := if_pos h1
      simp (disch := first | assumption | omega | decide) only [↓g02, ↓g03, ↓g04, ↓g05, ↓g06, g01, g02, g03, g04, g05, g06, g07, g08, g09, g10, g11, g12, g13, g14, g15, g16, g17, g18, g19, g20, g21, g22, g23, g24, g25, g26, g27, g28, g29, g30, g31, g32, g34, g35, g36, g37, g38, g39, g40, g41, g42, g43, g44, g45, g46, g47, g48, g49, g50, g51, g52, g53, g54, g55, g56, g57, g58, g60, g61, eq_self, not_true_eq_false, not_false_eq_true, List.nil_append, List.append_nil, List.length_nil, and_true, true_and, or_true, true_or, or_false, false_or, and_false, false_and, iff_self, if_true, if_false, lc_rt', lc_ex', lc_nx, g62, g63, Int.toNat_natCast, Int.natCast_add, nth_get, g33, g64, g65, Int.toNat_zero, Bool.false_eq_true, Int.reduceToNat, g66, hs, liftS]
    · have hs : grStep no () m.2.1[i] = .nx () := if_neg h1
      simp (disch := first | assumption | omega | decide) only [↓g02, ↓g03, ↓g04, ↓g05, ↓g06, g01, g02, g03, g04, g05, g06, g07, g08, g09, g10, g11, g12, g13, g14, g15, g16, g17, g18, g19, g20, g21, g22, g23, g24, g25, g26, g27, g28, g29, g30, g31, g32, g34, g35, g36, g37, g38, g39, g40, g41, g42, g43, g44, g45, g46, g47, g48, g49, g50, g51, g52, g53, g54, g55, g56, g57, g58, g60, g61, eq_self, not_true_eq_false, not_false_eq_true, List.nil_append, List.append_nil, List.length_nil, and_true, true_and, or_true, true_or, or_false, false_or, and_false, false_and, iff_self, if_true, if_false, lc_rt', lc_ex', lc_nx, g62, g63, Int.toNat_natCast, Int.natCast_add, nth_get, g33, g64, g65, Int.toNat_zero, Bool.false_eq_true, Int.reduceToNat, g66, hs, liftS]
  · subst hf; simp (disch := first | assumption | omega | decide) only [↓g02, ↓g03, ↓g04, ↓g05, ↓g06, g01, g02, g03, g04, g05, g06, g07, g08, g09, g10, g11, g12, g13, g14, g15, g16, g17, g18, g19, g20, g21, g22, g23, g24, g25, g26, g27, g28, g29, g30, g31, g32, g34, g35, g36, g37, g38, g39, g40, g41, g42, g43, g44, g45, g46, g47, g48, g49, g50, g51, g52, g53, g54, g55, g56, g57, g58, g60, g61, eq_self, not_true_eq_false, not_false_eq_true, List.nil_append, List.append_nil, List.length_nil, and_true, true_and, or_true, true_or, or_false, false_or, and_false, false_and, iff_self, if_true, if_false, lc_rt', lc_ex', lc_nx, g62, g63, Int.toNat_natCast, Int.natCast_add, nth_get, g33, g64, g65, Int.toNat_zero, Bool.false_eq_true, Int.reduceToNat, g66]
theorem foldl_keep (p : V → Bool) (l : List V) : ∀ a : List V, l.foldl (fun s v => if p v = true then s ++ [v] else s) a = a ++ l.filter p := by
  induction l with
  | nil => intro a; simp
  | cons v r ih =>
    intro a
    rw [List.foldl_cons, ih]
    by_cases h : p v = true
    · rw [if_pos h, List.filter_cons_of_pos h]; simp
    · rw [if_neg h, List.filter_cons_of_neg h]
theorem keep_loop {ρ : Type} {f : List V × Int × Unit → Option (LS (List V × Int × Unit) ρ)} {l : List V} {e : Nat} (p : V → Bool) (hl : l.length ≤ 100000) (a : List V) (ha : a.length ≤ 100000)
    (hf : ∀ (s : List V) (i : Nat) (h : i < l.length), s.length ≤ 200000 → f (s, (i : Int), ()) = some (.nx (if p l[i] = true then s ++ [l[i]] else s, ((i + 1 : Nat) : Int), ()))) (he : ∀ s, f (s, (l.length : Int), ()) = some (.ex e (s, (l.length : Int), ()))) :
    loop f (a, 0, ()) = some (.ex e (a ++ l.filter p, (l.length : Int), ())) := by
  have key := loop_fold (f := f) l (fun (s : List V) i => (s, (i : Int), ())) e (fun s v => .nx (if p v = true then s ++ [v] else s)) (fun s i => s.length ≤ 100000 + i) (fun s i h hI => ⟨hf s i h (by omega), fun b' hb => ?_⟩) (fun s _ => he s) a (by omega)
  · rw [foldS_all' (g := fun (s : List V) (v : V) => if p v = true then s ++ [v] else s) (fun _ _ => rfl), foldl_keep, Nat.zero_add] at key
    exact key
  · cases hb
    split
    · rw [List.length_append]; simp; omega
    · omega
def dropR (l : List V) (no : Int) : List V := l.filter (fun v => !(decide (v.1 = no)))
theorem ref07_Drop_spec (m : M) (no : Int) (hl : m.2.1.length ≤ 100000) : ref07_Drop (m, no, ()) = some ((m.1, dropR m.2.1 no, ()), ()) := by
  unfold ref07_Drop dropR
  generalize hf : (fun (x_1 : List V × Int × Unit) => _) = f
  have key := keep_loop (f := f) (e := 0) (fun v => !(decide (v.1 = no))) hl [] (by simp) (fun s i h hs => ?_) (fun s => ?_)
  · refine (lc_eq key).trans ?_
    simp (disch := first | assumption | omega | decide) only [↓g02, ↓g03, ↓g04, ↓g05, ↓g06, g01, g02, g03, g04, g05, g06, g07, g08, g09, g10, g11, g12, g13, g14, g15, g16, g17, g18, g19, g20, g21, g22, g23, g24, g25, g26, g27, g28, g29, g30, g31, g32, g34, g35, g36, g37, g38, g39, g40, g41, g42, g43, g44, g45, g46, g47, g48, g49, g50, g51, g52, g53, g54, g55, g56, g57, g58, g60, g61, eq_self, not_true_eq_false, not_false_eq_true, List.nil_append, List.append_nil, List.length_nil, and_true, true_and, or_true, true_or, or_false, false_or, and_false, false_and, iff_self, if_true, if_false, lc_rt', lc_ex', lc_nx, g62, g63, Int.toNat_natCast, Int.natCast_add, nth_get, g33, g64, g65, Int.toNat_zero, Bool.false_eq_true, Int.reduceToNat, g66]
  · subst hf
    by_cases h1 : (m.2.1[i]).1 = no
    · have e : (!(decide ((m.2.1[i]).1 = no))) = false := by rw [decide_eq_true h1]; rfl
      simp (disch := first | assumption | omega | decide) only [↓g02, ↓g03, ↓g04, ↓g05, ↓g06, g01, g02, g03, g04, g05, g06, g07, g08, g09, g10, g11, g12, g13, g14, g15, g16, g17, g18, g19, g20, g21, g22, g23, g24, g25, g26, g27, g28, g29, g30, g31, g32, g34, g35, g36, g37, g38, g39, g40, g41, g42, g43, g44, g45, g46, g47, g48, g49, g50, g51, g52, g53, g54, g55, g56, g57, g58, g60, g61, eq_self, not_true_eq_false, not_false_eq_true, List.nil_append, List.append_nil, List.length_nil, and_true, true_and, or_true, true_or, or_false, false_or, and_false, false_and, iff_self, if_true, if_false, lc_rt', lc_ex', lc_nx, g62, g63, Int.toNat_natCast, Int.natCast_add, nth_get, g33, g64, g65, Int.toNat_zero, Bool.false_eq_true, Int.reduceToNat, g66, h1, Bool.not_true]
    · simp (disch := first | assumption | omega | decide) only [↓g02, ↓g03, ↓g04, ↓g05, ↓g06, g01, g02, g03, g04, g05, g06, g07, g08, g09, g10, g11, g12, g13, g14, g15, g16, g17, g18, g19, g20, g21, g22, g23, g24, g25, g26, g27, g28, g29, g30, g31, g32, g34, g35, g36, g37, g38, g39, g40, g41, g42, g43, g44, g45, g46, g47, g48, g49, g50, g51, g52, g53, g54, g55, g56, g57, g58, g60, g61, eq_self, not_true_eq_false, not_false_eq_true, List.nil_append, List.append_nil, List.length_nil, and_true, true_and, or_true, true_or, or_false, false_or, and_false, false_and, iff_self, if_true, if_false, lc_rt', lc_ex', lc_nx, g62, g63, Int.toNat_natCast, Int.natCast_add, nth_get, g33, g64, g65, Int.toNat_zero, Bool.false_eq_true, Int.reduceToNat, g66, h1, List.length_cons, Bool.not_false]
  · subst hf; simp (disch := first | assumption | omega | decide) only [↓g02, ↓g03, ↓g04, ↓g05, ↓g06, g01, g02, g03, g04, g05, g06, g07, g08, g09, g10, g11, g12, g13, g14, g15, g16, g17, g18, g19, g20, g21, g22, g23, g24, g25, g26, g27, g28, g29, g30, g31, g32, g34, g35, g36, g37, g38, g39, g40, g41, g42, g43, g44, g45, g46, g47, g48, g49, g50, g51, g52, g53, g54, g55, g56, g57, g58, g60, g61, eq_self, not_true_eq_false, not_false_eq_true, List.nil_append, List.append_nil, List.length_nil, and_true, true_and, or_true, true_or, or_false, false_or, and_false, false_and, iff_self, if_true, if_false, lc_rt', lc_ex', lc_nx, g62, g63, Int.toNat_natCast, Int.natCast_add, nth_get, g33, g64, g65, Int.toNat_zero, Bool.false_eq_true, Int.reduceToNat, g66]
def setR (l : List V) (x : V) : List V := l.filter (fun v => decide (v.1 < x.1)) ++ (x :: l.filter (fun v => decide (x.1 < v.1)))
def setRD (m : M) (no : Int) (v : List UInt8) : M × Int × Unit := if formOf no = none then (m, 12, ()) else if fitsD no v = true then ((m.1, setR m.2.1 (no, v, ()), ()), 0, ()) else (m, 1, ())
theorem ref07_Set_spec (m : M) (no : Int) (v : List UInt8) (hl : m.2.1.length ≤ 90000) (hv : v.length ≤ 1000000) : ref07_Set (m, no, v, ()) = some (setRD m no v) := by
  unfold ref07_Set setRD
  generalize hf : (fun (x_1 : List V × Int × Unit) => (_ : Option (LS (List V × Int × Unit) (M × Int × Unit)))) = f
  generalize hg : (fun (x_1 : List V × Int × Unit) => (_ : Option (LS (List V × Int × Unit) (M × Int × Unit)))) = g
  refine (ob_of (ref05_Of_spec no)).trans ?_
  rw [fr_is]
  cases ho : formOf no with
  | none => rfl
  | some p =>
    rw [if_neg (by simp)]
    refine (sel_of_f rfl).trans ((ob_of (ref05_Fits_spec no v hv)).trans ?_)
    cases hfi : fitsD no v
    · rfl
    refine (sel_of_f rfl).trans ?_
    have hfl : (m.2.1.filter (fun u => decide (u.1 < no))).length ≤ m.2.1.length := List.length_filter_le _ _
    have key := keep_loop (f := f) (e := 0) (fun u => decide (u.1 < no)) (by omega) [] (by simp) (fun s i h hs => ?_) (fun s => ?_) (l := m.2.1)
    · have key2 := keep_loop (f := g) (e := 2) (fun u => decide (no < u.1)) (by omega) (m.2.1.filter (fun u => decide (u.1 < no)) ++ [(no, v, ())]) (by rw [List.length_append]; simp; omega) (fun s i h hs => ?_) (fun s => ?_) (l := m.2.1)
      · refine (lc_eq key).trans (lc_ex'.trans ((ck_of g62).trans ((ck_of (rm_t (by simp only [nadd, ln, List.length_append, List.length_cons, List.length_nil]; omega))).trans ((lc_eq key2).trans ?_))))
        simp (disch := first | assumption | omega | decide) only [↓g02, ↓g03, ↓g04, ↓g05, ↓g06, g01, g02, g03, g04, g05, g06, g07, g08, g09, g10, g11, g12, g13, g14, g15, g16, g17, g18, g19, g20, g21, g22, g23, g24, g25, g26, g27, g28, g29, g30, g31, g32, g34, g35, g36, g37, g38, g39, g40, g41, g42, g43, g44, g45, g46, g47, g48, g49, g50, g51, g52, g53, g54, g55, g56, g57, g58, g60, g61, eq_self, not_true_eq_false, not_false_eq_true, List.nil_append, List.append_nil, List.length_nil, and_true, true_and, or_true, true_or, or_false, false_or, and_false, false_and, iff_self, if_true, if_false, lc_rt', lc_ex', lc_nx, g62, g63, Int.toNat_natCast, Int.natCast_add, nth_get, g33, g64, g65, Int.toNat_zero, Bool.false_eq_true, Int.reduceToNat, g66, setR]
        simp
      · subst hg
        by_cases h1 : no < (m.2.1[i]).1
        · simp (disch := first | assumption | omega | decide) only [↓g02, ↓g03, ↓g04, ↓g05, ↓g06, g01, g02, g03, g04, g05, g06, g07, g08, g09, g10, g11, g12, g13, g14, g15, g16, g17, g18, g19, g20, g21, g22, g23, g24, g25, g26, g27, g28, g29, g30, g31, g32, g34, g35, g36, g37, g38, g39, g40, g41, g42, g43, g44, g45, g46, g47, g48, g49, g50, g51, g52, g53, g54, g55, g56, g57, g58, g60, g61, eq_self, not_true_eq_false, not_false_eq_true, List.nil_append, List.append_nil, List.length_nil, and_true, true_and, or_true, true_or, or_false, false_or, and_false, false_and, iff_self, if_true, if_false, lc_rt', lc_ex', lc_nx, g62, g63, Int.toNat_natCast, Int.natCast_add, nth_get, g33, g64, g65, Int.toNat_zero, Bool.false_eq_true, Int.reduceToNat, g66, h1, List.length_cons]
        · simp (disch := first | assumption | omega | decide) only [↓g02, ↓g03, ↓g04, ↓g05, ↓g06, g01, g02, g03, g04, g05, g06, g07, g08, g09, g10, g11, g12, g13, g14, g15, g16, g17, g18, g19, g20, g21, g22, g23, g24, g25, g26, g27, g28, g29, g30, g31, g32, g34, g35, g36, g37, g38, g39, g40, g41, g42, g43, g44, g45, g46, g47, g48, g49, g50, g51, g52, g53, g54, g55, g56, g57, g58, g60, g61, eq_self, not_true_eq_false, not_false_eq_true, List.nil_append, List.append_nil, List.length_nil, and_true, true_and, or_true, true_or, or_false, false_or, and_false, false_and, iff_self, if_true, if_false, lc_rt', lc_ex', lc_nx, g62, g63, Int.toNat_natCast, Int.natCast_add, nth_get, g33, g64, g65, Int.toNat_zero, Bool.false_eq_true, Int.reduceToNat, g66, h1]
      · subst hg; simp (disch := first | assumption | omega | decide) only [↓g02, ↓g03, ↓g04, ↓g05, ↓g06, g01, g02, g03, g04, g05, g06, g07, g08, g09, g10, g11, g12, g13, g14, g15, g16, g17, g18, g19, g20, g21, g22, g23, g24, g25, g26, g27, g28, g29, g30, g31, g32, g34, g35, g36, g37, g38, g39, g40, g41, g42, g43, g44, g45, g46, g47, g48, g49, g50, g51, g52, g53, g54, g55, g56, g57, g58, g60, g61, eq_self, not_true_eq_false, not_false_eq_true, List.nil_append, List.append_nil, List.length_nil, and_true, true_and, or_true, true_or, or_false, false_or, and_false, false_and, iff_self, if_true, if_false, lc_rt', lc_ex', lc_nx, g62, g63, Int.toNat_natCast, Int.natCast_add, nth_get, g33, g64, g65, Int.toNat_zero, Bool.false_eq_true, Int.reduceToNat, g66]
    · subst hf
      by_cases h1 : (m.2.1[i]).1 < no
      · simp (disch := first | assumption | omega | decide) only [↓g02, ↓g03, ↓g04, ↓g05, ↓g06, g01, g02, g03, g04, g05, g06, g07, g08, g09, g10, g11, g12, g13, g14, g15, g16, g17, g18, g19, g20, g21, g22, g23, g24, g25, g26, g27, g28, g29, g30, g31, g32, g34, g35, g36, g37, g38, g39, g40, g41, g42, g43, g44, g45, g46, g47, g48, g49, g50, g51, g52, g53, g54, g55, g56, g57, g58, g60, g61, eq_self, not_true_eq_false, not_false_eq_true, List.nil_append, List.append_nil, List.length_nil, and_true, true_and, or_true, true_or, or_false, false_or, and_false, false_and, iff_self, if_true, if_false, lc_rt', lc_ex', lc_nx, g62, g63, Int.toNat_natCast, Int.natCast_add, nth_get, g33, g64, g65, Int.toNat_zero, Bool.false_eq_true, Int.reduceToNat, g66, h1, List.length_cons]
      · simp (disch := first | assumption | omega | decide) only [↓g02, ↓g03, ↓g04, ↓g05, ↓g06, g01, g02, g03, g04, g05, g06, g07, g08, g09, g10, g11, g12, g13, g14, g15, g16, g17, g18, g19, g20, g21, g22, g23, g24, g25, g26, g27, g28, g29, g30, g31, g32, g34, g35, g36, g37, g38, g39, g40, g41, g42, g43, g44, g45, g46, g47, g48, g49, g50, g51, g52, g53, g54, g55, g56, g57, g58, g60, g61, eq_self, not_true_eq_false, not_false_eq_true, List.nil_append, List.append_nil, List.length_nil, and_true, true_and, or_true, true_or, or_false, false_or, and_false, false_and, iff_self, if_true, if_false, lc_rt', lc_ex', lc_nx, g62, g63, Int.toNat_natCast, Int.natCast_add, nth_get, g33, g64, g65, Int.toNat_zero, Bool.false_eq_true, Int.reduceToNat, g66, h1]
    · subst hf; simp (disch := first | assumption | omega | decide) only [↓g02, ↓g03, ↓g04, ↓g05, ↓g06, g01, g02, g03, g04, g05, g06, g07, g08, g09, g10, g11, g12, g13, g14, g15, g16, g17, g18, g19, g20, g21, g22, g23, g24, g25, g26, g27, g28, g29, g30, g31, g32, g34, g35, g36, g37, g38, g39, g40, g41, g42, g43, g44, g45, g46, g47, g48, g49, g50, g51, g52, g53, g54, g55, g56, g57, g58, g60, g61, eq_self, not_true_eq_false, not_false_eq_true, List.nil_append, List.append_nil, List.length_nil, and_true, true_and, or_true, true_or, or_false, false_or, and_false, false_and, iff_self, if_true, if_false, lc_rt', lc_ex', lc_nx, g62, g63, Int.toNat_natCast, Int.natCast_add, nth_get, g33, g64, g65, Int.toNat_zero, Bool.false_eq_true, Int.reduceToNat, g66]
end Yp

namespace Yp
open Go
theorem sorted_ext : ∀ {a b : List Int}, a.Pairwise (· < ·) → b.Pairwise (· < ·) → (∀ n, n ∈ a ↔ n ∈ b) → a = b
  | [], [], _, _, _ => rfl
  | [], y :: b, _, _, h => by have := (h y).2 (by simp); cases this
  | x :: a, [], _, _, h => by have := (h x).1 (by simp); cases this
  | x :: a, y :: b, ha, hb, h => by
    rw [List.pairwise_cons] at ha hb
    have hxy : x = y := by
      have h1 := (h x).1 (by simp)
      have h2 := (h y).2 (by simp)
      rcases List.mem_cons.1 h1 with h1 | h1
      · exact h1
      · rcases List.mem_cons.1 h2 with h2 | h2
        · exact h2.symm
        · have := hb.1 x h1
          have := ha.1 y h2
          omega
    subst hxy
    rw [sorted_ext ha.2 hb.2 fun n => ?_]
    have := h n
    simp only [List.mem_cons] at this
    constructor
    · intro hn
      rcases this.1 (.inr hn) with rfl | h1
      · have := ha.1 n hn; omega
      · exact h1
    · intro hn
      rcases this.2 (.inr hn) with rfl | h1
      · have := hb.1 n hn; omega
      · exact h1
theorem rightL_sorted {l : List Int} : ∀ {last : Int}, rightL last l = true → l.Pairwise (· < ·) := by
  induction l with
  | nil => intros; exact List.Pairwise.nil
  | cons x r ih =>
    intro last h
    have hm := h
    simp only [rightL, Bool.and_eq_true, decide_eq_true_eq] at h
    exact List.pairwise_cons.2 ⟨fun y hy => (rightL_mem h.2 y hy).1, ih h.2⟩
theorem rightL_of {l : List Int} : ∀ {last : Int}, l.Pairwise (· < ·) → (∀ n ∈ l, last < n ∧ n ≤ 128 ∧ n ≠ 65) → rightL last l = true := by
  induction l with
  | nil => intros; rfl
  | cons x r ih =>
    intro last hp h
    rw [List.pairwise_cons] at hp
    simp only [rightL, Bool.and_eq_true, decide_eq_true_eq]
    refine ⟨h x (by simp), ih hp.2 fun n hn => ⟨hp.1 n hn, (h n (by simp [hn])).2⟩⟩
theorem numsB_sorted (c : List UInt8) : ((numsB c).map Int.ofNat).Pairwise (· < ·) := by
  rw [List.pairwise_map]
  refine List.Pairwise.imp ?_ (show (numsB c).Pairwise (· < ·) from List.Pairwise.filter _ List.pairwise_lt_range)
  intro a b h; exact Int.ofNat_lt.2 h
theorem numsB_mem {c : List UInt8} {n : Nat} : n ∈ numsB c ↔ n ≤ 8 * c.length ∧ 2 ≤ n ∧ hasB c n = true := by
  unfold numsB
  rw [List.mem_filter, List.mem_range, Bool.and_eq_true]
  constructor
  · rintro ⟨h1, h2, h3⟩; exact ⟨by omega, Nat.le_of_ble_eq_true h2, h3⟩
  · rintro ⟨h1, h2, h3⟩; exact ⟨by omega, Nat.ble_eq_true_of_le h2, h3⟩
theorem bmW_has {l : List Int} (h : rightL 1 l = true) {n : Nat} (h1 : 1 ≤ n) (h2 : n ≤ 8 * (bmW l).length) : hasB (bmW l) n = (decide ((n : Int) ∈ l) || (Nat.beq n 1 && wideL l)) := by
  rw [bmW_length] at h2
  unfold bmW
  cases hw : wideL l
  · rw [hw] at h2
    rw [if_neg (by simp)] at h2 ⊢
    rw [hasB_rowB h1 h2, Bool.and_false, Bool.or_false]; rfl
  · rw [hw] at h2
    rw [if_pos rfl] at h2 ⊢
    rw [hasB_rowB h1 h2, Bool.and_true]
    unfold memI
    refine Bool.eq_iff_iff.2 ?_
    simp only [Bool.or_eq_true, decide_eq_true_eq, List.mem_cons, Nat.beq_eq]
    rw [or_comm]
    refine or_congr Iff.rfl ?_
    omega
theorem nums_bmW {l : List Int} (h : rightL 1 l = true) : (numsB (bmW l)).map Int.ofNat = l := by
  refine sorted_ext (numsB_sorted _) (rightL_sorted h) fun n => ?_
  rw [List.mem_map]
  have hm := rightL_mem h
  constructor
  · rintro ⟨k, hk, rfl⟩
    obtain ⟨h1, h2, h3⟩ := numsB_mem.1 hk
    rw [bmW_has h (by omega) h1] at h3
    have : Nat.beq k 1 = false := (Bool.not_eq_true _).mp fun hb => by have := Nat.eq_of_beq_eq_true hb; omega
    rw [this, Bool.false_and, Bool.or_false, decide_eq_true_eq] at h3
    exact h3
  · intro hn
    have hb := hm n hn
    refine ⟨n.toNat, numsB_mem.2 ⟨?_, by omega, ?_⟩, by simp; omega⟩
    · rw [bmW_length]
      split
      · omega
      · rename_i hw
        have := not_wide h hw n hn
        omega
    · rw [bmW_has h (by omega) (by
        rw [bmW_length]
        split
        · omega
        · rename_i hw
          have := not_wide h hw n hn
          omega)]
      rw [Int.toNat_of_nonneg (by omega), decide_eq_true hn, Bool.true_or]
theorem bmW_len8 (l : List Int) : 8 ≤ (bmW l).length ∧ (bmW l).length ≤ 16 := by rw [bmW_length]; split <;> omega
theorem bmW_one {l : List Int} (h : rightL 1 l = true) : hasB (bmW l) 1 = wideL l := by
  rw [bmW_has h (by omega) (by have := bmW_len8 l; omega)]
  have : decide (((1 : Nat) : Int) ∈ l) = false := decide_eq_false fun hc => by have := (rightL_mem h _ hc).1; omega
  rw [this]; rfl
theorem wide_mem {l : List Int} (h : rightL 1 l = true) : wideL l = true ↔ ∃ n ∈ l, 64 < n := by
  constructor
  · intro hw
    unfold wideL at hw
    rw [Bool.and_eq_true, decide_eq_true_eq, decide_eq_true_eq] at hw
    exact ⟨_, by rw [nth_get (show l.length - 1 < l.length by omega)]; exact List.getElem_mem _, hw.2⟩
  · rintro ⟨n, hn, h1⟩
    refine Classical.byContradiction fun hw => ?_
    have := not_wide h hw n hn
    omega
theorem bmC_hit {l : List Int} {c q : List UInt8} {a : Int} (h : rightL 1 l = true) (hc : c = bmW l ++ q) : bmC c a = (l, a + ((bmW l).length : Int), 0, ()) := by
  have h8 := bmW_len8 l
  have hcl : c.length = (bmW l).length + q.length := by rw [hc, List.length_append]
  have ht : c.take (bmW l).length = bmW l := by rw [hc, List.take_left]
  have h1 : hasB c 1 = wideL l := by
    rw [← bmW_one h, ← ht]
    exact (hasB_take (by omega) (by omega) (by omega)).symm
  have hn := nums_bmW h
  have hbl := bmW_length l
  unfold bmC
  rw [h1]
  cases hw : wideL l
  · rw [hw, if_neg (by simp)] at hbl
    rw [hbl] at ht hcl ⊢
    rw [if_neg (by simp; omega), if_neg (by simp), ht, hn]; rfl
  · rw [hw, if_pos rfl] at hbl
    rw [hbl] at ht hcl ⊢
    rw [if_neg (by simp; omega), if_pos rfl, ht, hn, if_neg]
    · rfl
    · rintro (hc65 | hall)
      · have : ((65 : Nat) : Int) ∈ l := by rw [← hn]; exact List.mem_map.2 ⟨65, hc65, rfl⟩
        have := (rightL_mem h _ this).2.2
        exact this rfl
      · obtain ⟨n, hn1, hn2⟩ := (wide_mem h).1 hw
        have hb := rightL_mem h n hn1
        rw [← hn] at hn1
        obtain ⟨k, hk, rfl⟩ := List.mem_map.1 hn1
        have := hall k hk
        simp at hn2 hb; omega
theorem bmR_hit {l : List Int} {b q : List UInt8} {A : Nat} (h : rightL 1 l = true) (hA : A ≤ b.length) (hb : b.drop A = bmW l ++ q) : bmR b A = (l, ((A + (bmW l).length : Nat) : Int), 0, ()) := by
  unfold bmR
  rw [if_neg (by omega), Int.toNat_natCast, bmC_hit h hb, Int.natCast_add]
theorem bmC_inv {c : List UInt8} {a a' : Int} {l : List Int} (h : bmC c a = (l, a', 0, ())) : rightL 1 l = true ∧ a' = a + ((bmW l).length : Int) ∧ (bmW l).length ≤ c.length ∧ c = bmW l ++ c.drop (bmW l).length := by
  unfold bmC at h
  by_cases h0 : c.length < 8 ∨ (hasB c 1 = true ∧ c.length < 16)
  · rw [if_pos h0] at h; simp at h
  rw [if_neg h0] at h
  have main : ∀ size : Nat, size = 8 ∨ size = 16 → size ≤ c.length → (hasB c 1 = true ↔ size = 16) → l = (numsB (c.take size)).map Int.ofNat → (size = 16 → ¬ (65 ∈ numsB (c.take 16) ∨ ∀ n ∈ numsB (c.take 16), n < 65)) → rightL 1 l = true ∧ bmW l = c.take size := by
    intro size hs hsc h1 hl h65
    have htl : (c.take size).length = size := by rw [List.length_take]; omega
    have hr : rightL 1 l = true := by
      rw [hl]
      refine rightL_of (numsB_sorted _) fun n hn => ?_
      obtain ⟨k, hk, rfl⟩ := List.mem_map.1 hn
      obtain ⟨k1, k2, k3⟩ := numsB_mem.1 hk
      rw [htl] at k1
      refine ⟨by simp; omega, by simp; omega, fun hc => ?_⟩
      have hk65 : k = 65 := by simp at hc; omega
      subst hk65
      have h16 : size = 16 := by omega
      subst h16
      exact h65 rfl (.inl hk)
    have hw : wideL l = true ↔ size = 16 := by
      rw [wide_mem hr, hl]
      constructor
      · rintro ⟨n, hn, h1⟩
        obtain ⟨k, hk, rfl⟩ := List.mem_map.1 hn
        obtain ⟨k1, _⟩ := numsB_mem.1 hk
        rw [htl] at k1
        simp at h1; omega
      · intro h16
        subst h16
        refine Classical.byContradiction fun hc => h65 rfl (.inr fun n hn => Classical.byContradiction fun hlt => hc ⟨(n : Int), List.mem_map.2 ⟨n, hn, rfl⟩, by omega⟩)
    refine ⟨hr, ?_⟩
    have hbl : (bmW l).length = size := by
      rw [bmW_length]
      split
      · rename_i h; exact (hw.1 h).symm
      · rename_i h; have : ¬ size = 16 := fun e => h (hw.2 e); omega
    refine row_ext (by rw [hbl, htl]) fun n n1 n2 => ?_
    rw [bmW_has hr n1 n2]
    rw [hbl] at n2
    rw [hl]
    by_cases hn1 : n = 1
    · subst hn1
      have hd : decide (((1 : Nat) : Int) ∈ (numsB (c.take size)).map Int.ofNat) = false := decide_eq_false fun hc => by
        obtain ⟨k, hk, hk1⟩ := List.mem_map.1 hc
        have := (numsB_mem.1 hk).2.1
        simp at hk1; omega
      rw [hd, Bool.false_or, hasB_take (by omega) (by omega) hsc, ← hl]
      have hb : Nat.beq 1 1 = true := rfl
      rw [hb, Bool.true_and]
      exact Bool.eq_iff_iff.2 (hw.trans h1.symm)
    · have hb : Nat.beq n 1 = false := (Bool.not_eq_true _).mp fun hb => hn1 (Nat.eq_of_beq_eq_true hb)
      rw [hb, Bool.false_and, Bool.or_false]
      refine Bool.eq_iff_iff.2 ?_
      rw [decide_eq_true_eq, List.mem_map]
      constructor
      · rintro ⟨k, hk, hk1⟩
        have : k = n := by simp at hk1; omega
        subst this
        exact (numsB_mem.1 hk).2.2
      · intro hh
        exact ⟨n, numsB_mem.2 ⟨by rw [htl]; omega, by omega, hh⟩, rfl⟩
  by_cases h1 : hasB c 1 = true
  · rw [if_pos h1] at h
    by_cases h65 : 65 ∈ numsB (c.take 16) ∨ ∀ n ∈ numsB (c.take 16), n < 65
    · rw [if_pos h65] at h; simp at h
    rw [if_neg h65] at h
    simp only [Prod.mk.injEq, and_true] at h
    have h16 : 16 ≤ c.length := by
      refine Classical.byContradiction fun hc => h0 (.inr ⟨h1, by omega⟩)
    obtain ⟨r1, r2⟩ := main 16 (.inr rfl) h16 (iff_of_true h1 rfl) h.1.symm (fun _ => h65)
    have hbl : (bmW l).length = 16 := by rw [r2, List.length_take]; omega
    rw [hbl]
    refine ⟨r1, h.2.symm, h16, ?_⟩
    rw [r2, List.take_append_drop]
  · rw [if_neg h1] at h
    simp only [Prod.mk.injEq, and_true] at h
    obtain ⟨r1, r2⟩ := main 8 (.inl rfl) (by omega) (iff_of_false h1 (by omega)) h.1.symm (fun e => absurd e (by omega))
    have hbl : (bmW l).length = 8 := by rw [r2, List.length_take]; omega
    rw [hbl]
    refine ⟨r1, h.2.symm, by omega, ?_⟩
    rw [r2, List.take_append_drop]
theorem bmC_cut {l : List Int} {c : List UInt8} {a : Int} {k : Nat} (h : rightL 1 l = true) (hk : k < (bmW l).length) (hc : c = (bmW l).take k) : bmC c a = ([], 0, 3, ()) := by
  unfold bmC
  rw [if_pos]
  have hcl : c.length = k := by rw [hc, List.length_take]; omega
  by_cases h8 : k < 8
  · exact .inl (by omega)
  · right
    have hbl := bmW_length l
    cases hw : wideL l
    · rw [hw, if_neg (by simp)] at hbl; omega
    · rw [hw, if_pos rfl] at hbl
      refine ⟨?_, by omega⟩
      rw [hc, hasB_take (by omega) (by omega) (by omega), bmW_one h, hw]
theorem wrV_eq {v : V} {k l : Int} (ho : formOf v.1 = some (k, l)) (hv : fv k l v.2.1) : wrV v = wrF k v.2.1 := by
  unfold wrV wrD; rw [ho]; simp only [if_pos hv]
theorem rdD_hit {v : V} {b q : List UInt8} {A : Nat} (hf : fitsD v.1 v.2.1 = true) (hA : A ≤ b.length) (h : b.drop A = wrV v ++ q) : rdD v.1 b A = (v.2.1, ((A + (wrV v).length : Nat) : Int), 0, ()) := by
  obtain ⟨k, l, ho, hv⟩ := fitsD_iff.1 hf
  rw [wrV_eq ho hv] at h ⊢
  unfold rdD; rw [ho]
  exact rdF_hit ho hA hv h
theorem rdD_inv {no : Int} {v b : List UInt8} {A : Nat} {I : Int} (hA : A ≤ b.length) (h : rdD no b A = (v, I, 0, ())) : fitsD no v = true ∧ I = ((A + (wrV (no, v, ())).length : Nat) : Int) ∧ A + (wrV (no, v, ())).length ≤ b.length ∧ b.drop A = wrV (no, v, ()) ++ b.drop (A + (wrV (no, v, ())).length) := by
  cases ho : formOf no with
  | none => unfold rdD at h; rw [ho] at h; simp at h
  | some p =>
    obtain ⟨k, l⟩ := p
    have h' : rdF k l b A = (v, I, 0, ()) := by unfold rdD at h; rw [ho] at h; exact h
    obtain ⟨m1, m2, m3, m4⟩ := rdF_inv ho hA h'
    rw [wrV_eq (v := (no, v, ())) ho m1]
    exact ⟨fitsD_iff.2 ⟨k, l, ho, m1⟩, m2, m3, m4⟩
theorem rdD_cut {v : V} {b : List UInt8} {A c : Nat} (hf : fitsD v.1 v.2.1 = true) (hA : A ≤ b.length) (hc : c < (wrV v).length) (h : b.drop A = (wrV v).take c) : rdD v.1 b A = ([], 0, 3, ()) := by
  obtain ⟨k, l, ho, hv⟩ := fitsD_iff.1 hf
  rw [wrV_eq ho hv] at h hc
  unfold rdD; rw [ho]
  exact rdF_cut ho hA hv hc h
theorem rdFs_hit {b : List UInt8} : ∀ {l : List V} {A : Nat} {F : List V} {q : List UInt8}, (∀ v ∈ l, fitsD v.1 v.2.1 = true) → A ≤ b.length → b.drop A = l.flatMap wrV ++ q → rdFs b (nosF l) A F = (none, ((A + (l.flatMap wrV).length : Nat) : Int), F ++ l)
  | [], A, F, q, _, _, _ => by simp [rdFs, nosF]
  | v :: r, A, F, q, hf, hA, h => by
    rw [List.flatMap_cons, List.append_assoc] at h
    have h1 := rdD_hit (hf v (by simp)) hA h
    have h2 := drop_app_len hA h
    simp only [nosF, List.map_cons, rdFs]
    rw [h1, if_pos rfl]
    have := rdFs_hit (F := F ++ [(v.1, v.2.1, ())]) (fun u hu => hf u (by simp [hu])) h2.1 h2.2
    simp only
    rw [show r.map (fun v => v.1) = nosF r from rfl, this, List.flatMap_cons, List.length_append, Nat.add_assoc]
    have hv : (v.1, v.2.1, ()) = v := by obtain ⟨a, b, ⟨⟩⟩ := v; rfl
    rw [hv, List.append_assoc]; rfl
theorem rdFs_inv {b : List UInt8} : ∀ {ns : List Int} {A : Nat} {F F' : List V} {a' : Int}, A ≤ b.length → rdFs b ns A F = (none, a', F') → ∃ l : List V, F' = F ++ l ∧ nosF l = ns ∧ (∀ v ∈ l, fitsD v.1 v.2.1 = true) ∧ a' = ((A + (l.flatMap wrV).length : Nat) : Int) ∧ A + (l.flatMap wrV).length ≤ b.length ∧ b.drop A = l.flatMap wrV ++ b.drop (A + (l.flatMap wrV).length)
  | [], A, F, F', a', hA, h => by
    simp only [rdFs, Prod.mk.injEq, true_and] at h
    obtain ⟨rfl, rfl⟩ := h
    exact ⟨[], by simp, rfl, by simp, by simp, by simpa using hA, by simp⟩
  | n :: r, A, F, F', a', hA, h => by
    simp only [rdFs] at h
    by_cases h0 : (rdD n b A).2.2.1 = 0
    · rw [if_pos h0] at h
      rcases hx : rdD n b A with ⟨v, I, e, u⟩
      rw [hx] at h0 h
      simp only at h0
      subst h0
      obtain ⟨m1, m2, m3, m4⟩ := rdD_inv hA hx
      subst m2
      obtain ⟨l, l1, l2, l3, l4, l5, l6⟩ := rdFs_inv m3 h
      refine ⟨(n, v, ()) :: l, by rw [l1]; simp, by simp only [nosF, List.map_cons]; rw [← l2]; rfl, fun w hw => ?_, ?_, ?_, ?_⟩
      · rcases List.mem_cons.1 hw with rfl | hw
        · exact m1
        · exact l3 w hw
      · rw [l4, List.flatMap_cons, List.length_append]; omega
      · rw [List.flatMap_cons, List.length_append]; omega
      · rw [List.flatMap_cons, List.length_append, List.append_assoc, ← Nat.add_assoc, ← l6]; exact m4
    · rw [if_neg h0] at h; simp at h
theorem rdFs_cut {b : List UInt8} : ∀ {l : List V} {A c : Nat} {F : List V}, (∀ v ∈ l, fitsD v.1 v.2.1 = true) → A ≤ b.length → c < (l.flatMap wrV).length → b.drop A = (l.flatMap wrV).take c → (rdFs b (nosF l) A F).1 = some 3
  | [], A, c, F, _, _, hc, _ => by simp at hc
  | v :: r, A, c, F, hf, hA, hc, h => by
    rw [List.flatMap_cons] at h hc
    simp only [nosF, List.map_cons, rdFs]
    by_cases hlt : c < (wrV v).length
    · rw [List.take_append_of_le_length (by omega)] at h
      rw [rdD_cut (hf v (by simp)) hA hlt h, if_neg (by simp)]
    · rw [List.take_append, List.take_of_length_le (by omega)] at h
      have h1 := rdD_hit (hf v (by simp)) hA h
      have h2 := drop_app_len hA h
      rw [h1, if_pos rfl]
      rw [List.length_append] at hc
      exact rdFs_cut (fun u hu => hf u (by simp [hu])) h2.1 (by omega) h2.2
theorem rightF_of {l : List V} : ∀ {last : Int}, rightL last (nosF l) = true → (∀ v ∈ l, fitsD v.1 v.2.1 = true) → rightF last l = true := by
  induction l with
  | nil => intros; rfl
  | cons x r ih =>
    intro last h hf
    simp only [nosF, List.map_cons, rightL, Bool.and_eq_true, decide_eq_true_eq] at h
    simp only [rightF, Bool.and_eq_true, decide_eq_true_eq]
    exact ⟨h.1.1, hf x (by simp), ih h.2 fun v hv => hf v (by simp [hv])⟩
theorem rightF_weak {l : List V} {last last' : Int} (hl : last' ≤ last) (h : rightF last l = true) : rightF last' l = true := by
  cases l with
  | nil => rfl
  | cons x r =>
    simp only [rightF, Bool.and_eq_true, decide_eq_true_eq] at h ⊢
    exact ⟨by omega, h.2⟩
theorem rdFs_err {b : List UInt8} : ∀ {ns : List Int} {A : Int} {F F' : List V} {a' e : Int}, rdFs b ns A F = (some e, a', F') → ¬ e = 0
  | [], A, F, F', a', e, h => by simp [rdFs] at h
  | n :: r, A, F, F', a', e, h => by
    simp only [rdFs] at h
    by_cases h0 : (rdD n b A).2.2.1 = 0
    · rw [if_pos h0] at h; exact rdFs_err h
    · rw [if_neg h0] at h
      simp only [Prod.mk.injEq, Option.some.injEq] at h
      rw [← h.1]; exact h0
theorem val4 {m : Int} (h : typeOK m) : val (ps 10 dch m.toNat 4) = m.toNat := by
  unfold typeOK at h
  rw [val_ps, Nat.mod_eq_of_lt (by omega)]
theorem take4_hit {m : Int} {b q : List UInt8} (h : typeOK m) (hb : b = typB m ++ q) : takeBcd b 0 4 = (ps 10 dch m.toNat 4, 2, 0, ()) := by
  have := takeBcd_hit (b := b) (s := ps 10 dch m.toNat 4) (q := q) (I := 0) (Nat.zero_le _) (by rw [ps_length]; omega) figs_ps hb
  rw [ps_length] at this; exact this
theorem isSome_of {l : List V} (h : ∀ v ∈ l, fitsD v.1 v.2.1 = true) : ∀ n ∈ nosF l, (formOf n).isSome = true := by
  intro n hn
  obtain ⟨v, hv, rfl⟩ := List.mem_map.1 hn
  obtain ⟨k, l, ho, _⟩ := fitsD_iff.1 (h v hv)
  rw [ho]; rfl
theorem rightM_iff {m : M} : rightM m = true ↔ rightF 0 m.2.1 = true ∧ typeOK m.1 := by unfold rightM; rw [Bool.and_eq_true, decide_eq_true_eq]
theorem rdM_hit {m : M} {q : List UInt8} (h : rightM m = true) : rdM (wrM m ++ q) = if q = [] then (m, 0, ()) else (noM, 4, ()) := by
  obtain ⟨hF, ht⟩ := rightM_iff.1 h
  have hfit := fun v hv => (rightF_mem hF v hv).2
  have hL := rightF_L1 hF
  have e : wrM m ++ q = typB m.1 ++ (bmW (nosF m.2.1) ++ (m.2.1.flatMap wrV ++ q)) := by unfold wrM; simp
  generalize hb : wrM m ++ q = b at *
  have h4 := take4_hit ht e
  have htl := typB_length (m := m.1)
  have hd := drop_app_len (b := b) (A := 0) (Nat.zero_le _) e
  rw [Nat.zero_add, htl] at hd
  have hr := bmR_hit hL hd.1 hd.2
  have hd2 := drop_app_len hd.1 hd.2
  have hfs := rdFs_hit (F := []) hfit hd2.1 hd2.2
  have hd3 := drop_app_len hd2.1 hd2.2
  have hbl := drop_len hd3.1 hd3.2
  unfold rdM
  rw [h4, if_neg (by simp)]
  simp only
  rw [val4 ht, Int.toNat_of_nonneg (by unfold typeOK at ht; omega), if_pos ht]
  replace hr : bmR b 2 = _ := hr
  rw [hr, if_neg (by simp)]
  unfold rdE
  rw [if_pos (isSome_of hfit), hfs]
  simp only [List.nil_append]
  by_cases hq : q = []
  · subst hq
    rw [List.length_nil] at hbl
    rw [if_pos rfl, if_neg (by omega)]
  · rw [if_neg hq, if_pos (by have := List.length_pos_iff.2 hq; omega)]
theorem rdM_inv {b : List UInt8} {m : M} (h : rdM b = (m, 0, ())) : rightM m = true ∧ wrM m = b := by
  unfold rdM at h
  by_cases h0 : (takeBcd b 0 4).2.2.1 ≠ 0
  · rw [if_pos h0] at h
    simp only [Prod.mk.injEq, and_true] at h
    exact absurd h.2 h0
  rw [if_neg h0] at h
  rcases takeBcd_cases (b := b) (I := 0) (N := 4) (Nat.zero_le _) (by omega) with ⟨_, e⟩ | ⟨_, e, _⟩ | ⟨s, h4, e, hf, hs, htk⟩
  · exact absurd (by rw [show takeBcd b 0 4 = _ from e]; simp) h0
  · exact absurd (by rw [show takeBcd b 0 4 = _ from e]; simp) h0
  · replace e : takeBcd b 0 4 = (s, 2, 0, ()) := e
    rw [e] at h
    simp only at h
    by_cases ht : typeOK (val s : Int)
    · rw [if_pos ht] at h
      have hty : typB (val s : Int) = bcd (pad s) := by unfold typB; rw [Int.toNat_natCast, ← hs, ps_val hf]
      have hd : b.drop 0 = typB (val s : Int) ++ b.drop 2 := by rw [hty]; exact drop_of_tk htk
      rw [List.drop_zero] at hd
      by_cases hz : (bmR b 2).2.2.1 ≠ 0
      · rw [if_pos hz] at h
        simp only [Prod.mk.injEq, and_true] at h
        exact absurd h.2 hz
      rw [if_neg hz] at h
      rcases hx : bmR b 2 with ⟨l, a', er, u⟩
      rw [hx] at h hz
      simp only [ne_eq, Decidable.not_not] at hz h
      subst hz
      have hC : bmC (b.drop 2) 2 = (l, a', 0, ()) := by
        unfold bmR at hx
        rw [if_neg (by omega)] at hx; exact hx
      obtain ⟨c1, c2, c3, c4⟩ := bmC_inv hC
      rw [List.length_drop] at c3
      rw [List.drop_drop] at c4
      unfold rdE at h
      by_cases ho : ∀ n ∈ l, (formOf n).isSome = true
      · rw [if_pos ho] at h
        have ha' : a' = ((2 + (bmW l).length : Nat) : Int) := by omega
        rw [ha'] at h
        rcases hfs : rdFs b l ((2 + (bmW l).length : Nat) : Int) [] with ⟨_ | er, a2, F⟩
        · rw [hfs] at h
          simp only at h
          obtain ⟨L, l1, l2, l3, l4, l5, l6⟩ := rdFs_inv (by omega) hfs
          by_cases hlt : a2 < (b.length : Int)
          · rw [if_pos hlt] at h; simp at h
          rw [if_neg hlt] at h
          simp only [Prod.mk.injEq, and_true] at h
          rw [List.nil_append] at l1
          subst l1
          have hend : b.drop (2 + (bmW l).length + (F.flatMap wrV).length) = [] := List.drop_eq_nil_of_le (by omega)
          rw [hend, List.append_nil] at l6
          rw [← h]
          refine ⟨rightM_iff.2 ⟨rightF_weak (by omega) (rightF_of (last := 1) (by rw [l2]; exact c1) l3), ht⟩, ?_⟩
          unfold wrM
          simp only
          rw [l2, ← l6, ← c4, ← hd]
        · rw [hfs] at h
          simp only [Prod.mk.injEq, and_true] at h
          exact absurd h.2 (rdFs_err hfs)
      · rw [if_neg ho] at h; simp at h
    · rw [if_neg ht] at h; simp at h
theorem rdM_cut {m : M} {c : Nat} (h : rightM m = true) (hc : c < (wrM m).length) : rdM ((wrM m).take c) = (noM, 3, ()) := by
  obtain ⟨hF, ht⟩ := rightM_iff.1 h
  have hfit := fun v hv => (rightF_mem hF v hv).2
  have hL := rightF_L1 hF
  have htl := typB_length (m := m.1)
  generalize hb : (wrM m).take c = b
  have hbl : b.length = c := by rw [← hb, List.length_take]; omega
  unfold rdM
  by_cases h2 : c < 2
  · rcases takeBcd_cases (b := b) (I := 0) (N := 4) (Nat.zero_le _) (by omega) with ⟨_, e⟩ | ⟨h3, _⟩ | ⟨s, h3, _⟩
    · rw [show takeBcd b 0 4 = _ from e]; rfl
    · omega
    · omega
  · have e : b = typB m.1 ++ (bmW (nosF m.2.1) ++ m.2.1.flatMap wrV).take (c - 2) := by
      rw [← hb]; unfold wrM; rw [List.take_append, List.take_of_length_le (by omega), htl]
    have h4 := take4_hit ht e
    have hd := drop_app_len (b := b) (A := 0) (Nat.zero_le _) e
    rw [Nat.zero_add, htl] at hd
    rw [h4, if_neg (by simp)]
    simp only
    rw [val4 ht, Int.toNat_of_nonneg (by unfold typeOK at ht; omega), if_pos ht]
    by_cases hbm : c - 2 < (bmW (nosF m.2.1)).length
    · have : bmR b 2 = ([], 0, 3, ()) := by
        unfold bmR
        rw [if_neg (by omega)]
        refine bmC_cut hL hbm ?_
        rw [← List.take_append_of_le_length (by omega)]; exact hd.2
      rw [this]; rfl
    · have hd2 := hd.2
      rw [List.take_append, List.take_of_length_le (show (bmW (nosF m.2.1)).length ≤ c - 2 by omega)] at hd2
      have hr := bmR_hit hL hd.1 hd2
      replace hr : bmR b 2 = _ := hr
      rw [hr, if_neg (by simp)]
      have hd3 := drop_app_len hd.1 hd2
      unfold rdE
      rw [if_pos (isSome_of hfit)]
      have hcut := rdFs_cut (F := []) hfit hd3.1 (c := c - 2 - (bmW (nosF m.2.1)).length) (by
        unfold wrM at hc; rw [List.length_append, List.length_append] at hc; omega) hd3.2
      rcases hfs : rdFs b (nosF m.2.1) ((2 + (bmW (nosF m.2.1)).length : Nat) : Int) [] with ⟨_ | er, a2, F⟩
      · rw [hfs] at hcut; cases hcut
      · rw [hfs] at hcut; cases hcut; rfl
theorem rdM_err {b : List UInt8} : (rdM b).2.1 = 0 ∨ (rdM b).1 = noM := by
  unfold rdM
  by_cases h0 : (takeBcd b 0 4).2.2.1 ≠ 0
  · rw [if_pos h0]; exact .inr rfl
  rw [if_neg h0]
  by_cases ht : typeOK (val (takeBcd b 0 4).1 : Int)
  · rw [if_pos ht]
    by_cases hz : (bmR b 2).2.2.1 ≠ 0
    · rw [if_pos hz]; exact .inr rfl
    rw [if_neg hz]
    unfold rdE
    split
    · rcases rdFs b (bmR b 2).1 (bmR b 2).2.1 [] with ⟨_ | er, a2, F⟩
      · simp only
        split
        · exact .inr rfl
        · exact .inl rfl
      · exact .inr rfl
    · exact .inr rfl
  · rw [if_neg ht]; exact .inr rfl
end Yp
