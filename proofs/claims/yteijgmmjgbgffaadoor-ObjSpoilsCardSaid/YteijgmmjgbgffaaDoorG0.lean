/- The types of the program and the calls of its functions, as the reckoner has them. -/
import Derived.Test.YteijgmmjgbgffaaDoorProg
import Derived.Test.YteijgmmjgbgffaaDoorVcUse
namespace Go.Proofs.YteijgmmjgbgffaaDoor
open Go.V
noncomputable section
@[reducible] noncomputable def prog : Program := Tryd.prog
theorem mix : prog.follows .mixedOrders = true := by kernel_rfl
instance : Sp := ⟨fun t => Nat.beq t 5 || Nat.beq t 108⟩
abbrev ty_unit : TypeId := 0
abbrev ty_int : TypeId := 3
abbrev ty_bool : TypeId := 4
abbrev ty_uint8 : TypeId := 5
abbrev ty_string : TypeId := 9
abbrev ty_sl_string : TypeId := 22
abbrev ty_sl_api_Pair : TypeId := 23
abbrev ty_api_Obj : TypeId := 27
abbrev ty_p_centoref2_Rel : TypeId := 28
abbrev ty_p_rel_Rel : TypeId := 30
abbrev ty_api_Errno : TypeId := 31
abbrev ty_p_rel_Rel_api_Errno : TypeId := 32
abbrev ty_api_Obj_api_Errno : TypeId := 35
abbrev ty_sl_sl_bool : TypeId := 46
abbrev ty_centoref2_Rel : TypeId := 48
abbrev ty_api_Pair : TypeId := 50
abbrev ty_sl_uint8 : TypeId := 53
abbrev ty_funcint_int_bool : TypeId := 54
abbrev ty_sl_api_Line : TypeId := 57
abbrev ty_api_File : TypeId := 59
abbrev ty_string_bool : TypeId := 61
abbrev ty_sl_api_Shown : TypeId := 63
abbrev ty_uint32 : TypeId := 65
abbrev ty_api_LineID : TypeId := 67
abbrev ty_api_Shown : TypeId := 69
abbrev ty_sl_int : TypeId := 71
abbrev ty_api_Line : TypeId := 76
abbrev ty_funcint_bool : TypeId := 80
abbrev ty_sl_bool : TypeId := 81
abbrev ty_p_bits_Row : TypeId := 82
abbrev ty_sl_p_bits_Row : TypeId := 83
abbrev ty_rel_Rel : TypeId := 85
abbrev ty_iter_Seq_api_Pair : TypeId := 94
abbrev ty_iter_Seq2_int_int : TypeId := 97
abbrev ty_p_centoref2_Rel_int : TypeId := 99
abbrev ty_p_strings_Builder : TypeId := 106
abbrev ty_strings_Builder : TypeId := 108
abbrev ty_iter_Seq2_int_uint8 : TypeId := 110
abbrev ty_error : TypeId := 113
abbrev ty_int_error : TypeId := 114
abbrev ty_p_centoref2_Rel_sl_int : TypeId := 117
abbrev ty_sl_int_p_rel_Rel : TypeId := 120
abbrev ty_uint64 : TypeId := 124
abbrev ty_sl_uint64 : TypeId := 125
abbrev ty_bits_Row : TypeId := 127
abbrev ty_funcstring_bool : TypeId := 129
abbrev ty_funcapi_Pair_bool : TypeId := 133
abbrev ty_iter_Seq_int : TypeId := 135
abbrev ty_funcint_uint8_bool : TypeId := 138
abbrev ty_p_uint8 : TypeId := 141
abbrev ty_sl_sl_int : TypeId := 142
abbrev ty_unsafe_Pointer : TypeId := 150
abbrev ty_64_uint8 : TypeId := 153
def te_unit : TE := ⟨.tup [], 1, 0, [], [], []⟩
theorem te_unit.ok : TSpec prog 0 te_unit := TSpec.tup (i := Tryd.t0) (by kernel_rfl) (by kernel_rfl) (by kernel_rfl) (by kernel_rfl) (by kernel_rfl)
def te_int : TE := ⟨.sc, 1, 8, [.int .i64], [.int .i64 (0 : Int)], []⟩
theorem te_int.ok : TSpec prog 3 te_int := TSpec.sc (i := Tryd.t3) (d := descOf Tryd.t3) (by kernel_rfl) (by kernel_rfl) (by kernel_rfl) (by kernel_rfl) (by kernel_rfl) (by kernel_rfl) (by kernel_rfl) (by kernel_rfl) (by kernel_rfl)
def te_bool : TE := ⟨.sc, 1, 1, [.bool], [.bool false], []⟩
theorem te_bool.ok : TSpec prog 4 te_bool := TSpec.sc (i := Tryd.t4) (d := descOf Tryd.t4) (by kernel_rfl) (by kernel_rfl) (by kernel_rfl) (by kernel_rfl) (by kernel_rfl) (by kernel_rfl) (by kernel_rfl) (by kernel_rfl) (by kernel_rfl)
def te_uint8 : TE := ⟨.sc, 1, 1, [.int .u8], [.int .u8 (0 : Int)], [tyM 5 0 0]⟩
theorem te_uint8.ok : TSpec prog 5 te_uint8 := TSpec.sc (i := Tryd.t5) (d := descOf Tryd.t5) (by kernel_rfl) (by kernel_rfl) (by kernel_rfl) (by kernel_rfl) (by kernel_rfl) (by kernel_rfl) (by kernel_rfl) (by kernel_rfl) (by kernel_rfl)
def te_string : TE := ⟨.sc, 1, 16, [.str], [.string .empty], []⟩
theorem te_string.ok : TSpec prog 9 te_string := TSpec.sc (i := Tryd.t9) (d := descOf Tryd.t9) (by kernel_rfl) (by kernel_rfl) (by kernel_rfl) (by kernel_rfl) (by kernel_rfl) (by kernel_rfl) (by kernel_rfl) (by kernel_rfl) (by kernel_rfl)
def te_sl_string : TE := ⟨.sl 9, 1, 24, [.slice], [.slice none 0 0], []⟩
theorem te_sl_string.ok : TSpec prog 22 te_sl_string := TSpec.sl (i := Tryd.t22) (by kernel_rfl) (by kernel_rfl) (by kernel_rfl) (by kernel_rfl) (by kernel_rfl) (by kernel_rfl)
def te_sl_api_Pair : TE := ⟨.sl 50, 1, 24, [.slice], [.slice none 0 0], []⟩
theorem te_sl_api_Pair.ok : TSpec prog 23 te_sl_api_Pair := TSpec.sl (i := Tryd.t23) (by kernel_rfl) (by kernel_rfl) (by kernel_rfl) (by kernel_rfl) (by kernel_rfl) (by kernel_rfl)
def te_api_Obj : TE := ⟨.st [(0, 22), (1, 23)], 2, 48, [.slice, .slice], [.slice none 0 0, .slice none 0 0], []⟩
theorem te_api_Obj.ok : TSpec prog 27 te_api_Obj := TSpec.st (i := Tryd.t27) (fields := structOf Tryd.t26) (by kernel_rfl) (by kernel_rfl) (by kernel_rfl) (by kernel_rfl) (by kernel_rfl) (by kernel_rfl) (by kernel_rfl) (by kernel_rfl) (by kernel_rfl) (by kernel_rfl) (by kernel_rfl) (by kernel_rfl) (by kernel_rfl)
def te_p_centoref2_Rel : TE := ⟨.sc, 1, 8, [.ptr], [.pointer none], []⟩
theorem te_p_centoref2_Rel.ok : TSpec prog 28 te_p_centoref2_Rel := TSpec.sc (i := Tryd.t28) (d := descOf Tryd.t28) (by kernel_rfl) (by kernel_rfl) (by kernel_rfl) (by kernel_rfl) (by kernel_rfl) (by kernel_rfl) (by kernel_rfl) (by kernel_rfl) (by kernel_rfl)
def te_p_rel_Rel : TE := ⟨.sc, 1, 8, [.ptr], [.pointer none], []⟩
theorem te_p_rel_Rel.ok : TSpec prog 30 te_p_rel_Rel := TSpec.sc (i := Tryd.t30) (d := descOf Tryd.t30) (by kernel_rfl) (by kernel_rfl) (by kernel_rfl) (by kernel_rfl) (by kernel_rfl) (by kernel_rfl) (by kernel_rfl) (by kernel_rfl) (by kernel_rfl)
def te_api_Errno : TE := ⟨.sc, 1, 8, [.int .i64], [.int .i64 (0 : Int)], []⟩
theorem te_api_Errno.ok : TSpec prog 31 te_api_Errno := TSpec.sc (i := Tryd.t31) (d := descOf Tryd.t3) (by kernel_rfl) (by kernel_rfl) (by kernel_rfl) (by kernel_rfl) (by kernel_rfl) (by kernel_rfl) (by kernel_rfl) (by kernel_rfl) (by kernel_rfl)
def te_p_rel_Rel_api_Errno : TE := ⟨.tup [30, 31], 1, 0, [], [], []⟩
theorem te_p_rel_Rel_api_Errno.ok : TSpec prog 32 te_p_rel_Rel_api_Errno := TSpec.tup (i := Tryd.t32) (by kernel_rfl) (by kernel_rfl) (by kernel_rfl) (by kernel_rfl) (by kernel_rfl)
def te_api_Obj_api_Errno : TE := ⟨.tup [27, 31], 1, 0, [], [], []⟩
theorem te_api_Obj_api_Errno.ok : TSpec prog 35 te_api_Obj_api_Errno := TSpec.tup (i := Tryd.t35) (by kernel_rfl) (by kernel_rfl) (by kernel_rfl) (by kernel_rfl) (by kernel_rfl)
def te_sl_sl_bool : TE := ⟨.sl 81, 1, 24, [.slice], [.slice none 0 0], []⟩
theorem te_sl_sl_bool.ok : TSpec prog 46 te_sl_sl_bool := TSpec.sl (i := Tryd.t46) (by kernel_rfl) (by kernel_rfl) (by kernel_rfl) (by kernel_rfl) (by kernel_rfl) (by kernel_rfl)
def te_centoref2_Rel : TE := ⟨.st [(0, 3), (1, 46)], 2, 32, [.int .i64, .slice], [.int .i64 (0 : Int), .slice none 0 0], []⟩
theorem te_centoref2_Rel.ok : TSpec prog 48 te_centoref2_Rel := TSpec.st (i := Tryd.t48) (fields := structOf Tryd.t47) (by kernel_rfl) (by kernel_rfl) (by kernel_rfl) (by kernel_rfl) (by kernel_rfl) (by kernel_rfl) (by kernel_rfl) (by kernel_rfl) (by kernel_rfl) (by kernel_rfl) (by kernel_rfl) (by kernel_rfl) (by kernel_rfl)
def te_api_Pair : TE := ⟨.st [(0, 3), (1, 3)], 2, 16, [.int .i64, .int .i64], [.int .i64 (0 : Int), .int .i64 (0 : Int)], []⟩
theorem te_api_Pair.ok : TSpec prog 50 te_api_Pair := TSpec.st (i := Tryd.t50) (fields := structOf Tryd.t49) (by kernel_rfl) (by kernel_rfl) (by kernel_rfl) (by kernel_rfl) (by kernel_rfl) (by kernel_rfl) (by kernel_rfl) (by kernel_rfl) (by kernel_rfl) (by kernel_rfl) (by kernel_rfl) (by kernel_rfl) (by kernel_rfl)
def te_sl_uint8 : TE := ⟨.sl 5, 1, 24, [.slice], [.slice none 0 0], []⟩
theorem te_sl_uint8.ok : TSpec prog 53 te_sl_uint8 := TSpec.sl (i := Tryd.t53) (by kernel_rfl) (by kernel_rfl) (by kernel_rfl) (by kernel_rfl) (by kernel_rfl) (by kernel_rfl)
def te_funcint_int_bool : TE := ⟨.sc, 1, 8, [.any], [.nilFunc], []⟩
theorem te_funcint_int_bool.ok : TSpec prog 54 te_funcint_int_bool := TSpec.sc (i := Tryd.t54) (d := descOf Tryd.t54) (by kernel_rfl) (by kernel_rfl) (by kernel_rfl) (by kernel_rfl) (by kernel_rfl) (by kernel_rfl) (by kernel_rfl) (by kernel_rfl) (by kernel_rfl)
def te_sl_api_Line : TE := ⟨.sl 76, 1, 24, [.slice], [.slice none 0 0], []⟩
theorem te_sl_api_Line.ok : TSpec prog 57 te_sl_api_Line := TSpec.sl (i := Tryd.t57) (by kernel_rfl) (by kernel_rfl) (by kernel_rfl) (by kernel_rfl) (by kernel_rfl) (by kernel_rfl)
def te_api_File : TE := ⟨.st [(0, 9), (1, 57), (2, 23)], 3, 64, [.str, .slice, .slice], [.string .empty, .slice none 0 0, .slice none 0 0], []⟩
theorem te_api_File.ok : TSpec prog 59 te_api_File := TSpec.st (i := Tryd.t59) (fields := structOf Tryd.t58) (by kernel_rfl) (by kernel_rfl) (by kernel_rfl) (by kernel_rfl) (by kernel_rfl) (by kernel_rfl) (by kernel_rfl) (by kernel_rfl) (by kernel_rfl) (by kernel_rfl) (by kernel_rfl) (by kernel_rfl) (by kernel_rfl)
def te_string_bool : TE := ⟨.tup [9, 4], 1, 0, [], [], []⟩
theorem te_string_bool.ok : TSpec prog 61 te_string_bool := TSpec.tup (i := Tryd.t61) (by kernel_rfl) (by kernel_rfl) (by kernel_rfl) (by kernel_rfl) (by kernel_rfl)
def te_sl_api_Shown : TE := ⟨.sl 69, 1, 24, [.slice], [.slice none 0 0], []⟩
theorem te_sl_api_Shown.ok : TSpec prog 63 te_sl_api_Shown := TSpec.sl (i := Tryd.t63) (by kernel_rfl) (by kernel_rfl) (by kernel_rfl) (by kernel_rfl) (by kernel_rfl) (by kernel_rfl)
def te_uint32 : TE := ⟨.sc, 1, 4, [.int .u32], [.int .u32 (0 : Int)], []⟩
theorem te_uint32.ok : TSpec prog 65 te_uint32 := TSpec.sc (i := Tryd.t65) (d := descOf Tryd.t65) (by kernel_rfl) (by kernel_rfl) (by kernel_rfl) (by kernel_rfl) (by kernel_rfl) (by kernel_rfl) (by kernel_rfl) (by kernel_rfl) (by kernel_rfl)
def te_api_LineID : TE := ⟨.st [(0, 65), (1, 3)], 2, 16, [.int .u32, .int .i64], [.int .u32 (0 : Int), .int .i64 (0 : Int)], []⟩
theorem te_api_LineID.ok : TSpec prog 67 te_api_LineID := TSpec.st (i := Tryd.t67) (fields := structOf Tryd.t66) (by kernel_rfl) (by kernel_rfl) (by kernel_rfl) (by kernel_rfl) (by kernel_rfl) (by kernel_rfl) (by kernel_rfl) (by kernel_rfl) (by kernel_rfl) (by kernel_rfl) (by kernel_rfl) (by kernel_rfl) (by kernel_rfl)
def te_api_Shown : TE := ⟨.st [(0, 67), (2, 5), (3, 9)], 4, 40, [.int .u32, .int .i64, .int .u8, .str], [.int .u32 (0 : Int), .int .i64 (0 : Int), .int .u8 (0 : Int), .string .empty], []⟩
theorem te_api_Shown.ok : TSpec prog 69 te_api_Shown := TSpec.st (i := Tryd.t69) (fields := structOf Tryd.t68) (by kernel_rfl) (by kernel_rfl) (by kernel_rfl) (by kernel_rfl) (by kernel_rfl) (by kernel_rfl) (by kernel_rfl) (by kernel_rfl) (by kernel_rfl) (by kernel_rfl) (by kernel_rfl) (by kernel_rfl) (by kernel_rfl)
def te_sl_int : TE := ⟨.sl 3, 1, 24, [.slice], [.slice none 0 0], []⟩
theorem te_sl_int.ok : TSpec prog 71 te_sl_int := TSpec.sl (i := Tryd.t71) (by kernel_rfl) (by kernel_rfl) (by kernel_rfl) (by kernel_rfl) (by kernel_rfl) (by kernel_rfl)
def te_api_Line : TE := ⟨.st [(0, 67), (2, 9), (3, 4)], 4, 40, [.int .u32, .int .i64, .str, .bool], [.int .u32 (0 : Int), .int .i64 (0 : Int), .string .empty, .bool false], []⟩
theorem te_api_Line.ok : TSpec prog 76 te_api_Line := TSpec.st (i := Tryd.t76) (fields := structOf Tryd.t75) (by kernel_rfl) (by kernel_rfl) (by kernel_rfl) (by kernel_rfl) (by kernel_rfl) (by kernel_rfl) (by kernel_rfl) (by kernel_rfl) (by kernel_rfl) (by kernel_rfl) (by kernel_rfl) (by kernel_rfl) (by kernel_rfl)
def te_funcint_bool : TE := ⟨.sc, 1, 8, [.any], [.nilFunc], []⟩
theorem te_funcint_bool.ok : TSpec prog 80 te_funcint_bool := TSpec.sc (i := Tryd.t80) (d := descOf Tryd.t80) (by kernel_rfl) (by kernel_rfl) (by kernel_rfl) (by kernel_rfl) (by kernel_rfl) (by kernel_rfl) (by kernel_rfl) (by kernel_rfl) (by kernel_rfl)
def te_sl_bool : TE := ⟨.sl 4, 1, 24, [.slice], [.slice none 0 0], []⟩
theorem te_sl_bool.ok : TSpec prog 81 te_sl_bool := TSpec.sl (i := Tryd.t81) (by kernel_rfl) (by kernel_rfl) (by kernel_rfl) (by kernel_rfl) (by kernel_rfl) (by kernel_rfl)
def te_p_bits_Row : TE := ⟨.sc, 1, 8, [.ptr], [.pointer none], []⟩
theorem te_p_bits_Row.ok : TSpec prog 82 te_p_bits_Row := TSpec.sc (i := Tryd.t82) (d := descOf Tryd.t82) (by kernel_rfl) (by kernel_rfl) (by kernel_rfl) (by kernel_rfl) (by kernel_rfl) (by kernel_rfl) (by kernel_rfl) (by kernel_rfl) (by kernel_rfl)
def te_sl_p_bits_Row : TE := ⟨.sl 82, 1, 24, [.slice], [.slice none 0 0], []⟩
theorem te_sl_p_bits_Row.ok : TSpec prog 83 te_sl_p_bits_Row := TSpec.sl (i := Tryd.t83) (by kernel_rfl) (by kernel_rfl) (by kernel_rfl) (by kernel_rfl) (by kernel_rfl) (by kernel_rfl)
def te_rel_Rel : TE := ⟨.st [(0, 83)], 1, 24, [.slice], [.slice none 0 0], []⟩
theorem te_rel_Rel.ok : TSpec prog 85 te_rel_Rel := TSpec.st (i := Tryd.t85) (fields := structOf Tryd.t84) (by kernel_rfl) (by kernel_rfl) (by kernel_rfl) (by kernel_rfl) (by kernel_rfl) (by kernel_rfl) (by kernel_rfl) (by kernel_rfl) (by kernel_rfl) (by kernel_rfl) (by kernel_rfl) (by kernel_rfl) (by kernel_rfl)
def te_iter_Seq_api_Pair : TE := ⟨.sc, 1, 8, [.any], [.nilFunc], []⟩
theorem te_iter_Seq_api_Pair.ok : TSpec prog 94 te_iter_Seq_api_Pair := TSpec.sc (i := Tryd.t94) (d := descOf Tryd.t93) (by kernel_rfl) (by kernel_rfl) (by kernel_rfl) (by kernel_rfl) (by kernel_rfl) (by kernel_rfl) (by kernel_rfl) (by kernel_rfl) (by kernel_rfl)
def te_iter_Seq2_int_int : TE := ⟨.sc, 1, 8, [.any], [.nilFunc], []⟩
theorem te_iter_Seq2_int_int.ok : TSpec prog 97 te_iter_Seq2_int_int := TSpec.sc (i := Tryd.t97) (d := descOf Tryd.t96) (by kernel_rfl) (by kernel_rfl) (by kernel_rfl) (by kernel_rfl) (by kernel_rfl) (by kernel_rfl) (by kernel_rfl) (by kernel_rfl) (by kernel_rfl)
def te_p_centoref2_Rel_int : TE := ⟨.tup [28, 3], 1, 0, [], [], []⟩
theorem te_p_centoref2_Rel_int.ok : TSpec prog 99 te_p_centoref2_Rel_int := TSpec.tup (i := Tryd.t99) (by kernel_rfl) (by kernel_rfl) (by kernel_rfl) (by kernel_rfl) (by kernel_rfl)
def te_p_strings_Builder : TE := ⟨.sc, 1, 8, [.ptr], [.pointer none], []⟩
theorem te_p_strings_Builder.ok : TSpec prog 106 te_p_strings_Builder := TSpec.sc (i := Tryd.t106) (d := descOf Tryd.t106) (by kernel_rfl) (by kernel_rfl) (by kernel_rfl) (by kernel_rfl) (by kernel_rfl) (by kernel_rfl) (by kernel_rfl) (by kernel_rfl) (by kernel_rfl)
def te_strings_Builder : TE := ⟨.st [(0, 106), (1, 53)], 2, 32, [.ptr, .slice], [.pointer none, .slice none 0 0], [tyM 108 0 0]⟩
theorem te_strings_Builder.ok : TSpec prog 108 te_strings_Builder := TSpec.st (i := Tryd.t108) (fields := structOf Tryd.t107) (by kernel_rfl) (by kernel_rfl) (by kernel_rfl) (by kernel_rfl) (by kernel_rfl) (by kernel_rfl) (by kernel_rfl) (by kernel_rfl) (by kernel_rfl) (by kernel_rfl) (by kernel_rfl) (by kernel_rfl) (by kernel_rfl)
def te_iter_Seq2_int_uint8 : TE := ⟨.sc, 1, 8, [.any], [.nilFunc], []⟩
theorem te_iter_Seq2_int_uint8.ok : TSpec prog 110 te_iter_Seq2_int_uint8 := TSpec.sc (i := Tryd.t110) (d := descOf Tryd.t109) (by kernel_rfl) (by kernel_rfl) (by kernel_rfl) (by kernel_rfl) (by kernel_rfl) (by kernel_rfl) (by kernel_rfl) (by kernel_rfl) (by kernel_rfl)
def te_error : TE := ⟨.sc, 1, 16, [.any], [.nilIface], []⟩
theorem te_error.ok : TSpec prog 113 te_error := TSpec.sc (i := Tryd.t113) (d := descOf Tryd.t112) (by kernel_rfl) (by kernel_rfl) (by kernel_rfl) (by kernel_rfl) (by kernel_rfl) (by kernel_rfl) (by kernel_rfl) (by kernel_rfl) (by kernel_rfl)
def te_int_error : TE := ⟨.tup [3, 113], 1, 0, [], [], []⟩
theorem te_int_error.ok : TSpec prog 114 te_int_error := TSpec.tup (i := Tryd.t114) (by kernel_rfl) (by kernel_rfl) (by kernel_rfl) (by kernel_rfl) (by kernel_rfl)
def te_p_centoref2_Rel_sl_int : TE := ⟨.tup [28, 71], 1, 0, [], [], []⟩
theorem te_p_centoref2_Rel_sl_int.ok : TSpec prog 117 te_p_centoref2_Rel_sl_int := TSpec.tup (i := Tryd.t117) (by kernel_rfl) (by kernel_rfl) (by kernel_rfl) (by kernel_rfl) (by kernel_rfl)
def te_sl_int_p_rel_Rel : TE := ⟨.tup [71, 30], 1, 0, [], [], []⟩
theorem te_sl_int_p_rel_Rel.ok : TSpec prog 120 te_sl_int_p_rel_Rel := TSpec.tup (i := Tryd.t120) (by kernel_rfl) (by kernel_rfl) (by kernel_rfl) (by kernel_rfl) (by kernel_rfl)
def te_uint64 : TE := ⟨.sc, 1, 8, [.int .u64], [.int .u64 (0 : Int)], []⟩
theorem te_uint64.ok : TSpec prog 124 te_uint64 := TSpec.sc (i := Tryd.t124) (d := descOf Tryd.t124) (by kernel_rfl) (by kernel_rfl) (by kernel_rfl) (by kernel_rfl) (by kernel_rfl) (by kernel_rfl) (by kernel_rfl) (by kernel_rfl) (by kernel_rfl)
def te_sl_uint64 : TE := ⟨.sl 124, 1, 24, [.slice], [.slice none 0 0], []⟩
theorem te_sl_uint64.ok : TSpec prog 125 te_sl_uint64 := TSpec.sl (i := Tryd.t125) (by kernel_rfl) (by kernel_rfl) (by kernel_rfl) (by kernel_rfl) (by kernel_rfl) (by kernel_rfl)
def te_bits_Row : TE := ⟨.st [(0, 3), (1, 125)], 2, 32, [.int .i64, .slice], [.int .i64 (0 : Int), .slice none 0 0], []⟩
theorem te_bits_Row.ok : TSpec prog 127 te_bits_Row := TSpec.st (i := Tryd.t127) (fields := structOf Tryd.t126) (by kernel_rfl) (by kernel_rfl) (by kernel_rfl) (by kernel_rfl) (by kernel_rfl) (by kernel_rfl) (by kernel_rfl) (by kernel_rfl) (by kernel_rfl) (by kernel_rfl) (by kernel_rfl) (by kernel_rfl) (by kernel_rfl)
def te_funcstring_bool : TE := ⟨.sc, 1, 8, [.any], [.nilFunc], []⟩
theorem te_funcstring_bool.ok : TSpec prog 129 te_funcstring_bool := TSpec.sc (i := Tryd.t129) (d := descOf Tryd.t129) (by kernel_rfl) (by kernel_rfl) (by kernel_rfl) (by kernel_rfl) (by kernel_rfl) (by kernel_rfl) (by kernel_rfl) (by kernel_rfl) (by kernel_rfl)
def te_funcapi_Pair_bool : TE := ⟨.sc, 1, 8, [.any], [.nilFunc], []⟩
theorem te_funcapi_Pair_bool.ok : TSpec prog 133 te_funcapi_Pair_bool := TSpec.sc (i := Tryd.t133) (d := descOf Tryd.t133) (by kernel_rfl) (by kernel_rfl) (by kernel_rfl) (by kernel_rfl) (by kernel_rfl) (by kernel_rfl) (by kernel_rfl) (by kernel_rfl) (by kernel_rfl)
def te_iter_Seq_int : TE := ⟨.sc, 1, 8, [.any], [.nilFunc], []⟩
theorem te_iter_Seq_int.ok : TSpec prog 135 te_iter_Seq_int := TSpec.sc (i := Tryd.t135) (d := descOf Tryd.t134) (by kernel_rfl) (by kernel_rfl) (by kernel_rfl) (by kernel_rfl) (by kernel_rfl) (by kernel_rfl) (by kernel_rfl) (by kernel_rfl) (by kernel_rfl)
def te_funcint_uint8_bool : TE := ⟨.sc, 1, 8, [.any], [.nilFunc], []⟩
theorem te_funcint_uint8_bool.ok : TSpec prog 138 te_funcint_uint8_bool := TSpec.sc (i := Tryd.t138) (d := descOf Tryd.t138) (by kernel_rfl) (by kernel_rfl) (by kernel_rfl) (by kernel_rfl) (by kernel_rfl) (by kernel_rfl) (by kernel_rfl) (by kernel_rfl) (by kernel_rfl)
def te_p_uint8 : TE := ⟨.sc, 1, 8, [.ptr], [.pointer none], []⟩
theorem te_p_uint8.ok : TSpec prog 141 te_p_uint8 := TSpec.sc (i := Tryd.t141) (d := descOf Tryd.t141) (by kernel_rfl) (by kernel_rfl) (by kernel_rfl) (by kernel_rfl) (by kernel_rfl) (by kernel_rfl) (by kernel_rfl) (by kernel_rfl) (by kernel_rfl)
def te_sl_sl_int : TE := ⟨.sl 71, 1, 24, [.slice], [.slice none 0 0], []⟩
theorem te_sl_sl_int.ok : TSpec prog 142 te_sl_sl_int := TSpec.sl (i := Tryd.t142) (by kernel_rfl) (by kernel_rfl) (by kernel_rfl) (by kernel_rfl) (by kernel_rfl) (by kernel_rfl)
def te_unsafe_Pointer : TE := ⟨.sc, 1, 8, [.ptr], [.pointer none], []⟩
theorem te_unsafe_Pointer.ok : TSpec prog 150 te_unsafe_Pointer := TSpec.sc (i := Tryd.t150) (d := descOf Tryd.t150) (by kernel_rfl) (by kernel_rfl) (by kernel_rfl) (by kernel_rfl) (by kernel_rfl) (by kernel_rfl) (by kernel_rfl) (by kernel_rfl) (by kernel_rfl)
def te_64_uint8 : TE := ⟨.ar 64 5, 64, 64, [], [.int .u8 (0 : Int), .int .u8 (0 : Int), .int .u8 (0 : Int), .int .u8 (0 : Int), .int .u8 (0 : Int), .int .u8 (0 : Int), .int .u8 (0 : Int), .int .u8 (0 : Int), .int .u8 (0 : Int), .int .u8 (0 : Int), .int .u8 (0 : Int), .int .u8 (0 : Int), .int .u8 (0 : Int), .int .u8 (0 : Int), .int .u8 (0 : Int), .int .u8 (0 : Int), .int .u8 (0 : Int), .int .u8 (0 : Int), .int .u8 (0 : Int), .int .u8 (0 : Int), .int .u8 (0 : Int), .int .u8 (0 : Int), .int .u8 (0 : Int), .int .u8 (0 : Int), .int .u8 (0 : Int), .int .u8 (0 : Int), .int .u8 (0 : Int), .int .u8 (0 : Int), .int .u8 (0 : Int), .int .u8 (0 : Int), .int .u8 (0 : Int), .int .u8 (0 : Int), .int .u8 (0 : Int), .int .u8 (0 : Int), .int .u8 (0 : Int), .int .u8 (0 : Int), .int .u8 (0 : Int), .int .u8 (0 : Int), .int .u8 (0 : Int), .int .u8 (0 : Int), .int .u8 (0 : Int), .int .u8 (0 : Int), .int .u8 (0 : Int), .int .u8 (0 : Int), .int .u8 (0 : Int), .int .u8 (0 : Int), .int .u8 (0 : Int), .int .u8 (0 : Int), .int .u8 (0 : Int), .int .u8 (0 : Int), .int .u8 (0 : Int), .int .u8 (0 : Int), .int .u8 (0 : Int), .int .u8 (0 : Int), .int .u8 (0 : Int), .int .u8 (0 : Int), .int .u8 (0 : Int), .int .u8 (0 : Int), .int .u8 (0 : Int), .int .u8 (0 : Int), .int .u8 (0 : Int), .int .u8 (0 : Int), .int .u8 (0 : Int), .int .u8 (0 : Int)], []⟩
theorem te_64_uint8.ok : TSpec prog 153 te_64_uint8 := TSpec.ar (i := Tryd.t153) (by kernel_rfl) (by kernel_rfl) (by kernel_rfl) (by kernel_rfl) (by kernel_rfl) (by kernel_rfl) (by kernel_rfl)
def tab : Tab := Tab.of [(0, te_unit), (3, te_int), (4, te_bool), (5, te_uint8), (9, te_string), (22, te_sl_string), (23, te_sl_api_Pair), (27, te_api_Obj), (28, te_p_centoref2_Rel), (30, te_p_rel_Rel), (31, te_api_Errno), (32, te_p_rel_Rel_api_Errno), (35, te_api_Obj_api_Errno), (46, te_sl_sl_bool), (48, te_centoref2_Rel), (50, te_api_Pair), (53, te_sl_uint8), (54, te_funcint_int_bool), (57, te_sl_api_Line), (59, te_api_File), (61, te_string_bool), (63, te_sl_api_Shown), (65, te_uint32), (67, te_api_LineID), (69, te_api_Shown), (71, te_sl_int), (76, te_api_Line), (80, te_funcint_bool), (81, te_sl_bool), (82, te_p_bits_Row), (83, te_sl_p_bits_Row), (85, te_rel_Rel), (94, te_iter_Seq_api_Pair), (97, te_iter_Seq2_int_int), (99, te_p_centoref2_Rel_int), (106, te_p_strings_Builder), (108, te_strings_Builder), (110, te_iter_Seq2_int_uint8), (113, te_error), (114, te_int_error), (117, te_p_centoref2_Rel_sl_int), (120, te_sl_int_p_rel_Rel), (124, te_uint64), (125, te_sl_uint64), (127, te_bits_Row), (129, te_funcstring_bool), (133, te_funcapi_Pair_bool), (135, te_iter_Seq_int), (138, te_funcint_uint8_bool), (141, te_p_uint8), (142, te_sl_sl_int), (150, te_unsafe_Pointer), (153, te_64_uint8)]
theorem tabOk : TOk prog tab := (TOk.cons te_unit.ok (TOk.cons te_int.ok (TOk.cons te_bool.ok (TOk.cons te_uint8.ok (TOk.cons te_string.ok (TOk.cons te_sl_string.ok (TOk.cons te_sl_api_Pair.ok (TOk.cons te_api_Obj.ok (TOk.cons te_p_centoref2_Rel.ok (TOk.cons te_p_rel_Rel.ok (TOk.cons te_api_Errno.ok (TOk.cons te_p_rel_Rel_api_Errno.ok (TOk.cons te_api_Obj_api_Errno.ok (TOk.cons te_sl_sl_bool.ok (TOk.cons te_centoref2_Rel.ok (TOk.cons te_api_Pair.ok (TOk.cons te_sl_uint8.ok (TOk.cons te_funcint_int_bool.ok (TOk.cons te_sl_api_Line.ok (TOk.cons te_api_File.ok (TOk.cons te_string_bool.ok (TOk.cons te_sl_api_Shown.ok (TOk.cons te_uint32.ok (TOk.cons te_api_LineID.ok (TOk.cons te_api_Shown.ok (TOk.cons te_sl_int.ok (TOk.cons te_api_Line.ok (TOk.cons te_funcint_bool.ok (TOk.cons te_sl_bool.ok (TOk.cons te_p_bits_Row.ok (TOk.cons te_sl_p_bits_Row.ok (TOk.cons te_rel_Rel.ok (TOk.cons te_iter_Seq_api_Pair.ok (TOk.cons te_iter_Seq2_int_int.ok (TOk.cons te_p_centoref2_Rel_int.ok (TOk.cons te_p_strings_Builder.ok (TOk.cons te_strings_Builder.ok (TOk.cons te_iter_Seq2_int_uint8.ok (TOk.cons te_error.ok (TOk.cons te_int_error.ok (TOk.cons te_p_centoref2_Rel_sl_int.ok (TOk.cons te_sl_int_p_rel_Rel.ok (TOk.cons te_uint64.ok (TOk.cons te_sl_uint64.ok (TOk.cons te_bits_Row.ok (TOk.cons te_funcstring_bool.ok (TOk.cons te_funcapi_Pair_bool.ok (TOk.cons te_iter_Seq_int.ok (TOk.cons te_funcint_uint8_bool.ok (TOk.cons te_p_uint8.ok (TOk.cons te_sl_sl_int.ok (TOk.cons te_unsafe_Pointer.ok (TOk.cons te_64_uint8.ok (TOk.nil _))))))))))))))))))))))))))))))))))))))))))))))))))))))
abbrev gTab : Nat := 0
abbrev centolaw4_ObjMakes.num : FuncId := 3
def centolaw4_ObjMakes.C (labelsp1 : Option Addr) (labelsl2 : Nat) (labelsc3 : Nat) (n4 : Int) (lp5 : Option Addr) (ll6 : Nat) (lc7 : Nat) (H : Hp) (K : Bool → Hp → Prop) : Prop := CallH prog 3 [.slice labelsp1 labelsl2 labelsc3, .int .u8 n4, .slice lp5 ll6 lc7] H (fun v H2 => liftB v fun r8 => K r8 H2)
abbrev centolaw4_ObjLarge.num : FuncId := 4
def centolaw4_ObjLarge.C (n1 : Int) (H : Hp) (K : Bool → Hp → Prop) : Prop := CallH prog 4 [.int .u8 n1] H (fun v H2 => liftB v fun r2 => K r2 H2)
abbrev centolaw4_ObjTells.num : FuncId := 5
def centolaw4_ObjTells.C (ap1 : Option Addr) (al2 : Nat) (ac3 : Nat) (ap4 : Option Addr) (al5 : Nat) (ac6 : Nat) (bp7 : Option Addr) (bl8 : Nat) (bcq9 : Nat) (bp10 : Option Addr) (bl11 : Nat) (bcq12 : Nat) (H : Hp) (K : Bool → Hp → Prop) : Prop := CallH prog 5 [.agg ⟨[.slice ap1 al2 ac3, .slice ap4 al5 ac6]⟩, .agg ⟨[.slice bp7 bl8 bcq9, .slice bp10 bl11 bcq12]⟩] H (fun v H2 => liftB v fun r13 => K r13 H2)
abbrev centolaw4_ObjSpoils.num : FuncId := 6
def centolaw4_ObjSpoils.C (n1 : Int) (which2 : Int) (H : Hp) (K : Bool → Hp → Prop) : Prop := CallH prog 6 [.int .u8 n1, .int .u8 which2] H (fun v H2 => liftB v fun r3 => K r3 H2)
abbrev centolaw14_ViewTells.num : FuncId := 7
def centolaw14_ViewTells.C (f1 : ByteArray) (fp2 : Option Addr) (fl3 : Nat) (fc4 : Nat) (fp5 : Option Addr) (fl6 : Nat) (fc7 : Nat) (H : Hp) (K : Bool → Hp → Prop) : Prop := CallH prog 7 [.agg ⟨[.string f1, .slice fp2 fl3 fc4, .slice fp5 fl6 fc7]⟩] H (fun v H2 => liftB v fun r8 => K r8 H2)
abbrev centolaw14_ViewPlain.num : FuncId := 8
def centolaw14_ViewPlain.C (f1 : ByteArray) (fp2 : Option Addr) (fl3 : Nat) (fc4 : Nat) (fp5 : Option Addr) (fl6 : Nat) (fc7 : Nat) (H : Hp) (K : Bool → Hp → Prop) : Prop := CallH prog 8 [.agg ⟨[.string f1, .slice fp2 fl3 fc4, .slice fp5 fl6 fc7]⟩] H (fun v H2 => liftB v fun r8 => K r8 H2)
abbrev centolaw14_ViewChains.num : FuncId := 9
def centolaw14_ViewChains.C (n1 : Int) (mq2 : Int) (H : Hp) (K : Bool → Hp → Prop) : Prop := CallH prog 9 [.int .u8 n1, .int .u8 mq2] H (fun v H2 => liftB v fun r3 => K r3 H2)
abbrev centolaw14_ViewRings.num : FuncId := 10
def centolaw14_ViewRings.C (n1 : Int) (mq2 : Int) (dead3 : Bool) (H : Hp) (K : Bool → Hp → Prop) : Prop := CallH prog 10 [.int .u8 n1, .int .u8 mq2, .bool dead3] H (fun v H2 => liftB v fun r4 => K r4 H2)
abbrev centolaw14_ViewThrough.num : FuncId := 11
def centolaw14_ViewThrough.C (n1 : Int) (H : Hp) (K : Bool → Hp → Prop) : Prop := CallH prog 11 [.int .u8 n1] H (fun v H2 => liftB v fun r2 => K r2 H2)
abbrev centolaw4_known.num : FuncId := 12
def centolaw4_known.C  (H : Hp) (K : Bool → Hp → Prop) : Prop := CallH prog 12 [] H (fun v H2 => liftB v fun r1 => K r1 H2)
abbrev centolaw4_few.num : FuncId := 13
def centolaw4_few.C (op1 : Option Addr) (ol2 : Nat) (oc3 : Nat) (op4 : Option Addr) (ol5 : Nat) (oc6 : Nat) (H : Hp) (K : Bool → Hp → Prop) : Prop := CallH prog 13 [.agg ⟨[.slice op1 ol2 oc3, .slice op4 ol5 oc6]⟩] H (fun v H2 => liftB v fun r7 => K r7 H2)
abbrev centoref2_Some.num : FuncId := 14
def centoref2_Some.C (n1 : Int) (lp2 : Option Addr) (ll3 : Nat) (lc4 : Nat) (H : Hp) (K : Option Addr → Hp → Prop) : Prop := CallH prog 14 [.int .i64 n1, .slice lp2 ll3 lc4] H (fun v H2 => liftP v fun r5 => K r5 H2)
abbrev rel_Of.num : FuncId := 15
def rel_Of.C (n1 : Int) (lp2 : Option Addr) (ll3 : Nat) (lc4 : Nat) (H : Hp) (K : Option Addr → Int → Hp → Prop) : Prop := CallH prog 15 [.int .i64 n1, .slice lp2 ll3 lc4] H (fun v H2 => tupV v fun vs => d2 vs fun wv0 wv1 => liftP wv0 fun r5 => liftI .i64 wv1 fun r6 => K r5 r6 H2)
abbrev centoref2_Rel_Pairs.num : FuncId := 16
def centoref2_Rel_Pairs.C (r1 : Option Addr) (H : Hp) (K : Option Addr → Nat → Nat → Hp → Prop) : Prop := CallH prog 16 [.pointer r1] H (fun v H2 => liftL v fun rp2 rl3 rc4 => K rp2 rl3 rc4 H2)
abbrev obj_Make.num : FuncId := 17
def obj_Make.C (lp1 : Option Addr) (ll2 : Nat) (lc3 : Nat) (r4 : Option Addr) (H : Hp) (K : Option Addr → Nat → Nat → Option Addr → Nat → Nat → Int → Hp → Prop) : Prop := CallH prog 17 [.slice lp1 ll2 lc3, .pointer r4] H (fun v H2 => tupV v fun vs => d2 vs fun wv0 wv1 => aggV wv0 fun cs => d2 cs fun wwv00 wwv01 => liftL wwv00 fun rp5 rl6 rc7 => liftL wwv01 fun rp8 rl9 rc10 => liftI .i64 wv1 fun r11 => K rp5 rl6 rc7 rp8 rl9 rc10 r11 H2)
abbrev centoref4_Same.num : FuncId := 18
def centoref4_Same.C (ap1 : Option Addr) (al2 : Nat) (ac3 : Nat) (ap4 : Option Addr) (al5 : Nat) (ac6 : Nat) (bp7 : Option Addr) (bl8 : Nat) (bcq9 : Nat) (bp10 : Option Addr) (bl11 : Nat) (bcq12 : Nat) (H : Hp) (K : Bool → Hp → Prop) : Prop := CallH prog 18 [.agg ⟨[.slice ap1 al2 ac3, .slice ap4 al5 ac6]⟩, .agg ⟨[.slice bp7 bl8 bcq9, .slice bp10 bl11 bcq12]⟩] H (fun v H2 => liftB v fun r13 => K r13 H2)
abbrev centoref4_Make.num : FuncId := 19
def centoref4_Make.C (labelsp1 : Option Addr) (labelsl2 : Nat) (labelsc3 : Nat) (r4 : Option Addr) (H : Hp) (K : Option Addr → Nat → Nat → Option Addr → Nat → Nat → Hp → Prop) : Prop := CallH prog 19 [.slice labelsp1 labelsl2 labelsc3, .pointer r4] H (fun v H2 => aggV v fun cs => d2 cs fun wv0 wv1 => liftL wv0 fun rp5 rl6 rc7 => liftL wv1 fun rp8 rl9 rc10 => K rp5 rl6 rc7 rp8 rl9 rc10 H2)
abbrev obj_Is.num : FuncId := 20
def obj_Is.C (op1 : Option Addr) (ol2 : Nat) (oc3 : Nat) (op4 : Option Addr) (ol5 : Nat) (oc6 : Nat) (H : Hp) (K : Bool → Hp → Prop) : Prop := CallH prog 20 [.agg ⟨[.slice op1 ol2 oc3, .slice op4 ol5 oc6]⟩] H (fun v H2 => liftB v fun r7 => K r7 H2)
abbrev rel_New.num : FuncId := 21
def rel_New.C (n1 : Int) (H : Hp) (K : Option Addr → Hp → Prop) : Prop := CallH prog 21 [.int .i64 n1] H (fun v H2 => liftP v fun r2 => K r2 H2)
abbrev obj_Check.num : FuncId := 22
def obj_Check.C (op1 : Option Addr) (ol2 : Nat) (oc3 : Nat) (op4 : Option Addr) (ol5 : Nat) (oc6 : Nat) (H : Hp) (K : Int → Hp → Prop) : Prop := CallH prog 22 [.agg ⟨[.slice op1 ol2 oc3, .slice op4 ol5 oc6]⟩] H (fun v H2 => liftI .i64 v fun r7 => K r7 H2)
abbrev obj_Rel.num : FuncId := 23
def obj_Rel.C (op1 : Option Addr) (ol2 : Nat) (oc3 : Nat) (op4 : Option Addr) (ol5 : Nat) (oc6 : Nat) (H : Hp) (K : Option Addr → Hp → Prop) : Prop := CallH prog 23 [.agg ⟨[.slice op1 ol2 oc3, .slice op4 ol5 oc6]⟩] H (fun v H2 => liftP v fun r7 => K r7 H2)
abbrev centoref4_Rel.num : FuncId := 24
def centoref4_Rel.C (op1 : Option Addr) (ol2 : Nat) (oc3 : Nat) (op4 : Option Addr) (ol5 : Nat) (oc6 : Nat) (H : Hp) (K : Option Addr → Hp → Prop) : Prop := CallH prog 24 [.agg ⟨[.slice op1 ol2 oc3, .slice op4 ol5 oc6]⟩] H (fun v H2 => liftP v fun r7 => K r7 H2)
abbrev rel_Rel_Pairs.num : FuncId := 25
def rel_Rel_Pairs.C (r1 : Option Addr) (H : Hp) (K : Option Addr → Nat → Nat → Hp → Prop) : Prop := CallH prog 25 [.pointer r1] H (fun v H2 => liftL v fun rp2 rl3 rc4 => K rp2 rl3 rc4 H2)
abbrev rel_Rel_Len.num : FuncId := 26
def rel_Rel_Len.C (r1 : Option Addr) (H : Hp) (K : Int → Hp → Prop) : Prop := CallH prog 26 [.pointer r1] H (fun v H2 => liftI .i64 v fun r2 => K r2 H2)
abbrev centoref4_Check.num : FuncId := 27
def centoref4_Check.C (op1 : Option Addr) (ol2 : Nat) (oc3 : Nat) (op4 : Option Addr) (ol5 : Nat) (oc6 : Nat) (H : Hp) (K : Int → Hp → Prop) : Prop := CallH prog 27 [.agg ⟨[.slice op1 ol2 oc3, .slice op4 ol5 oc6]⟩] H (fun v H2 => liftI .i64 v fun r7 => K r7 H2)
abbrev centoref4_Is.num : FuncId := 28
def centoref4_Is.C (op1 : Option Addr) (ol2 : Nat) (oc3 : Nat) (op4 : Option Addr) (ol5 : Nat) (oc6 : Nat) (H : Hp) (K : Bool → Hp → Prop) : Prop := CallH prog 28 [.agg ⟨[.slice op1 ol2 oc3, .slice op4 ol5 oc6]⟩] H (fun v H2 => liftB v fun r7 => K r7 H2)
abbrev obj_Same.num : FuncId := 29
def obj_Same.C (ap1 : Option Addr) (al2 : Nat) (ac3 : Nat) (ap4 : Option Addr) (al5 : Nat) (ac6 : Nat) (bp7 : Option Addr) (bl8 : Nat) (bcq9 : Nat) (bp10 : Option Addr) (bl11 : Nat) (bcq12 : Nat) (H : Hp) (K : Bool → Hp → Prop) : Prop := CallH prog 29 [.agg ⟨[.slice ap1 al2 ac3, .slice ap4 al5 ac6]⟩, .agg ⟨[.slice bp7 bl8 bcq9, .slice bp10 bl11 bcq12]⟩] H (fun v H2 => liftB v fun r13 => K r13 H2)
abbrev obj_Copy.num : FuncId := 30
def obj_Copy.C (op1 : Option Addr) (ol2 : Nat) (oc3 : Nat) (op4 : Option Addr) (ol5 : Nat) (oc6 : Nat) (H : Hp) (K : Option Addr → Nat → Nat → Option Addr → Nat → Nat → Hp → Prop) : Prop := CallH prog 30 [.agg ⟨[.slice op1 ol2 oc3, .slice op4 ol5 oc6]⟩] H (fun v H2 => aggV v fun cs => d2 cs fun wv0 wv1 => liftL wv0 fun rp7 rl8 rc9 => liftL wv1 fun rp10 rl11 rc12 => K rp7 rl8 rc9 rp10 rl11 rc12 H2)
abbrev rel_Rel_Add.num : FuncId := 31
def rel_Rel_Add.C (r1 : Option Addr) (a2 : Int) (bq3 : Int) (H : Hp) (K : Bool → Hp → Prop) : Prop := CallH prog 31 [.pointer r1, .int .i64 a2, .int .i64 bq3] H (fun v H2 => liftB v fun r4 => K r4 H2)
abbrev order_IsTotal.num : FuncId := 32
def order_IsTotal.C (r1 : Option Addr) (H : Hp) (K : Bool → Hp → Prop) : Prop := CallH prog 32 [.pointer r1] H (fun v H2 => liftB v fun r2 => K r2 H2)
abbrev centolaw14_known.num : FuncId := 33
def centolaw14_known.C  (H : Hp) (K : Bool → Hp → Prop) : Prop := CallH prog 33 [] H (fun v H2 => liftB v fun r1 => K r1 H2)
abbrev centolaw14_few.num : FuncId := 34
def centolaw14_few.C (f1 : ByteArray) (fp2 : Option Addr) (fl3 : Nat) (fc4 : Nat) (fp5 : Option Addr) (fl6 : Nat) (fc7 : Nat) (H : Hp) (K : Bool → Hp → Prop) : Prop := CallH prog 34 [.agg ⟨[.string f1, .slice fp2 fl3 fc4, .slice fp5 fl6 fc7]⟩] H (fun v H2 => liftB v fun r8 => K r8 H2)
abbrev view_Text.num : FuncId := 35
def view_Text.C (f1 : ByteArray) (fp2 : Option Addr) (fl3 : Nat) (fc4 : Nat) (fp5 : Option Addr) (fl6 : Nat) (fc7 : Nat) (H : Hp) (K : ByteArray → Bool → Hp → Prop) : Prop := CallH prog 35 [.agg ⟨[.string f1, .slice fp2 fl3 fc4, .slice fp5 fl6 fc7]⟩] H (fun v H2 => tupV v fun vs => d2 vs fun wv0 wv1 => liftS wv0 fun r8 => liftB wv1 fun r9 => K r8 r9 H2)
abbrev centoref12_Text.num : FuncId := 36
def centoref12_Text.C (f1 : ByteArray) (fp2 : Option Addr) (fl3 : Nat) (fc4 : Nat) (fp5 : Option Addr) (fl6 : Nat) (fc7 : Nat) (H : Hp) (K : ByteArray → Bool → Hp → Prop) : Prop := CallH prog 36 [.agg ⟨[.string f1, .slice fp2 fl3 fc4, .slice fp5 fl6 fc7]⟩] H (fun v H2 => tupV v fun vs => d2 vs fun wv0 wv1 => liftS wv0 fun r8 => liftB wv1 fun r9 => K r8 r9 H2)
abbrev view_Show.num : FuncId := 37
def view_Show.C (f1 : ByteArray) (fp2 : Option Addr) (fl3 : Nat) (fc4 : Nat) (fp5 : Option Addr) (fl6 : Nat) (fc7 : Nat) (H : Hp) (K : Option Addr → Nat → Nat → Hp → Prop) : Prop := CallH prog 37 [.agg ⟨[.string f1, .slice fp2 fl3 fc4, .slice fp5 fl6 fc7]⟩] H (fun v H2 => liftL v fun rp8 rl9 rc10 => K rp8 rl9 rc10 H2)
abbrev centoref12_Show.num : FuncId := 38
def centoref12_Show.C (f1 : ByteArray) (fp2 : Option Addr) (fl3 : Nat) (fc4 : Nat) (fp5 : Option Addr) (fl6 : Nat) (fc7 : Nat) (H : Hp) (K : Option Addr → Nat → Nat → Hp → Prop) : Prop := CallH prog 38 [.agg ⟨[.string f1, .slice fp2 fl3 fc4, .slice fp5 fl6 fc7]⟩] H (fun v H2 => liftL v fun rp8 rl9 rc10 => K rp8 rl9 rc10 H2)
abbrev view_Linear.num : FuncId := 39
def view_Linear.C (f1 : ByteArray) (fp2 : Option Addr) (fl3 : Nat) (fc4 : Nat) (fp5 : Option Addr) (fl6 : Nat) (fc7 : Nat) (H : Hp) (K : Bool → Hp → Prop) : Prop := CallH prog 39 [.agg ⟨[.string f1, .slice fp2 fl3 fc4, .slice fp5 fl6 fc7]⟩] H (fun v H2 => liftB v fun r8 => K r8 H2)
abbrev centoref4_Alike.num : FuncId := 40
def centoref4_Alike.C (fp1 : Option Addr) (fl2 : Nat) (fc3 : Nat) (gp4 : Option Addr) (gl5 : Nat) (gc6 : Nat) (H : Hp) (K : Bool → Hp → Prop) : Prop := CallH prog 40 [.slice fp1 fl2 fc3, .slice gp4 gl5 gc6] H (fun v H2 => liftB v fun r7 => K r7 H2)
abbrev view_Order.num : FuncId := 41
def view_Order.C (f1 : ByteArray) (fp2 : Option Addr) (fl3 : Nat) (fc4 : Nat) (fp5 : Option Addr) (fl6 : Nat) (fc7 : Nat) (H : Hp) (K : Option Addr → Nat → Nat → Hp → Prop) : Prop := CallH prog 41 [.agg ⟨[.string f1, .slice fp2 fl3 fc4, .slice fp5 fl6 fc7]⟩] H (fun v H2 => liftL v fun rp8 rl9 rc10 => K rp8 rl9 rc10 H2)
abbrev centoref12_Order.num : FuncId := 42
def centoref12_Order.C (f1 : ByteArray) (fp2 : Option Addr) (fl3 : Nat) (fc4 : Nat) (fp5 : Option Addr) (fl6 : Nat) (fc7 : Nat) (H : Hp) (K : Option Addr → Nat → Nat → Hp → Prop) : Prop := CallH prog 42 [.agg ⟨[.string f1, .slice fp2 fl3 fc4, .slice fp5 fl6 fc7]⟩] H (fun v H2 => liftL v fun rp8 rl9 rc10 => K rp8 rl9 rc10 H2)
abbrev view_Print.num : FuncId := 43
def view_Print.C (f1 : ByteArray) (fp2 : Option Addr) (fl3 : Nat) (fc4 : Nat) (fp5 : Option Addr) (fl6 : Nat) (fc7 : Nat) (H : Hp) (K : ByteArray → Hp → Prop) : Prop := CallH prog 43 [.agg ⟨[.string f1, .slice fp2 fl3 fc4, .slice fp5 fl6 fc7]⟩] H (fun v H2 => liftS v fun r8 => K r8 H2)
abbrev centoref12_Print.num : FuncId := 44
def centoref12_Print.C (f1 : ByteArray) (fp2 : Option Addr) (fl3 : Nat) (fc4 : Nat) (fp5 : Option Addr) (fl6 : Nat) (fc7 : Nat) (H : Hp) (K : ByteArray → Hp → Prop) : Prop := CallH prog 44 [.agg ⟨[.string f1, .slice fp2 fl3 fc4, .slice fp5 fl6 fc7]⟩] H (fun v H2 => liftS v fun r8 => K r8 H2)
abbrev view_Conflicts.num : FuncId := 45
def view_Conflicts.C (f1 : ByteArray) (fp2 : Option Addr) (fl3 : Nat) (fc4 : Nat) (fp5 : Option Addr) (fl6 : Nat) (fc7 : Nat) (H : Hp) (K : Int → Hp → Prop) : Prop := CallH prog 45 [.agg ⟨[.string f1, .slice fp2 fl3 fc4, .slice fp5 fl6 fc7]⟩] H (fun v H2 => liftI .i64 v fun r8 => K r8 H2)
abbrev centolaw14_line.num : FuncId := 46
def centolaw14_line.C (n1 : Int) (s2 : ByteArray) (H : Hp) (K : Int → Int → ByteArray → Bool → Hp → Prop) : Prop := CallH prog 46 [.int .i64 n1, .string s2] H (fun v H2 => aggV v fun cs => d4 cs fun wv0 wv1 wv2 wv3 => liftI .u32 wv0 fun r3 => liftI .i64 wv1 fun r4 => liftS wv2 fun r5 => liftB wv3 fun r6 => K r3 r4 r5 r6 H2)
abbrev rel_Rel_Has.num : FuncId := 47
def rel_Rel_Has.C (r1 : Option Addr) (a2 : Int) (bq3 : Int) (H : Hp) (K : Bool → Hp → Prop) : Prop := CallH prog 47 [.pointer r1, .int .i64 a2, .int .i64 bq3] H (fun v H2 => liftB v fun r4 => K r4 H2)
abbrev centoref2_New.num : FuncId := 48
def centoref2_New.C (n1 : Int) (H : Hp) (K : Option Addr → Hp → Prop) : Prop := CallH prog 48 [.int .i64 n1] H (fun v H2 => liftP v fun r2 => K r2 H2)
abbrev centoref2_Rel_Is.num : FuncId := 49
def centoref2_Rel_Is.C (r1 : Option Addr) (a2 : Int) (H : Hp) (K : Bool → Hp → Prop) : Prop := CallH prog 49 [.pointer r1, .int .i64 a2] H (fun v H2 => liftB v fun r3 => K r3 H2)
abbrev rel_Rel_there.num : FuncId := 50
def rel_Rel_there.C (r1 : Option Addr) (a2 : Int) (H : Hp) (K : Bool → Hp → Prop) : Prop := CallH prog 50 [.pointer r1, .int .i64 a2] H (fun v H2 => liftB v fun r3 => K r3 H2)
abbrev bits_Row_Put.num : FuncId := 51
def bits_Row_Put.C (r1 : Option Addr) (i2 : Int) (on3 : Bool) (H : Hp) (K : Hp → Prop) : Prop := CallH prog 51 [.pointer r1, .int .i64 i2, .bool on3] H (fun v H2 => tupV v fun vs => d0 vs (K H2))
abbrev obj_labels.num : FuncId := 52
def obj_labels.C (lp1 : Option Addr) (ll2 : Nat) (lc3 : Nat) (H : Hp) (K : Int → Hp → Prop) : Prop := CallH prog 52 [.slice lp1 ll2 lc3] H (fun v H2 => liftI .i64 v fun r4 => K r4 H2)
abbrev slices_Clone_string_string.num : FuncId := 53
def slices_Clone_string_string.C (sp1 : Option Addr) (sl2 : Nat) (sc3 : Nat) (H : Hp) (K : Option Addr → Nat → Nat → Hp → Prop) : Prop := CallH prog 53 [.slice sp1 sl2 sc3] H (fun v H2 => liftL v fun rp4 rl5 rc6 => K rp4 rl5 rc6 H2)
abbrev rel_Rel_Closure.num : FuncId := 54
def rel_Rel_Closure.C (r1 : Option Addr) (H : Hp) (K : Option Addr → Hp → Prop) : Prop := CallH prog 54 [.pointer r1] H (fun v H2 => liftP v fun r2 => K r2 H2)
abbrev centoref2_Rel_Closure.num : FuncId := 55
def centoref2_Rel_Closure.C (r1 : Option Addr) (H : Hp) (K : Option Addr → Hp → Prop) : Prop := CallH prog 55 [.pointer r1] H (fun v H2 => liftP v fun r2 => K r2 H2)
abbrev bits_New.num : FuncId := 56
def bits_New.C (n1 : Int) (H : Hp) (K : Option Addr → Hp → Prop) : Prop := CallH prog 56 [.int .i64 n1] H (fun v H2 => liftP v fun r2 => K r2 H2)
abbrev obj_compare.num : FuncId := 57
def obj_compare.C (a1 : Int) (a2 : Int) (bq3 : Int) (bq4 : Int) (H : Hp) (K : Int → Hp → Prop) : Prop := CallH prog 57 [.agg ⟨[.int .i64 a1, .int .i64 a2]⟩, .agg ⟨[.int .i64 bq3, .int .i64 bq4]⟩] H (fun v H2 => liftI .i64 v fun r5 => K r5 H2)
abbrev rel_Rel_IsTransitive.num : FuncId := 58
def rel_Rel_IsTransitive.C (r1 : Option Addr) (H : Hp) (K : Bool → Hp → Prop) : Prop := CallH prog 58 [.pointer r1] H (fun v H2 => liftB v fun r2 => K r2 H2)
abbrev slices_Values_api_Pair_api_Pair.num : FuncId := 59
def slices_Values_api_Pair_api_Pair.C (sp1 : Option Addr) (sl2 : Nat) (sc3 : Nat) (H : Hp) (K : Value → Hp → Prop) : Prop := CallH prog 59 [.slice sp1 sl2 sc3] H (fun v H2 => (fun r4 => K r4 H2) v)
abbrev rel_Rel_Each.num : FuncId := 60
def rel_Rel_Each.C (r1 : Option Addr) (H : Hp) (K : Value → Hp → Prop) : Prop := CallH prog 60 [.pointer r1] H (fun v H2 => (fun r2 => K r2 H2) v)
abbrev centoref2_Of.num : FuncId := 61
def centoref2_Of.C (n1 : Int) (lp2 : Option Addr) (ll3 : Nat) (lc4 : Nat) (H : Hp) (K : Option Addr → Int → Hp → Prop) : Prop := CallH prog 61 [.int .i64 n1, .slice lp2 ll3 lc4] H (fun v H2 => tupV v fun vs => d2 vs fun wv0 wv1 => liftP wv0 fun r5 => liftI .i64 wv1 fun r6 => K r5 r6 H2)
abbrev centoref4_Rising.num : FuncId := 62
def centoref4_Rising.C (lp1 : Option Addr) (ll2 : Nat) (lc3 : Nat) (H : Hp) (K : Bool → Hp → Prop) : Prop := CallH prog 62 [.slice lp1 ll2 lc3] H (fun v H2 => liftB v fun r4 => K r4 H2)
abbrev centoref2_Rel_IsTransitive.num : FuncId := 63
def centoref2_Rel_IsTransitive.C (r1 : Option Addr) (H : Hp) (K : Bool → Hp → Prop) : Prop := CallH prog 63 [.pointer r1] H (fun v H2 => liftB v fun r2 => K r2 H2)
abbrev slices_Equal_string_string.num : FuncId := 64
def slices_Equal_string_string.C (sp1 : Option Addr) (sl2 : Nat) (sc3 : Nat) (sp4 : Option Addr) (sl5 : Nat) (sc6 : Nat) (H : Hp) (K : Bool → Hp → Prop) : Prop := CallH prog 64 [.slice sp1 sl2 sc3, .slice sp4 sl5 sc6] H (fun v H2 => liftB v fun r7 => K r7 H2)
abbrev slices_Equal_api_Pair_api_Pair.num : FuncId := 65
def slices_Equal_api_Pair_api_Pair.C (sp1 : Option Addr) (sl2 : Nat) (sc3 : Nat) (sp4 : Option Addr) (sl5 : Nat) (sc6 : Nat) (H : Hp) (K : Bool → Hp → Prop) : Prop := CallH prog 65 [.slice sp1 sl2 sc3, .slice sp4 sl5 sc6] H (fun v H2 => liftB v fun r7 => K r7 H2)
abbrev slices_Clone_api_Pair_api_Pair.num : FuncId := 66
def slices_Clone_api_Pair_api_Pair.C (sp1 : Option Addr) (sl2 : Nat) (sc3 : Nat) (H : Hp) (K : Option Addr → Nat → Nat → Hp → Prop) : Prop := CallH prog 66 [.slice sp1 sl2 sc3] H (fun v H2 => liftL v fun rp4 rl5 rc6 => K rp4 rl5 rc6 H2)
abbrev order_closed.num : FuncId := 67
def order_closed.C (r1 : Option Addr) (H : Hp) (K : Option Addr → Hp → Prop) : Prop := CallH prog 67 [.pointer r1] H (fun v H2 => liftP v fun r2 => K r2 H2)
abbrev view_each.num : FuncId := 68
def view_each.C (f1 : ByteArray) (fp2 : Option Addr) (fl3 : Nat) (fc4 : Nat) (fp5 : Option Addr) (fl6 : Nat) (fc7 : Nat) (H : Hp) (K : Value → Hp → Prop) : Prop := CallH prog 68 [.agg ⟨[.string f1, .slice fp2 fl3 fc4, .slice fp5 fl6 fc7]⟩] H (fun v H2 => (fun r8 => K r8 H2) v)
abbrev strings_Builder_WriteString.num : FuncId := 69
def strings_Builder_WriteString.C (bq1 : Option Addr) (s2 : ByteArray) (H : Hp) (K : Int → Value → Hp → Prop) : Prop := CallH prog 69 [.pointer bq1, .string s2] H (fun v H2 => tupV v fun vs => d2 vs fun wv0 wv1 => liftI .i64 wv0 fun r3 => (fun r4 => K r3 r4 H2) wv1)
abbrev strings_Builder_String.num : FuncId := 70
def strings_Builder_String.C (bq1 : Option Addr) (H : Hp) (K : ByteArray → Hp → Prop) : Prop := CallH prog 70 [.pointer bq1] H (fun v H2 => liftS v fun r2 => K r2 H2)
abbrev centoref12_Linear.num : FuncId := 71
def centoref12_Linear.C (f1 : ByteArray) (fp2 : Option Addr) (fl3 : Nat) (fc4 : Nat) (fp5 : Option Addr) (fl6 : Nat) (fc7 : Nat) (H : Hp) (K : Bool → Hp → Prop) : Prop := CallH prog 71 [.agg ⟨[.string f1, .slice fp2 fl3 fc4, .slice fp5 fl6 fc7]⟩] H (fun v H2 => liftB v fun r8 => K r8 H2)
abbrev centoref12_rel.num : FuncId := 72
def centoref12_rel.C (f1 : ByteArray) (fp2 : Option Addr) (fl3 : Nat) (fc4 : Nat) (fp5 : Option Addr) (fl6 : Nat) (fc7 : Nat) (H : Hp) (K : Option Addr → Option Addr → Nat → Nat → Hp → Prop) : Prop := CallH prog 72 [.agg ⟨[.string f1, .slice fp2 fl3 fc4, .slice fp5 fl6 fc7]⟩] H (fun v H2 => tupV v fun vs => d2 vs fun wv0 wv1 => liftP wv0 fun r8 => liftL wv1 fun rp9 rl10 rc11 => K r8 rp9 rl10 rc11 H2)
abbrev centoref2_Rel_Sort.num : FuncId := 73
def centoref2_Rel_Sort.C (r1 : Option Addr) (H : Hp) (K : Option Addr → Nat → Nat → Hp → Prop) : Prop := CallH prog 73 [.pointer r1] H (fun v H2 => liftL v fun rp2 rl3 rc4 => K rp2 rl3 rc4 H2)
abbrev view_Alive.num : FuncId := 74
def view_Alive.C (f1 : ByteArray) (fp2 : Option Addr) (fl3 : Nat) (fc4 : Nat) (fp5 : Option Addr) (fl6 : Nat) (fc7 : Nat) (H : Hp) (K : Option Addr → Nat → Nat → Option Addr → Hp → Prop) : Prop := CallH prog 74 [.agg ⟨[.string f1, .slice fp2 fl3 fc4, .slice fp5 fl6 fc7]⟩] H (fun v H2 => tupV v fun vs => d2 vs fun wv0 wv1 => liftL wv0 fun rp8 rl9 rc10 => liftP wv1 fun r11 => K rp8 rl9 rc10 r11 H2)
abbrev strings_Builder_WriteByte.num : FuncId := 75
def strings_Builder_WriteByte.C (bq1 : Option Addr) (c2 : Int) (H : Hp) (K : Value → Hp → Prop) : Prop := CallH prog 75 [.pointer bq1, .int .u8 c2] H (fun v H2 => (fun r3 => K r3 H2) v)
abbrev strings_TrimSuffix.num : FuncId := 76
def strings_TrimSuffix.C (s1 : ByteArray) (suffix2 : ByteArray) (H : Hp) (K : ByteArray → Hp → Prop) : Prop := CallH prog 76 [.string s1, .string suffix2] H (fun v H2 => liftS v fun r3 => K r3 H2)
abbrev bits_Row_Has.num : FuncId := 77
def bits_Row_Has.C (r1 : Option Addr) (i2 : Int) (H : Hp) (K : Bool → Hp → Prop) : Prop := CallH prog 77 [.pointer r1, .int .i64 i2] H (fun v H2 => liftB v fun r3 => K r3 H2)
abbrev bits_Row_there.num : FuncId := 78
def bits_Row_there.C (r1 : Option Addr) (i2 : Int) (H : Hp) (K : Bool → Hp → Prop) : Prop := CallH prog 78 [.pointer r1, .int .i64 i2] H (fun v H2 => liftB v fun r3 => K r3 H2)
abbrev slices_ContainsFunc_string_string.num : FuncId := 79
def slices_ContainsFunc_string_string.C (sp1 : Option Addr) (sl2 : Nat) (sc3 : Nat) (f4 : Value) (H : Hp) (K : Bool → Hp → Prop) : Prop := CallH prog 79 [.slice sp1 sl2 sc3, f4] H (fun v H2 => liftB v fun r5 => K r5 H2)
abbrev obj_labels_1.num : FuncId := 80
def obj_labels_1.C (s1 : ByteArray) (H : Hp) (K : Bool → Hp → Prop) : Prop := CallH prog 80 [.string s1] H (fun v H2 => liftB v fun r2 => K r2 H2)
abbrev rel_Rel_Copy.num : FuncId := 81
def rel_Rel_Copy.C (r1 : Option Addr) (H : Hp) (K : Option Addr → Hp → Prop) : Prop := CallH prog 81 [.pointer r1] H (fun v H2 => liftP v fun r2 => K r2 H2)
abbrev bits_Row_Or.num : FuncId := 82
def bits_Row_Or.C (r1 : Option Addr) (oq2 : Option Addr) (H : Hp) (K : Bool → Hp → Prop) : Prop := CallH prog 82 [.pointer r1, .pointer oq2] H (fun v H2 => liftB v fun r3 => K r3 H2)
abbrev centoref2_Rel_Copy.num : FuncId := 83
def centoref2_Rel_Copy.C (r1 : Option Addr) (H : Hp) (K : Option Addr → Hp → Prop) : Prop := CallH prog 83 [.pointer r1] H (fun v H2 => liftP v fun r2 => K r2 H2)
abbrev cmp_Or_int.num : FuncId := 84
def cmp_Or_int.C (valsp1 : Option Addr) (valsl2 : Nat) (valsc3 : Nat) (H : Hp) (K : Int → Hp → Prop) : Prop := CallH prog 84 [.slice valsp1 valsl2 valsc3] H (fun v H2 => liftI .i64 v fun r4 => K r4 H2)
abbrev cmp_Compare_int.num : FuncId := 85
def cmp_Compare_int.C (x1 : Int) (y2 : Int) (H : Hp) (K : Int → Hp → Prop) : Prop := CallH prog 85 [.int .i64 x1, .int .i64 y2] H (fun v H2 => liftI .i64 v fun r3 => K r3 H2)
abbrev rel_Rel_same.num : FuncId := 86
def rel_Rel_same.C (r1 : Option Addr) (oq2 : Option Addr) (H : Hp) (K : Bool → Hp → Prop) : Prop := CallH prog 86 [.pointer r1, .pointer oq2] H (fun v H2 => liftB v fun r3 => K r3 H2)
abbrev slices_Values_api_Pair_api_Pair_1.num : FuncId := 87
def slices_Values_api_Pair_api_Pair_1.I (cap1 : Nat) (H : Hp) (G : Int → Int → Hp → (Al → Hp → Prop) → Prop) (K : Al → Hp → Prop) : Prop := ITER prog 87 [] [.pointer (some ⟨cap1, 0, none⟩)] H (fun vals H Kb => d1 vals fun w0 => aggV w0 fun cs => d2 cs fun ww00 ww01 => liftI .i64 ww00 fun z2 => liftI .i64 ww01 fun z3 => G z2 z3 H Kb) K
abbrev rel_Rel_Each_1.num : FuncId := 88
def rel_Rel_Each_1.I (cap1 : Nat) (H : Hp) (G : Int → Int → Hp → (Al → Hp → Prop) → Prop) (K : Al → Hp → Prop) : Prop := ITER prog 88 [] [.pointer (some ⟨cap1, 0, none⟩)] H (fun vals H Kb => d2 vals fun w0 w1 => liftI .i64 w0 fun z2 => liftI .i64 w1 fun z3 => G z2 z3 H Kb) K
abbrev bits_Row_Each.num : FuncId := 89
def bits_Row_Each.C (r1 : Option Addr) (H : Hp) (K : Value → Hp → Prop) : Prop := CallH prog 89 [.pointer r1] H (fun v H2 => (fun r2 => K r2 H2) v)
abbrev centoref2_Rel_Same.num : FuncId := 90
def centoref2_Rel_Same.C (r1 : Option Addr) (oq2 : Option Addr) (H : Hp) (K : Bool → Hp → Prop) : Prop := CallH prog 90 [.pointer r1, .pointer oq2] H (fun v H2 => liftB v fun r3 => K r3 H2)
abbrev view_each_1.num : FuncId := 91
def view_each_1.I (cap1 : Nat) (H : Hp) (G : Int → Int → Hp → (Al → Hp → Prop) → Prop) (K : Al → Hp → Prop) : Prop := ITER prog 91 [] [.pointer (some ⟨cap1, 0, none⟩)] H (fun vals H Kb => d2 vals fun w0 w1 => liftI .i64 w0 fun z2 => liftI .u8 w1 fun z3 => G z2 z3 H Kb) K
abbrev order_Sort.num : FuncId := 92
def order_Sort.C (r1 : Option Addr) (H : Hp) (K : Option Addr → Nat → Nat → Hp → Prop) : Prop := CallH prog 92 [.pointer r1] H (fun v H2 => liftL v fun rp2 rl3 rc4 => K rp2 rl3 rc4 H2)
abbrev view_mark.num : FuncId := 93
def view_mark.C (r1 : Option Addr) (i2 : Int) (H : Hp) (K : Int → Hp → Prop) : Prop := CallH prog 93 [.pointer r1, .int .i64 i2] H (fun v H2 => liftI .u8 v fun r3 => K r3 H2)
abbrev strings_Builder_copyCheck.num : FuncId := 94
def strings_Builder_copyCheck.C (bq1 : Option Addr) (H : Hp) (K : Hp → Prop) : Prop := CallH prog 94 [.pointer bq1] H (fun v H2 => tupV v fun vs => d0 vs (K H2))
abbrev centoref2_Rel_IsTotal.num : FuncId := 95
def centoref2_Rel_IsTotal.C (r1 : Option Addr) (H : Hp) (K : Bool → Hp → Prop) : Prop := CallH prog 95 [.pointer r1] H (fun v H2 => liftB v fun r2 => K r2 H2)
abbrev centoref12_Alive.num : FuncId := 96
def centoref12_Alive.C (f1 : ByteArray) (fp2 : Option Addr) (fl3 : Nat) (fc4 : Nat) (fp5 : Option Addr) (fl6 : Nat) (fc7 : Nat) (H : Hp) (K : Option Addr → Nat → Nat → Hp → Prop) : Prop := CallH prog 96 [.agg ⟨[.string f1, .slice fp2 fl3 fc4, .slice fp5 fl6 fc7]⟩] H (fun v H2 => liftL v fun rp8 rl9 rc10 => K rp8 rl9 rc10 H2)
abbrev centoref2_Rel_Circles.num : FuncId := 97
def centoref2_Rel_Circles.C (r1 : Option Addr) (H : Hp) (K : Option Addr → Nat → Nat → Hp → Prop) : Prop := CallH prog 97 [.pointer r1] H (fun v H2 => liftL v fun rp2 rl3 rc4 => K rp2 rl3 rc4 H2)
abbrev centoref2_Rel_free.num : FuncId := 98
def centoref2_Rel_free.C (r1 : Option Addr) (cp2 : Option Addr) (cl3 : Nat) (cc4 : Nat) (donep5 : Option Addr) (donel6 : Nat) (donec7 : Nat) (i8 : Int) (H : Hp) (K : Bool → Hp → Prop) : Prop := CallH prog 98 [.pointer r1, .slice cp2 cl3 cc4, .slice donep5 donel6 donec7, .int .i64 i8] H (fun v H2 => liftB v fun r9 => K r9 H2)
abbrev state_Alive.num : FuncId := 99
def state_Alive.C (f1 : ByteArray) (fp2 : Option Addr) (fl3 : Nat) (fc4 : Nat) (fp5 : Option Addr) (fl6 : Nat) (fc7 : Nat) (H : Hp) (K : Option Addr → Nat → Nat → Hp → Prop) : Prop := CallH prog 99 [.agg ⟨[.string f1, .slice fp2 fl3 fc4, .slice fp5 fl6 fc7]⟩] H (fun v H2 => liftL v fun rp8 rl9 rc10 => K rp8 rl9 rc10 H2)
abbrev internal_stringslite_TrimSuffix.num : FuncId := 100
def internal_stringslite_TrimSuffix.C (s1 : ByteArray) (suffix2 : ByteArray) (H : Hp) (K : ByteArray → Hp → Prop) : Prop := CallH prog 100 [.string s1, .string suffix2] H (fun v H2 => liftS v fun r3 => K r3 H2)
abbrev bits_Row_Len.num : FuncId := 101
def bits_Row_Len.C (r1 : Option Addr) (H : Hp) (K : Int → Hp → Prop) : Prop := CallH prog 101 [.pointer r1] H (fun v H2 => liftI .i64 v fun r2 => K r2 H2)
abbrev slices_IndexFunc_string_string.num : FuncId := 102
def slices_IndexFunc_string_string.C (sp1 : Option Addr) (sl2 : Nat) (sc3 : Nat) (f4 : Value) (H : Hp) (K : Int → Hp → Prop) : Prop := CallH prog 102 [.slice sp1 sl2 sc3, f4] H (fun v H2 => liftI .i64 v fun r5 => K r5 H2)
abbrev cmp_isNaN_int.num : FuncId := 103
def cmp_isNaN_int.C (x1 : Int) (H : Hp) (K : Bool → Hp → Prop) : Prop := CallH prog 103 [.int .i64 x1] H (fun v H2 => liftB v fun r2 => K r2 H2)
abbrev bits_Row_Same.num : FuncId := 104
def bits_Row_Same.C (r1 : Option Addr) (oq2 : Option Addr) (H : Hp) (K : Bool → Hp → Prop) : Prop := CallH prog 104 [.pointer r1, .pointer oq2] H (fun v H2 => liftB v fun r3 => K r3 H2)
abbrev bits_Row_Each_1.num : FuncId := 105
def bits_Row_Each_1.I (cap1 : Nat) (H : Hp) (G : Int → Hp → (Al → Hp → Prop) → Prop) (K : Al → Hp → Prop) : Prop := ITER prog 105 [] [.pointer (some ⟨cap1, 0, none⟩)] H (fun vals H Kb => d1 vals fun w0 => liftI .i64 w0 fun z2 => G z2 H Kb) K
abbrev math_bits_TrailingZeros64.num : FuncId := 106
def math_bits_TrailingZeros64.C (x1 : Int) (H : Hp) (K : Int → Hp → Prop) : Prop := CallH prog 106 [.int .u64 x1] H (fun v H2 => liftI .i64 v fun r2 => K r2 H2)
abbrev order_circles.num : FuncId := 107
def order_circles.C (c1 : Option Addr) (H : Hp) (K : Option Addr → Nat → Nat → Hp → Prop) : Prop := CallH prog 107 [.pointer c1] H (fun v H2 => liftL v fun rp2 rl3 rc4 => K rp2 rl3 rc4 H2)
abbrev order_first.num : FuncId := 108
def order_first.C (c1 : Option Addr) (classesp2 : Option Addr) (classesl3 : Nat) (classesc4 : Nat) (i5 : Int) (H : Hp) (K : Bool → Hp → Prop) : Prop := CallH prog 108 [.pointer c1, .slice classesp2 classesl3 classesc4, .int .i64 i5] H (fun v H2 => liftB v fun r6 => K r6 H2)
abbrev slices_Delete_int_int.num : FuncId := 109
def slices_Delete_int_int.C (sp1 : Option Addr) (sl2 : Nat) (sc3 : Nat) (i4 : Int) (j5 : Int) (H : Hp) (K : Option Addr → Nat → Nat → Hp → Prop) : Prop := CallH prog 109 [.slice sp1 sl2 sc3, .int .i64 i4, .int .i64 j5] H (fun v H2 => liftL v fun rp6 rl7 rc8 => K rp6 rl7 rc8 H2)
abbrev internal_abi_NoEscape.num : FuncId := 110
def internal_abi_NoEscape.C (a1 : Option Addr) (H : Hp) (K : Option Addr → Hp → Prop) : Prop := CallH prog 110 [.pointer a1] H (fun v H2 => liftP v fun r2 => K r2 H2)
abbrev centoref2_Rel_IsOrder.num : FuncId := 111
def centoref2_Rel_IsOrder.C (r1 : Option Addr) (H : Hp) (K : Bool → Hp → Prop) : Prop := CallH prog 111 [.pointer r1] H (fun v H2 => liftB v fun r2 => K r2 H2)
abbrev centoref2_Rel_one.num : FuncId := 112
def centoref2_Rel_one.C (r1 : Option Addr) (a2 : Int) (bq3 : Int) (H : Hp) (K : Bool → Hp → Prop) : Prop := CallH prog 112 [.pointer r1, .int .i64 a2, .int .i64 bq3] H (fun v H2 => liftB v fun r4 => K r4 H2)
abbrev internal_stringslite_HasSuffix.num : FuncId := 113
def internal_stringslite_HasSuffix.C (s1 : ByteArray) (suffix2 : ByteArray) (H : Hp) (K : Bool → Hp → Prop) : Prop := CallH prog 113 [.string s1, .string suffix2] H (fun v H2 => liftB v fun r3 => K r3 H2)
abbrev rel_Rel_Behind.num : FuncId := 114
def rel_Rel_Behind.C (r1 : Option Addr) (a2 : Int) (H : Hp) (K : Value → Hp → Prop) : Prop := CallH prog 114 [.pointer r1, .int .i64 a2] H (fun v H2 => (fun r3 => K r3 H2) v)
abbrev rel_Rel_Behind_1.num : FuncId := 115
def rel_Rel_Behind_1.I  (H : Hp) (G : Int → Hp → (Al → Hp → Prop) → Prop) (K : Al → Hp → Prop) : Prop := ITER prog 115 [] [] H (fun vals H Kb => d1 vals fun w0 => liftI .i64 w0 fun z1 => G z1 H Kb) K
end
end Go.Proofs.YteijgmmjgbgffaaDoor
