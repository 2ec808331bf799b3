/- The types of the program and the calls of its functions, as the reckoner has them. -/
import Derived.Test.YtjfohhgmapipnaaProg
import Derived.Test.YtjfohhgmapipnaaVcUse
namespace Go.Proofs.Ytjfohhgmapipnaa
open Go.V
noncomputable section
@[reducible] noncomputable def prog : Program := Try.prog
theorem mix : prog.follows .mixedOrders = true := by kernel_rfl
instance : Sp := ⟨fun t => Nat.beq t 5 || Nat.beq t 99⟩
abbrev ty_unit : TypeId := 0
abbrev ty_int : TypeId := 3
abbrev ty_bool : TypeId := 4
abbrev ty_uint8 : TypeId := 5
abbrev ty_string : TypeId := 9
abbrev ty_sl_string : TypeId := 22
abbrev ty_funcstring_bool : TypeId := 26
abbrev ty_sl_uint8 : TypeId := 30
abbrev ty_uint64 : TypeId := 33
abbrev ty_p_sector_Disk : TypeId := 34
abbrev ty_8_string : TypeId := 36
abbrev ty_api_Errno : TypeId := 37
abbrev ty_uint : TypeId := 40
abbrev ty_string_api_Errno : TypeId := 42
abbrev ty_sl_centolaw19_Step : TypeId := 47
abbrev ty_p_centoref19_Disk : TypeId := 48
abbrev ty_centolaw19_Step : TypeId := 51
abbrev ty_sl_int : TypeId := 54
abbrev ty_centoref19_Disk : TypeId := 56
abbrev ty_string_int : TypeId := 57
abbrev ty_uint16 : TypeId := 60
abbrev ty_sl_centolaw20_Step : TypeId := 65
abbrev ty_centolaw20_Step : TypeId := 67
abbrev ty_iter_Seq_string : TypeId := 74
abbrev ty_sl_sector_write : TypeId := 78
abbrev ty_sector_Disk : TypeId := 80
abbrev ty_funcint_bool : TypeId := 82
abbrev ty_sector_write : TypeId := 84
abbrev ty_iter_Seq2_int_string : TypeId := 87
abbrev ty_slots_head : TypeId := 93
abbrev ty_slots_head_api_Errno : TypeId := 94
abbrev ty_p_strings_Builder : TypeId := 97
abbrev ty_strings_Builder : TypeId := 99
abbrev ty_error : TypeId := 101
abbrev ty_int_error : TypeId := 102
abbrev ty_uint_uint : TypeId := 106
abbrev ty_funcint_string_bool : TypeId := 108
abbrev ty_iter_Seq2_int_sector_write : TypeId := 110
abbrev ty_slots_head_bool : TypeId := 112
abbrev ty_8_uint8 : TypeId := 114
abbrev ty_p_uint8 : TypeId := 116
abbrev ty_uint32 : TypeId := 118
abbrev ty_uint32_uint32 : TypeId := 119
abbrev ty_uint64_uint64 : TypeId := 121
abbrev ty_funcint_sector_write_bool : TypeId := 123
abbrev ty_string_bool : TypeId := 124
abbrev ty_p_codec_Reader : TypeId := 126
abbrev ty_codec_Reader : TypeId := 128
abbrev ty_unsafe_Pointer : TypeId := 129
abbrev ty_int_string_bool : TypeId := 133
def te_unit : TE := ⟨.tup [], 1, 0, [], [], []⟩
theorem te_unit.ok : TSpec prog 0 te_unit := TSpec.tup (i := Try.t0) (by kernel_rfl) (by kernel_rfl) (by kernel_rfl) (by kernel_rfl) (by kernel_rfl)
def te_int : TE := ⟨.sc, 1, 8, [.int .i64], [.int .i64 (0 : Int)], []⟩
theorem te_int.ok : TSpec prog 3 te_int := TSpec.sc (i := Try.t3) (d := descOf Try.t3) (by kernel_rfl) (by kernel_rfl) (by kernel_rfl) (by kernel_rfl) (by kernel_rfl) (by kernel_rfl) (by kernel_rfl) (by kernel_rfl) (by kernel_rfl)
def te_bool : TE := ⟨.sc, 1, 1, [.bool], [.bool false], []⟩
theorem te_bool.ok : TSpec prog 4 te_bool := TSpec.sc (i := Try.t4) (d := descOf Try.t4) (by kernel_rfl) (by kernel_rfl) (by kernel_rfl) (by kernel_rfl) (by kernel_rfl) (by kernel_rfl) (by kernel_rfl) (by kernel_rfl) (by kernel_rfl)
def te_uint8 : TE := ⟨.sc, 1, 1, [.int .u8], [.int .u8 (0 : Int)], [tyM 5 0 0]⟩
theorem te_uint8.ok : TSpec prog 5 te_uint8 := TSpec.sc (i := Try.t5) (d := descOf Try.t5) (by kernel_rfl) (by kernel_rfl) (by kernel_rfl) (by kernel_rfl) (by kernel_rfl) (by kernel_rfl) (by kernel_rfl) (by kernel_rfl) (by kernel_rfl)
def te_string : TE := ⟨.sc, 1, 16, [.str], [.string .empty], []⟩
theorem te_string.ok : TSpec prog 9 te_string := TSpec.sc (i := Try.t9) (d := descOf Try.t9) (by kernel_rfl) (by kernel_rfl) (by kernel_rfl) (by kernel_rfl) (by kernel_rfl) (by kernel_rfl) (by kernel_rfl) (by kernel_rfl) (by kernel_rfl)
def te_sl_string : TE := ⟨.sl 9, 1, 24, [.slice], [.slice none 0 0], []⟩
theorem te_sl_string.ok : TSpec prog 22 te_sl_string := TSpec.sl (i := Try.t22) (by kernel_rfl) (by kernel_rfl) (by kernel_rfl) (by kernel_rfl) (by kernel_rfl) (by kernel_rfl)
def te_funcstring_bool : TE := ⟨.sc, 1, 8, [.any], [.nilFunc], []⟩
theorem te_funcstring_bool.ok : TSpec prog 26 te_funcstring_bool := TSpec.sc (i := Try.t26) (d := descOf Try.t26) (by kernel_rfl) (by kernel_rfl) (by kernel_rfl) (by kernel_rfl) (by kernel_rfl) (by kernel_rfl) (by kernel_rfl) (by kernel_rfl) (by kernel_rfl)
def te_sl_uint8 : TE := ⟨.sl 5, 1, 24, [.slice], [.slice none 0 0], []⟩
theorem te_sl_uint8.ok : TSpec prog 30 te_sl_uint8 := TSpec.sl (i := Try.t30) (by kernel_rfl) (by kernel_rfl) (by kernel_rfl) (by kernel_rfl) (by kernel_rfl) (by kernel_rfl)
def te_uint64 : TE := ⟨.sc, 1, 8, [.int .u64], [.int .u64 (0 : Int)], []⟩
theorem te_uint64.ok : TSpec prog 33 te_uint64 := TSpec.sc (i := Try.t33) (d := descOf Try.t33) (by kernel_rfl) (by kernel_rfl) (by kernel_rfl) (by kernel_rfl) (by kernel_rfl) (by kernel_rfl) (by kernel_rfl) (by kernel_rfl) (by kernel_rfl)
def te_p_sector_Disk : TE := ⟨.sc, 1, 8, [.ptr], [.pointer none], []⟩
theorem te_p_sector_Disk.ok : TSpec prog 34 te_p_sector_Disk := TSpec.sc (i := Try.t34) (d := descOf Try.t34) (by kernel_rfl) (by kernel_rfl) (by kernel_rfl) (by kernel_rfl) (by kernel_rfl) (by kernel_rfl) (by kernel_rfl) (by kernel_rfl) (by kernel_rfl)
def te_8_string : TE := ⟨.ar 8 9, 8, 128, [], [.string .empty, .string .empty, .string .empty, .string .empty, .string .empty, .string .empty, .string .empty, .string .empty], []⟩
theorem te_8_string.ok : TSpec prog 36 te_8_string := TSpec.ar (i := Try.t36) (by kernel_rfl) (by kernel_rfl) (by kernel_rfl) (by kernel_rfl) (by kernel_rfl) (by kernel_rfl) (by kernel_rfl)
def te_api_Errno : TE := ⟨.sc, 1, 8, [.int .i64], [.int .i64 (0 : Int)], []⟩
theorem te_api_Errno.ok : TSpec prog 37 te_api_Errno := TSpec.sc (i := Try.t37) (d := descOf Try.t3) (by kernel_rfl) (by kernel_rfl) (by kernel_rfl) (by kernel_rfl) (by kernel_rfl) (by kernel_rfl) (by kernel_rfl) (by kernel_rfl) (by kernel_rfl)
def te_uint : TE := ⟨.sc, 1, 8, [.int .u64], [.int .u64 (0 : Int)], []⟩
theorem te_uint.ok : TSpec prog 40 te_uint := TSpec.sc (i := Try.t40) (d := descOf Try.t40) (by kernel_rfl) (by kernel_rfl) (by kernel_rfl) (by kernel_rfl) (by kernel_rfl) (by kernel_rfl) (by kernel_rfl) (by kernel_rfl) (by kernel_rfl)
def te_string_api_Errno : TE := ⟨.tup [9, 37], 1, 0, [], [], []⟩
theorem te_string_api_Errno.ok : TSpec prog 42 te_string_api_Errno := TSpec.tup (i := Try.t42) (by kernel_rfl) (by kernel_rfl) (by kernel_rfl) (by kernel_rfl) (by kernel_rfl)
def te_sl_centolaw19_Step : TE := ⟨.sl 51, 1, 24, [.slice], [.slice none 0 0], []⟩
theorem te_sl_centolaw19_Step.ok : TSpec prog 47 te_sl_centolaw19_Step := TSpec.sl (i := Try.t47) (by kernel_rfl) (by kernel_rfl) (by kernel_rfl) (by kernel_rfl) (by kernel_rfl) (by kernel_rfl)
def te_p_centoref19_Disk : TE := ⟨.sc, 1, 8, [.ptr], [.pointer none], []⟩
theorem te_p_centoref19_Disk.ok : TSpec prog 48 te_p_centoref19_Disk := TSpec.sc (i := Try.t48) (d := descOf Try.t48) (by kernel_rfl) (by kernel_rfl) (by kernel_rfl) (by kernel_rfl) (by kernel_rfl) (by kernel_rfl) (by kernel_rfl) (by kernel_rfl) (by kernel_rfl)
def te_centolaw19_Step : TE := ⟨.st [(0, 3), (1, 3), (2, 9), (3, 33)], 4, 40, [.int .i64, .int .i64, .str, .int .u64], [.int .i64 (0 : Int), .int .i64 (0 : Int), .string .empty, .int .u64 (0 : Int)], []⟩
theorem te_centolaw19_Step.ok : TSpec prog 51 te_centolaw19_Step := TSpec.st (i := Try.t51) (fields := structOf Try.t50) (by kernel_rfl) (by kernel_rfl) (by kernel_rfl) (by kernel_rfl) (by kernel_rfl) (by kernel_rfl) (by kernel_rfl) (by kernel_rfl) (by kernel_rfl) (by kernel_rfl) (by kernel_rfl) (by kernel_rfl) (by kernel_rfl)
def te_sl_int : TE := ⟨.sl 3, 1, 24, [.slice], [.slice none 0 0], []⟩
theorem te_sl_int.ok : TSpec prog 54 te_sl_int := TSpec.sl (i := Try.t54) (by kernel_rfl) (by kernel_rfl) (by kernel_rfl) (by kernel_rfl) (by kernel_rfl) (by kernel_rfl)
def te_centoref19_Disk : TE := ⟨.st [(0, 22), (1, 54), (2, 22), (3, 3), (4, 3), (5, 4)], 6, 96, [.slice, .slice, .slice, .int .i64, .int .i64, .bool], [.slice none 0 0, .slice none 0 0, .slice none 0 0, .int .i64 (0 : Int), .int .i64 (0 : Int), .bool false], []⟩
theorem te_centoref19_Disk.ok : TSpec prog 56 te_centoref19_Disk := TSpec.st (i := Try.t56) (fields := structOf Try.t55) (by kernel_rfl) (by kernel_rfl) (by kernel_rfl) (by kernel_rfl) (by kernel_rfl) (by kernel_rfl) (by kernel_rfl) (by kernel_rfl) (by kernel_rfl) (by kernel_rfl) (by kernel_rfl) (by kernel_rfl) (by kernel_rfl)
def te_string_int : TE := ⟨.tup [9, 3], 1, 0, [], [], []⟩
theorem te_string_int.ok : TSpec prog 57 te_string_int := TSpec.tup (i := Try.t57) (by kernel_rfl) (by kernel_rfl) (by kernel_rfl) (by kernel_rfl) (by kernel_rfl)
def te_uint16 : TE := ⟨.sc, 1, 2, [.int .u16], [.int .u16 (0 : Int)], []⟩
theorem te_uint16.ok : TSpec prog 60 te_uint16 := TSpec.sc (i := Try.t60) (d := descOf Try.t60) (by kernel_rfl) (by kernel_rfl) (by kernel_rfl) (by kernel_rfl) (by kernel_rfl) (by kernel_rfl) (by kernel_rfl) (by kernel_rfl) (by kernel_rfl)
def te_sl_centolaw20_Step : TE := ⟨.sl 67, 1, 24, [.slice], [.slice none 0 0], []⟩
theorem te_sl_centolaw20_Step.ok : TSpec prog 65 te_sl_centolaw20_Step := TSpec.sl (i := Try.t65) (by kernel_rfl) (by kernel_rfl) (by kernel_rfl) (by kernel_rfl) (by kernel_rfl) (by kernel_rfl)
def te_centolaw20_Step : TE := ⟨.st [(0, 9), (1, 3), (2, 33)], 3, 32, [.str, .int .i64, .int .u64], [.string .empty, .int .i64 (0 : Int), .int .u64 (0 : Int)], []⟩
theorem te_centolaw20_Step.ok : TSpec prog 67 te_centolaw20_Step := TSpec.st (i := Try.t67) (fields := structOf Try.t66) (by kernel_rfl) (by kernel_rfl) (by kernel_rfl) (by kernel_rfl) (by kernel_rfl) (by kernel_rfl) (by kernel_rfl) (by kernel_rfl) (by kernel_rfl) (by kernel_rfl) (by kernel_rfl) (by kernel_rfl) (by kernel_rfl)
def te_iter_Seq_string : TE := ⟨.sc, 1, 8, [.any], [.nilFunc], []⟩
theorem te_iter_Seq_string.ok : TSpec prog 74 te_iter_Seq_string := TSpec.sc (i := Try.t74) (d := descOf Try.t73) (by kernel_rfl) (by kernel_rfl) (by kernel_rfl) (by kernel_rfl) (by kernel_rfl) (by kernel_rfl) (by kernel_rfl) (by kernel_rfl) (by kernel_rfl)
def te_sl_sector_write : TE := ⟨.sl 84, 1, 24, [.slice], [.slice none 0 0], []⟩
theorem te_sl_sector_write.ok : TSpec prog 78 te_sl_sector_write := TSpec.sl (i := Try.t78) (by kernel_rfl) (by kernel_rfl) (by kernel_rfl) (by kernel_rfl) (by kernel_rfl) (by kernel_rfl)
def te_sector_Disk : TE := ⟨.st [(0, 22), (1, 78), (2, 3), (3, 3)], 4, 64, [.slice, .slice, .int .i64, .int .i64], [.slice none 0 0, .slice none 0 0, .int .i64 (0 : Int), .int .i64 (0 : Int)], []⟩
theorem te_sector_Disk.ok : TSpec prog 80 te_sector_Disk := TSpec.st (i := Try.t80) (fields := structOf Try.t79) (by kernel_rfl) (by kernel_rfl) (by kernel_rfl) (by kernel_rfl) (by kernel_rfl) (by kernel_rfl) (by kernel_rfl) (by kernel_rfl) (by kernel_rfl) (by kernel_rfl) (by kernel_rfl) (by kernel_rfl) (by kernel_rfl)
def te_funcint_bool : TE := ⟨.sc, 1, 8, [.any], [.nilFunc], []⟩
theorem te_funcint_bool.ok : TSpec prog 82 te_funcint_bool := TSpec.sc (i := Try.t82) (d := descOf Try.t82) (by kernel_rfl) (by kernel_rfl) (by kernel_rfl) (by kernel_rfl) (by kernel_rfl) (by kernel_rfl) (by kernel_rfl) (by kernel_rfl) (by kernel_rfl)
def te_sector_write : TE := ⟨.st [(0, 3), (1, 9)], 2, 24, [.int .i64, .str], [.int .i64 (0 : Int), .string .empty], []⟩
theorem te_sector_write.ok : TSpec prog 84 te_sector_write := TSpec.st (i := Try.t84) (fields := structOf Try.t83) (by kernel_rfl) (by kernel_rfl) (by kernel_rfl) (by kernel_rfl) (by kernel_rfl) (by kernel_rfl) (by kernel_rfl) (by kernel_rfl) (by kernel_rfl) (by kernel_rfl) (by kernel_rfl) (by kernel_rfl) (by kernel_rfl)
def te_iter_Seq2_int_string : TE := ⟨.sc, 1, 8, [.any], [.nilFunc], []⟩
theorem te_iter_Seq2_int_string.ok : TSpec prog 87 te_iter_Seq2_int_string := TSpec.sc (i := Try.t87) (d := descOf Try.t86) (by kernel_rfl) (by kernel_rfl) (by kernel_rfl) (by kernel_rfl) (by kernel_rfl) (by kernel_rfl) (by kernel_rfl) (by kernel_rfl) (by kernel_rfl)
def te_slots_head : TE := ⟨.st [(0, 33), (1, 3), (2, 3), (3, 3)], 4, 32, [.int .u64, .int .i64, .int .i64, .int .i64], [.int .u64 (0 : Int), .int .i64 (0 : Int), .int .i64 (0 : Int), .int .i64 (0 : Int)], []⟩
theorem te_slots_head.ok : TSpec prog 93 te_slots_head := TSpec.st (i := Try.t93) (fields := structOf Try.t92) (by kernel_rfl) (by kernel_rfl) (by kernel_rfl) (by kernel_rfl) (by kernel_rfl) (by kernel_rfl) (by kernel_rfl) (by kernel_rfl) (by kernel_rfl) (by kernel_rfl) (by kernel_rfl) (by kernel_rfl) (by kernel_rfl)
def te_slots_head_api_Errno : TE := ⟨.tup [93, 37], 1, 0, [], [], []⟩
theorem te_slots_head_api_Errno.ok : TSpec prog 94 te_slots_head_api_Errno := TSpec.tup (i := Try.t94) (by kernel_rfl) (by kernel_rfl) (by kernel_rfl) (by kernel_rfl) (by kernel_rfl)
def te_p_strings_Builder : TE := ⟨.sc, 1, 8, [.ptr], [.pointer none], []⟩
theorem te_p_strings_Builder.ok : TSpec prog 97 te_p_strings_Builder := TSpec.sc (i := Try.t97) (d := descOf Try.t97) (by kernel_rfl) (by kernel_rfl) (by kernel_rfl) (by kernel_rfl) (by kernel_rfl) (by kernel_rfl) (by kernel_rfl) (by kernel_rfl) (by kernel_rfl)
def te_strings_Builder : TE := ⟨.st [(0, 97), (1, 30)], 2, 32, [.ptr, .slice], [.pointer none, .slice none 0 0], [tyM 99 0 0]⟩
theorem te_strings_Builder.ok : TSpec prog 99 te_strings_Builder := TSpec.st (i := Try.t99) (fields := structOf Try.t98) (by kernel_rfl) (by kernel_rfl) (by kernel_rfl) (by kernel_rfl) (by kernel_rfl) (by kernel_rfl) (by kernel_rfl) (by kernel_rfl) (by kernel_rfl) (by kernel_rfl) (by kernel_rfl) (by kernel_rfl) (by kernel_rfl)
def te_error : TE := ⟨.sc, 1, 16, [.any], [.nilIface], []⟩
theorem te_error.ok : TSpec prog 101 te_error := TSpec.sc (i := Try.t101) (d := descOf Try.t100) (by kernel_rfl) (by kernel_rfl) (by kernel_rfl) (by kernel_rfl) (by kernel_rfl) (by kernel_rfl) (by kernel_rfl) (by kernel_rfl) (by kernel_rfl)
def te_int_error : TE := ⟨.tup [3, 101], 1, 0, [], [], []⟩
theorem te_int_error.ok : TSpec prog 102 te_int_error := TSpec.tup (i := Try.t102) (by kernel_rfl) (by kernel_rfl) (by kernel_rfl) (by kernel_rfl) (by kernel_rfl)
def te_uint_uint : TE := ⟨.tup [40, 40], 1, 0, [], [], []⟩
theorem te_uint_uint.ok : TSpec prog 106 te_uint_uint := TSpec.tup (i := Try.t106) (by kernel_rfl) (by kernel_rfl) (by kernel_rfl) (by kernel_rfl) (by kernel_rfl)
def te_funcint_string_bool : TE := ⟨.sc, 1, 8, [.any], [.nilFunc], []⟩
theorem te_funcint_string_bool.ok : TSpec prog 108 te_funcint_string_bool := TSpec.sc (i := Try.t108) (d := descOf Try.t108) (by kernel_rfl) (by kernel_rfl) (by kernel_rfl) (by kernel_rfl) (by kernel_rfl) (by kernel_rfl) (by kernel_rfl) (by kernel_rfl) (by kernel_rfl)
def te_iter_Seq2_int_sector_write : TE := ⟨.sc, 1, 8, [.any], [.nilFunc], []⟩
theorem te_iter_Seq2_int_sector_write.ok : TSpec prog 110 te_iter_Seq2_int_sector_write := TSpec.sc (i := Try.t110) (d := descOf Try.t109) (by kernel_rfl) (by kernel_rfl) (by kernel_rfl) (by kernel_rfl) (by kernel_rfl) (by kernel_rfl) (by kernel_rfl) (by kernel_rfl) (by kernel_rfl)
def te_slots_head_bool : TE := ⟨.tup [93, 4], 1, 0, [], [], []⟩
theorem te_slots_head_bool.ok : TSpec prog 112 te_slots_head_bool := TSpec.tup (i := Try.t112) (by kernel_rfl) (by kernel_rfl) (by kernel_rfl) (by kernel_rfl) (by kernel_rfl)
def te_8_uint8 : TE := ⟨.ar 8 5, 8, 8, [], [.int .u8 (0 : Int), .int .u8 (0 : Int), .int .u8 (0 : Int), .int .u8 (0 : Int), .int .u8 (0 : Int), .int .u8 (0 : Int), .int .u8 (0 : Int), .int .u8 (0 : Int)], []⟩
theorem te_8_uint8.ok : TSpec prog 114 te_8_uint8 := TSpec.ar (i := Try.t114) (by kernel_rfl) (by kernel_rfl) (by kernel_rfl) (by kernel_rfl) (by kernel_rfl) (by kernel_rfl) (by kernel_rfl)
def te_p_uint8 : TE := ⟨.sc, 1, 8, [.ptr], [.pointer none], []⟩
theorem te_p_uint8.ok : TSpec prog 116 te_p_uint8 := TSpec.sc (i := Try.t116) (d := descOf Try.t116) (by kernel_rfl) (by kernel_rfl) (by kernel_rfl) (by kernel_rfl) (by kernel_rfl) (by kernel_rfl) (by kernel_rfl) (by kernel_rfl) (by kernel_rfl)
def te_uint32 : TE := ⟨.sc, 1, 4, [.int .u32], [.int .u32 (0 : Int)], []⟩
theorem te_uint32.ok : TSpec prog 118 te_uint32 := TSpec.sc (i := Try.t118) (d := descOf Try.t118) (by kernel_rfl) (by kernel_rfl) (by kernel_rfl) (by kernel_rfl) (by kernel_rfl) (by kernel_rfl) (by kernel_rfl) (by kernel_rfl) (by kernel_rfl)
def te_uint32_uint32 : TE := ⟨.tup [118, 118], 1, 0, [], [], []⟩
theorem te_uint32_uint32.ok : TSpec prog 119 te_uint32_uint32 := TSpec.tup (i := Try.t119) (by kernel_rfl) (by kernel_rfl) (by kernel_rfl) (by kernel_rfl) (by kernel_rfl)
def te_uint64_uint64 : TE := ⟨.tup [33, 33], 1, 0, [], [], []⟩
theorem te_uint64_uint64.ok : TSpec prog 121 te_uint64_uint64 := TSpec.tup (i := Try.t121) (by kernel_rfl) (by kernel_rfl) (by kernel_rfl) (by kernel_rfl) (by kernel_rfl)
def te_funcint_sector_write_bool : TE := ⟨.sc, 1, 8, [.any], [.nilFunc], []⟩
theorem te_funcint_sector_write_bool.ok : TSpec prog 123 te_funcint_sector_write_bool := TSpec.sc (i := Try.t123) (d := descOf Try.t123) (by kernel_rfl) (by kernel_rfl) (by kernel_rfl) (by kernel_rfl) (by kernel_rfl) (by kernel_rfl) (by kernel_rfl) (by kernel_rfl) (by kernel_rfl)
def te_string_bool : TE := ⟨.tup [9, 4], 1, 0, [], [], []⟩
theorem te_string_bool.ok : TSpec prog 124 te_string_bool := TSpec.tup (i := Try.t124) (by kernel_rfl) (by kernel_rfl) (by kernel_rfl) (by kernel_rfl) (by kernel_rfl)
def te_p_codec_Reader : TE := ⟨.sc, 1, 8, [.ptr], [.pointer none], []⟩
theorem te_p_codec_Reader.ok : TSpec prog 126 te_p_codec_Reader := TSpec.sc (i := Try.t126) (d := descOf Try.t126) (by kernel_rfl) (by kernel_rfl) (by kernel_rfl) (by kernel_rfl) (by kernel_rfl) (by kernel_rfl) (by kernel_rfl) (by kernel_rfl) (by kernel_rfl)
def te_codec_Reader : TE := ⟨.st [(0, 9), (1, 4)], 2, 24, [.str, .bool], [.string .empty, .bool false], []⟩
theorem te_codec_Reader.ok : TSpec prog 128 te_codec_Reader := TSpec.st (i := Try.t128) (fields := structOf Try.t127) (by kernel_rfl) (by kernel_rfl) (by kernel_rfl) (by kernel_rfl) (by kernel_rfl) (by kernel_rfl) (by kernel_rfl) (by kernel_rfl) (by kernel_rfl) (by kernel_rfl) (by kernel_rfl) (by kernel_rfl) (by kernel_rfl)
def te_unsafe_Pointer : TE := ⟨.sc, 1, 8, [.ptr], [.pointer none], []⟩
theorem te_unsafe_Pointer.ok : TSpec prog 129 te_unsafe_Pointer := TSpec.sc (i := Try.t129) (d := descOf Try.t129) (by kernel_rfl) (by kernel_rfl) (by kernel_rfl) (by kernel_rfl) (by kernel_rfl) (by kernel_rfl) (by kernel_rfl) (by kernel_rfl) (by kernel_rfl)
def te_int_string_bool : TE := ⟨.tup [3, 9, 4], 1, 0, [], [], []⟩
theorem te_int_string_bool.ok : TSpec prog 133 te_int_string_bool := TSpec.tup (i := Try.t133) (by kernel_rfl) (by kernel_rfl) (by kernel_rfl) (by kernel_rfl) (by kernel_rfl)
def tab : Tab := Tab.of [(0, te_unit), (3, te_int), (4, te_bool), (5, te_uint8), (9, te_string), (22, te_sl_string), (26, te_funcstring_bool), (30, te_sl_uint8), (33, te_uint64), (34, te_p_sector_Disk), (36, te_8_string), (37, te_api_Errno), (40, te_uint), (42, te_string_api_Errno), (47, te_sl_centolaw19_Step), (48, te_p_centoref19_Disk), (51, te_centolaw19_Step), (54, te_sl_int), (56, te_centoref19_Disk), (57, te_string_int), (60, te_uint16), (65, te_sl_centolaw20_Step), (67, te_centolaw20_Step), (74, te_iter_Seq_string), (78, te_sl_sector_write), (80, te_sector_Disk), (82, te_funcint_bool), (84, te_sector_write), (87, te_iter_Seq2_int_string), (93, te_slots_head), (94, te_slots_head_api_Errno), (97, te_p_strings_Builder), (99, te_strings_Builder), (101, te_error), (102, te_int_error), (106, te_uint_uint), (108, te_funcint_string_bool), (110, te_iter_Seq2_int_sector_write), (112, te_slots_head_bool), (114, te_8_uint8), (116, te_p_uint8), (118, te_uint32), (119, te_uint32_uint32), (121, te_uint64_uint64), (123, te_funcint_sector_write_bool), (124, te_string_bool), (126, te_p_codec_Reader), (128, te_codec_Reader), (129, te_unsafe_Pointer), (133, te_int_string_bool)]
theorem tabOk : TOk prog tab := (TOk.cons te_unit.ok (TOk.cons te_int.ok (TOk.cons te_bool.ok (TOk.cons te_uint8.ok (TOk.cons te_string.ok (TOk.cons te_sl_string.ok (TOk.cons te_funcstring_bool.ok (TOk.cons te_sl_uint8.ok (TOk.cons te_uint64.ok (TOk.cons te_p_sector_Disk.ok (TOk.cons te_8_string.ok (TOk.cons te_api_Errno.ok (TOk.cons te_uint.ok (TOk.cons te_string_api_Errno.ok (TOk.cons te_sl_centolaw19_Step.ok (TOk.cons te_p_centoref19_Disk.ok (TOk.cons te_centolaw19_Step.ok (TOk.cons te_sl_int.ok (TOk.cons te_centoref19_Disk.ok (TOk.cons te_string_int.ok (TOk.cons te_uint16.ok (TOk.cons te_sl_centolaw20_Step.ok (TOk.cons te_centolaw20_Step.ok (TOk.cons te_iter_Seq_string.ok (TOk.cons te_sl_sector_write.ok (TOk.cons te_sector_Disk.ok (TOk.cons te_funcint_bool.ok (TOk.cons te_sector_write.ok (TOk.cons te_iter_Seq2_int_string.ok (TOk.cons te_slots_head.ok (TOk.cons te_slots_head_api_Errno.ok (TOk.cons te_p_strings_Builder.ok (TOk.cons te_strings_Builder.ok (TOk.cons te_error.ok (TOk.cons te_int_error.ok (TOk.cons te_uint_uint.ok (TOk.cons te_funcint_string_bool.ok (TOk.cons te_iter_Seq2_int_sector_write.ok (TOk.cons te_slots_head_bool.ok (TOk.cons te_8_uint8.ok (TOk.cons te_p_uint8.ok (TOk.cons te_uint32.ok (TOk.cons te_uint32_uint32.ok (TOk.cons te_uint64_uint64.ok (TOk.cons te_funcint_sector_write_bool.ok (TOk.cons te_string_bool.ok (TOk.cons te_p_codec_Reader.ok (TOk.cons te_codec_Reader.ok (TOk.cons te_unsafe_Pointer.ok (TOk.cons te_int_string_bool.ok (TOk.nil _)))))))))))))))))))))))))))))))))))))))))))))))))))
abbrev centolaw10_SplitTells.num : FuncId := 3
def centolaw10_SplitTells.C (s1 : ByteArray) (lp2 : Option Addr) (ll3 : Nat) (lc4 : Nat) (H : Hp) (K : Bool → Hp → Prop) : Prop := CallH prog 3 [.string s1, .slice lp2 ll3 lc4] H (fun v H2 => liftB v fun r5 => K r5 H2)
abbrev centolaw10_SplitBack.num : FuncId := 4
def centolaw10_SplitBack.C (s1 : ByteArray) (lp2 : Option Addr) (ll3 : Nat) (lc4 : Nat) (H : Hp) (K : Bool → Hp → Prop) : Prop := CallH prog 4 [.string s1, .slice lp2 ll3 lc4] H (fun v H2 => liftB v fun r5 => K r5 H2)
abbrev centolaw10_SplitFits.num : FuncId := 5
def centolaw10_SplitFits.C (n1 : Int) (atq2 : Int) (H : Hp) (K : Bool → Hp → Prop) : Prop := CallH prog 5 [.int .u8 n1, .int .u8 atq2] H (fun v H2 => liftB v fun r3 => K r3 H2)
abbrev centolaw10_SplitParts.num : FuncId := 6
def centolaw10_SplitParts.C (a1 : ByteArray) (bq2 : ByteArray) (H : Hp) (K : Bool → Hp → Prop) : Prop := CallH prog 6 [.string a1, .string bq2] H (fun v H2 => liftB v fun r3 => K r3 H2)
abbrev centolaw19_DiskKeeps.num : FuncId := 7
def centolaw19_DiskKeeps.C (ap1 : Option Addr) (al2 : Nat) (ac3 : Nat) (bp4 : Option Addr) (bl5 : Nat) (bcq6 : Nat) (keep7 : Int) (H : Hp) (K : Bool → Hp → Prop) : Prop := CallH prog 7 [.slice ap1 al2 ac3, .slice bp4 bl5 bcq6, .int .u64 keep7] H (fun v H2 => liftB v fun r8 => K r8 H2)
abbrev centolaw19_DiskLimits.num : FuncId := 8
def centolaw19_DiskLimits.C (n1 : Int) (tries2 : Int) (H : Hp) (K : Bool → Hp → Prop) : Prop := CallH prog 8 [.int .u8 n1, .int .u8 tries2] H (fun v H2 => liftB v fun r3 => K r3 H2)
abbrev centolaw19_DiskPlays.num : FuncId := 9
def centolaw19_DiskPlays.C (n1 : Int) (lp2 : Option Addr) (ll3 : Nat) (lc4 : Nat) (H : Hp) (K : Bool → Hp → Prop) : Prop := CallH prog 9 [.int .i64 n1, .slice lp2 ll3 lc4] H (fun v H2 => liftB v fun r5 => K r5 H2)
abbrev centolaw20_SlotsRoom.num : FuncId := 10
def centolaw20_SlotsRoom.C (n1 : Int) (cut2 : Int) (H : Hp) (K : Bool → Hp → Prop) : Prop := CallH prog 10 [.int .u16 n1, .int .u16 cut2] H (fun v H2 => liftB v fun r3 => K r3 H2)
abbrev centolaw20_SlotsPlay.num : FuncId := 11
def centolaw20_SlotsPlay.C (n1 : Int) (lp2 : Option Addr) (ll3 : Nat) (lc4 : Nat) (H : Hp) (K : Bool → Hp → Prop) : Prop := CallH prog 11 [.int .u8 n1, .slice lp2 ll3 lc4] H (fun v H2 => liftB v fun r5 => K r5 H2)
abbrev centolaw20_SlotsAgain.num : FuncId := 12
def centolaw20_SlotsAgain.C (a1 : ByteArray) (bq2 : ByteArray) (first3 : Int) (second4 : Int) (x5 : Int) (y6 : Int) (H : Hp) (K : Bool → Hp → Prop) : Prop := CallH prog 12 [.string a1, .string bq2, .int .u8 first3, .int .u8 second4, .int .u64 x5, .int .u64 y6] H (fun v H2 => liftB v fun r7 => K r7 H2)
abbrev centolaw20_SlotsOff.num : FuncId := 13
def centolaw20_SlotsOff.C (a1 : ByteArray) (bq2 : ByteArray) (keep3 : Int) (H : Hp) (K : Bool → Hp → Prop) : Prop := CallH prog 13 [.string a1, .string bq2, .int .u64 keep3] H (fun v H2 => liftB v fun r4 => K r4 H2)
abbrev centolaw10_known.num : FuncId := 14
def centolaw10_known.C  (H : Hp) (K : Bool → Hp → Prop) : Prop := CallH prog 14 [] H (fun v H2 => liftB v fun r1 => K r1 H2)
abbrev centolaw10_same.num : FuncId := 15
def centolaw10_same.C (ap1 : Option Addr) (al2 : Nat) (ac3 : Nat) (bp4 : Option Addr) (bl5 : Nat) (bcq6 : Nat) (H : Hp) (K : Bool → Hp → Prop) : Prop := CallH prog 15 [.slice ap1 al2 ac3, .slice bp4 bl5 bcq6] H (fun v H2 => liftB v fun r7 => K r7 H2)
abbrev split_Lines.num : FuncId := 16
def split_Lines.C (s1 : ByteArray) (H : Hp) (K : Option Addr → Nat → Nat → Hp → Prop) : Prop := CallH prog 16 [.string s1] H (fun v H2 => liftL v fun rp2 rl3 rc4 => K rp2 rl3 rc4 H2)
abbrev centoref10_Lines.num : FuncId := 17
def centoref10_Lines.C (s1 : ByteArray) (H : Hp) (K : Option Addr → Nat → Nat → Hp → Prop) : Prop := CallH prog 17 [.string s1] H (fun v H2 => liftL v fun rp2 rl3 rc4 => K rp2 rl3 rc4 H2)
abbrev split_Fits.num : FuncId := 18
def split_Fits.C (s1 : ByteArray) (H : Hp) (K : Bool → Hp → Prop) : Prop := CallH prog 18 [.string s1] H (fun v H2 => liftB v fun r2 => K r2 H2)
abbrev centoref10_Fits.num : FuncId := 19
def centoref10_Fits.C (s1 : ByteArray) (H : Hp) (K : Bool → Hp → Prop) : Prop := CallH prog 19 [.string s1] H (fun v H2 => liftB v fun r2 => K r2 H2)
abbrev split_Is.num : FuncId := 20
def split_Is.C (lp1 : Option Addr) (ll2 : Nat) (lc3 : Nat) (H : Hp) (K : Bool → Hp → Prop) : Prop := CallH prog 20 [.slice lp1 ll2 lc3] H (fun v H2 => liftB v fun r4 => K r4 H2)
abbrev centolaw10_is.num : FuncId := 21
def centolaw10_is.C (lp1 : Option Addr) (ll2 : Nat) (lc3 : Nat) (H : Hp) (K : Bool → Hp → Prop) : Prop := CallH prog 21 [.slice lp1 ll2 lc3] H (fun v H2 => liftB v fun r4 => K r4 H2)
abbrev split_Join.num : FuncId := 22
def split_Join.C (lp1 : Option Addr) (ll2 : Nat) (lc3 : Nat) (H : Hp) (K : ByteArray → Hp → Prop) : Prop := CallH prog 22 [.slice lp1 ll2 lc3] H (fun v H2 => liftS v fun r4 => K r4 H2)
abbrev centolaw19_known.num : FuncId := 23
def centolaw19_known.C  (H : Hp) (K : Bool → Hp → Prop) : Prop := CallH prog 23 [] H (fun v H2 => liftB v fun r1 => K r1 H2)
abbrev sector_New.num : FuncId := 24
def sector_New.C (sectors1 : Int) (H : Hp) (K : Option Addr → Hp → Prop) : Prop := CallH prog 24 [.int .i64 sectors1] H (fun v H2 => liftP v fun r2 => K r2 H2)
abbrev sector_Disk_Write.num : FuncId := 25
def sector_Disk_Write.C (d1 : Option Addr) (i2 : Int) (bq3 : ByteArray) (H : Hp) (K : Int → Hp → Prop) : Prop := CallH prog 25 [.pointer d1, .int .i64 i2, .string bq3] H (fun v H2 => liftI .i64 v fun r4 => K r4 H2)
abbrev sector_Disk_Flush.num : FuncId := 26
def sector_Disk_Flush.C (d1 : Option Addr) (H : Hp) (K : Int → Hp → Prop) : Prop := CallH prog 26 [.pointer d1] H (fun v H2 => liftI .i64 v fun r2 => K r2 H2)
abbrev sector_Disk_Crash.num : FuncId := 27
def sector_Disk_Crash.C (d1 : Option Addr) (keep2 : Int) (H : Hp) (K : Hp → Prop) : Prop := CallH prog 27 [.pointer d1, .int .u64 keep2] H (fun v H2 => tupV v fun vs => d0 vs (K H2))
abbrev sector_Disk_Read.num : FuncId := 28
def sector_Disk_Read.C (d1 : Option Addr) (i2 : Int) (H : Hp) (K : ByteArray → Int → Hp → Prop) : Prop := CallH prog 28 [.pointer d1, .int .i64 i2] H (fun v H2 => tupV v fun vs => d2 vs fun wv0 wv1 => liftS wv0 fun r3 => liftI .i64 wv1 fun r4 => K r3 r4 H2)
abbrev sector_Disk_Steps.num : FuncId := 29
def sector_Disk_Steps.C (d1 : Option Addr) (H : Hp) (K : Int → Hp → Prop) : Prop := CallH prog 29 [.pointer d1] H (fun v H2 => liftI .i64 v fun r2 => K r2 H2)
abbrev sector_Disk_Limit.num : FuncId := 30
def sector_Disk_Limit.C (d1 : Option Addr) (steps2 : Int) (H : Hp) (K : Hp → Prop) : Prop := CallH prog 30 [.pointer d1, .int .i64 steps2] H (fun v H2 => tupV v fun vs => d0 vs (K H2))
abbrev centoref19_New.num : FuncId := 31
def centoref19_New.C (n1 : Int) (H : Hp) (K : Option Addr → Hp → Prop) : Prop := CallH prog 31 [.int .i64 n1] H (fun v H2 => liftP v fun r2 => K r2 H2)
abbrev sector_Disk_Copy.num : FuncId := 32
def sector_Disk_Copy.C (d1 : Option Addr) (H : Hp) (K : Option Addr → Hp → Prop) : Prop := CallH prog 32 [.pointer d1] H (fun v H2 => liftP v fun r2 => K r2 H2)
abbrev centoref19_Disk_Write.num : FuncId := 33
def centoref19_Disk_Write.C (d1 : Option Addr) (i2 : Int) (bq3 : ByteArray) (H : Hp) (K : Int → Hp → Prop) : Prop := CallH prog 33 [.pointer d1, .int .i64 i2, .string bq3] H (fun v H2 => liftI .i64 v fun r4 => K r4 H2)
abbrev centoref19_Disk_Flush.num : FuncId := 34
def centoref19_Disk_Flush.C (d1 : Option Addr) (H : Hp) (K : Int → Hp → Prop) : Prop := CallH prog 34 [.pointer d1] H (fun v H2 => liftI .i64 v fun r2 => K r2 H2)
abbrev centoref19_Disk_Limit.num : FuncId := 35
def centoref19_Disk_Limit.C (d1 : Option Addr) (n2 : Int) (H : Hp) (K : Hp → Prop) : Prop := CallH prog 35 [.pointer d1, .int .i64 n2] H (fun v H2 => tupV v fun vs => d0 vs (K H2))
abbrev centoref19_Disk_Crash.num : FuncId := 36
def centoref19_Disk_Crash.C (d1 : Option Addr) (bits2 : Int) (H : Hp) (K : Hp → Prop) : Prop := CallH prog 36 [.pointer d1, .int .u64 bits2] H (fun v H2 => tupV v fun vs => d0 vs (K H2))
abbrev sector_Disk_Len.num : FuncId := 37
def sector_Disk_Len.C (d1 : Option Addr) (H : Hp) (K : Int → Hp → Prop) : Prop := CallH prog 37 [.pointer d1] H (fun v H2 => liftI .i64 v fun r2 => K r2 H2)
abbrev centoref19_Disk_Read.num : FuncId := 38
def centoref19_Disk_Read.C (d1 : Option Addr) (i2 : Int) (H : Hp) (K : ByteArray → Int → Hp → Prop) : Prop := CallH prog 38 [.pointer d1, .int .i64 i2] H (fun v H2 => tupV v fun vs => d2 vs fun wv0 wv1 => liftS wv0 fun r3 => liftI .i64 wv1 fun r4 => K r3 r4 H2)
abbrev centolaw20_known.num : FuncId := 39
def centolaw20_known.C  (H : Hp) (K : Bool → Hp → Prop) : Prop := CallH prog 39 [] H (fun v H2 => liftB v fun r1 => K r1 H2)
abbrev slots_Room.num : FuncId := 40
def slots_Room.C (d1 : Option Addr) (H : Hp) (K : Int → Hp → Prop) : Prop := CallH prog 40 [.pointer d1] H (fun v H2 => liftI .i64 v fun r2 => K r2 H2)
abbrev slots_Save.num : FuncId := 41
def slots_Save.C (d1 : Option Addr) (bq2 : ByteArray) (H : Hp) (K : Int → Hp → Prop) : Prop := CallH prog 41 [.pointer d1, .string bq2] H (fun v H2 => liftI .i64 v fun r3 => K r3 H2)
abbrev slots_Load.num : FuncId := 42
def slots_Load.C (d1 : Option Addr) (H : Hp) (K : ByteArray → Int → Hp → Prop) : Prop := CallH prog 42 [.pointer d1] H (fun v H2 => tupV v fun vs => d2 vs fun wv0 wv1 => liftS wv0 fun r2 => liftI .i64 wv1 fun r3 => K r2 r3 H2)
abbrev centolaw20_last.num : FuncId := 43
def centolaw20_last.C (d1 : Option Addr) (H : Hp) (K : ByteArray → Hp → Prop) : Prop := CallH prog 43 [.pointer d1] H (fun v H2 => liftS v fun r2 => K r2 H2)
abbrev slices_Collect_string.num : FuncId := 44
def slices_Collect_string.C (seq1 : Value) (H : Hp) (K : Option Addr → Nat → Nat → Hp → Prop) : Prop := CallH prog 44 [seq1] H (fun v H2 => liftL v fun rp2 rl3 rc4 => K rp2 rl3 rc4 H2)
abbrev strings_Lines.num : FuncId := 45
def strings_Lines.C (s1 : ByteArray) (H : Hp) (K : Value → Hp → Prop) : Prop := CallH prog 45 [.string s1] H (fun v H2 => (fun r2 => K r2 H2) v)
abbrev strings_Index.num : FuncId := 46
def strings_Index.C (s1 : ByteArray) (substr2 : ByteArray) (H : Hp) (K : Int → Hp → Prop) : Prop := CallH prog 46 [.string s1, .string substr2] H (fun v H2 => liftI .i64 v fun r3 => K r3 H2)
abbrev strings_Join.num : FuncId := 47
def strings_Join.C (elemsp1 : Option Addr) (elemsl2 : Nat) (elemsc3 : Nat) (sep4 : ByteArray) (H : Hp) (K : ByteArray → Hp → Prop) : Prop := CallH prog 47 [.slice elemsp1 elemsl2 elemsc3, .string sep4] H (fun v H2 => liftS v fun r5 => K r5 H2)
abbrev strings_Repeat.num : FuncId := 48
def strings_Repeat.C (s1 : ByteArray) (count2 : Int) (H : Hp) (K : ByteArray → Hp → Prop) : Prop := CallH prog 48 [.string s1, .int .i64 count2] H (fun v H2 => liftS v fun r3 => K r3 H2)
abbrev sector_Disk_step.num : FuncId := 49
def sector_Disk_step.C (d1 : Option Addr) (H : Hp) (K : Bool → Hp → Prop) : Prop := CallH prog 49 [.pointer d1] H (fun v H2 => liftB v fun r2 => K r2 H2)
abbrev sector_Disk_there.num : FuncId := 50
def sector_Disk_there.C (d1 : Option Addr) (i2 : Int) (H : Hp) (K : Bool → Hp → Prop) : Prop := CallH prog 50 [.pointer d1, .int .i64 i2] H (fun v H2 => liftB v fun r3 => K r3 H2)
abbrev sector_Disk_keeps.num : FuncId := 51
def sector_Disk_keeps.C (d1 : Option Addr) (may2 : Value) (H : Hp) (K : Hp → Prop) : Prop := CallH prog 51 [.pointer d1, may2] H (fun v H2 => tupV v fun vs => d0 vs (K H2))
abbrev sector_Disk_Flush_1.num : FuncId := 52
def sector_Disk_Flush_1.C (a1 : Int) (H : Hp) (K : Bool → Hp → Prop) : Prop := CallH prog 52 [.int .i64 a1] H (fun v H2 => liftB v fun r2 => K r2 H2)
abbrev sector_Disk_Crash_1.num : FuncId := 53
def sector_Disk_Crash_1.C (k1 : Int) (cap2 : Nat) (H : Hp) (K : Bool → Hp → Prop) : Prop := CallH prog 53 [.int .i64 k1, .pointer (some ⟨cap2, 0, none⟩)] H (fun v H2 => liftB v fun r3 => K r3 H2)
abbrev sector_Disk_latest.num : FuncId := 54
def sector_Disk_latest.C (d1 : Option Addr) (H : Hp) (K : Value → Hp → Prop) : Prop := CallH prog 54 [.pointer d1] H (fun v H2 => (fun r2 => K r2 H2) v)
abbrev slices_Clone_string_string.num : FuncId := 55
def slices_Clone_string_string.C (sp1 : Option Addr) (sl2 : Nat) (sc3 : Nat) (H : Hp) (K : Option Addr → Nat → Nat → Hp → Prop) : Prop := CallH prog 55 [.slice sp1 sl2 sc3] H (fun v H2 => liftL v fun rp4 rl5 rc6 => K rp4 rl5 rc6 H2)
abbrev slices_Clone_sector_write_sector_write.num : FuncId := 56
def slices_Clone_sector_write_sector_write.C (sp1 : Option Addr) (sl2 : Nat) (sc3 : Nat) (H : Hp) (K : Option Addr → Nat → Nat → Hp → Prop) : Prop := CallH prog 56 [.slice sp1 sl2 sc3] H (fun v H2 => liftL v fun rp4 rl5 rc6 => K rp4 rl5 rc6 H2)
abbrev centoref19_Disk_off.num : FuncId := 57
def centoref19_Disk_off.C (d1 : Option Addr) (H : Hp) (K : Bool → Hp → Prop) : Prop := CallH prog 57 [.pointer d1] H (fun v H2 => liftB v fun r2 => K r2 H2)
abbrev centoref19_Disk_step.num : FuncId := 58
def centoref19_Disk_step.C (d1 : Option Addr) (H : Hp) (K : Hp → Prop) : Prop := CallH prog 58 [.pointer d1] H (fun v H2 => tupV v fun vs => d0 vs (K H2))
abbrev centoref19_Disk_keep.num : FuncId := 59
def centoref19_Disk_keep.C (d1 : Option Addr) (bits2 : Int) (all3 : Bool) (H : Hp) (K : Hp → Prop) : Prop := CallH prog 59 [.pointer d1, .int .u64 bits2, .bool all3] H (fun v H2 => tupV v fun vs => d0 vs (K H2))
abbrev slots_sectors.num : FuncId := 60
def slots_sectors.C (d1 : Option Addr) (H : Hp) (K : Int → Hp → Prop) : Prop := CallH prog 60 [.pointer d1] H (fun v H2 => liftI .i64 v fun r2 => K r2 H2)
abbrev slots_newest.num : FuncId := 61
def slots_newest.C (d1 : Option Addr) (H : Hp) (K : Int → Int → Int → Int → Int → Hp → Prop) : Prop := CallH prog 61 [.pointer d1] H (fun v H2 => tupV v fun vs => d2 vs fun wv0 wv1 => aggV wv0 fun cs => d4 cs fun wwv00 wwv01 wwv02 wwv03 => liftI .u64 wwv00 fun r2 => liftI .i64 wwv01 fun r3 => liftI .i64 wwv02 fun r4 => liftI .i64 wwv03 fun r5 => liftI .i64 wv1 fun r6 => K r2 r3 r4 r5 r6 H2)
abbrev slots_head_bytes.num : FuncId := 62
def slots_head_bytes.C (h1 : Int) (h2 : Int) (h3 : Int) (h4 : Int) (H : Hp) (K : ByteArray → Hp → Prop) : Prop := CallH prog 62 [.agg ⟨[.int .u64 h1, .int .i64 h2, .int .i64 h3, .int .i64 h4]⟩] H (fun v H2 => liftS v fun r5 => K r5 H2)
abbrev strings_Builder_Len.num : FuncId := 63
def strings_Builder_Len.C (bq1 : Option Addr) (H : Hp) (K : Int → Hp → Prop) : Prop := CallH prog 63 [.pointer bq1] H (fun v H2 => liftI .i64 v fun r2 => K r2 H2)
abbrev strings_Builder_WriteString.num : FuncId := 64
def strings_Builder_WriteString.C (bq1 : Option Addr) (s2 : ByteArray) (H : Hp) (K : Int → Value → Hp → Prop) : Prop := CallH prog 64 [.pointer bq1, .string s2] H (fun v H2 => tupV v fun vs => d2 vs fun wv0 wv1 => liftI .i64 wv0 fun r3 => (fun r4 => K r3 r4 H2) wv1)
abbrev strings_Builder_String.num : FuncId := 65
def strings_Builder_String.C (bq1 : Option Addr) (H : Hp) (K : ByteArray → Hp → Prop) : Prop := CallH prog 65 [.pointer bq1] H (fun v H2 => liftS v fun r2 => K r2 H2)
abbrev slices_AppendSeq_string_string.num : FuncId := 66
def slices_AppendSeq_string_string.C (sp1 : Option Addr) (sl2 : Nat) (sc3 : Nat) (seq4 : Value) (H : Hp) (K : Option Addr → Nat → Nat → Hp → Prop) : Prop := CallH prog 66 [.slice sp1 sl2 sc3, seq4] H (fun v H2 => liftL v fun rp5 rl6 rc7 => K rp5 rl6 rc7 H2)
abbrev strings_Lines_1.num : FuncId := 67
def strings_Lines_1.I (cap1 : Nat) (H : Hp) (G : ByteArray → Hp → (Al → Hp → Prop) → Prop) (K : Al → Hp → Prop) : Prop := ITER prog 67 [] [.pointer (some ⟨cap1, 0, none⟩)] H (fun vals H Kb => d1 vals fun w0 => liftS w0 fun z2 => G z2 H Kb) K
abbrev strings_IndexByte.num : FuncId := 68
def strings_IndexByte.C (s1 : ByteArray) (c2 : Int) (H : Hp) (K : Int → Hp → Prop) : Prop := CallH prog 68 [.string s1, .int .u8 c2] H (fun v H2 => liftI .i64 v fun r3 => K r3 H2)
abbrev internal_stringslite_Index.num : FuncId := 69
def internal_stringslite_Index.C (s1 : ByteArray) (substr2 : ByteArray) (H : Hp) (K : Int → Hp → Prop) : Prop := CallH prog 69 [.string s1, .string substr2] H (fun v H2 => liftI .i64 v fun r3 => K r3 H2)
abbrev strings_Builder_Grow.num : FuncId := 70
def strings_Builder_Grow.C (bq1 : Option Addr) (n2 : Int) (H : Hp) (K : Hp → Prop) : Prop := CallH prog 70 [.pointer bq1, .int .i64 n2] H (fun v H2 => tupV v fun vs => d0 vs (K H2))
abbrev math_bits_Mul.num : FuncId := 71
def math_bits_Mul.C (x1 : Int) (y2 : Int) (H : Hp) (K : Int → Int → Hp → Prop) : Prop := CallH prog 71 [.int .u64 x1, .int .u64 y2] H (fun v H2 => tupV v fun vs => d2 vs fun wv0 wv1 => liftI .u64 wv0 fun r3 => liftI .u64 wv1 fun r4 => K r3 r4 H2)
abbrev strings_HasPrefix.num : FuncId := 72
def strings_HasPrefix.C (s1 : ByteArray) (prefixq2 : ByteArray) (H : Hp) (K : Bool → Hp → Prop) : Prop := CallH prog 72 [.string s1, .string prefixq2] H (fun v H2 => liftB v fun r3 => K r3 H2)
abbrev sector_Disk_latest_1.num : FuncId := 73
def sector_Disk_latest_1.I (cap1 : Nat) (H : Hp) (G : Int → ByteArray → Hp → (Al → Hp → Prop) → Prop) (K : Al → Hp → Prop) : Prop := ITER prog 73 [] [.pointer (some ⟨cap1, 0, none⟩)] H (fun vals H Kb => d2 vals fun w0 w1 => liftI .i64 w0 fun z2 => liftS w1 fun z3 => G z2 z3 H Kb) K
abbrev slices_Backward_sector_write_sector_write.num : FuncId := 74
def slices_Backward_sector_write_sector_write.C (sp1 : Option Addr) (sl2 : Nat) (sc3 : Nat) (H : Hp) (K : Value → Hp → Prop) : Prop := CallH prog 74 [.slice sp1 sl2 sc3] H (fun v H2 => (fun r4 => K r4 H2) v)
abbrev slots_parsed.num : FuncId := 75
def slots_parsed.C (s1 : ByteArray) (atq2 : Int) (room3 : Int) (H : Hp) (K : Int → Int → Int → Int → Bool → Hp → Prop) : Prop := CallH prog 75 [.string s1, .int .i64 atq2, .int .i64 room3] H (fun v H2 => tupV v fun vs => d2 vs fun wv0 wv1 => aggV wv0 fun cs => d4 cs fun wwv00 wwv01 wwv02 wwv03 => liftI .u64 wwv00 fun r4 => liftI .i64 wwv01 fun r5 => liftI .i64 wwv02 fun r6 => liftI .i64 wwv03 fun r7 => liftB wv1 fun r8 => K r4 r5 r6 r7 r8 H2)
abbrev codec_Num.num : FuncId := 76
def codec_Num.C (n1 : Int) (H : Hp) (K : ByteArray → Hp → Prop) : Prop := CallH prog 76 [.int .i64 n1] H (fun v H2 => liftS v fun r2 => K r2 H2)
abbrev strings_Builder_copyCheck.num : FuncId := 77
def strings_Builder_copyCheck.C (bq1 : Option Addr) (H : Hp) (K : Hp → Prop) : Prop := CallH prog 77 [.pointer bq1] H (fun v H2 => tupV v fun vs => d0 vs (K H2))
abbrev internal_stringslite_IndexByte.num : FuncId := 78
def internal_stringslite_IndexByte.C (s1 : ByteArray) (c2 : Int) (H : Hp) (K : Int → Hp → Prop) : Prop := CallH prog 78 [.string s1, .int .u8 c2] H (fun v H2 => liftI .i64 v fun r3 => K r3 H2)
abbrev internal_bytealg_IndexString.num : FuncId := 79
def internal_bytealg_IndexString.C (a1 : ByteArray) (a2 : ByteArray) (H : Hp) (K : Int → Hp → Prop) : Prop := CallH prog 79 [.string a1, .string a2] H (fun v H2 => liftI .i64 v fun r3 => K r3 H2)
abbrev internal_bytealg_Cutover.num : FuncId := 80
def internal_bytealg_Cutover.C (n1 : Int) (H : Hp) (K : Int → Hp → Prop) : Prop := CallH prog 80 [.int .i64 n1] H (fun v H2 => liftI .i64 v fun r2 => K r2 H2)
abbrev internal_bytealg_IndexRabinKarp_string.num : FuncId := 81
def internal_bytealg_IndexRabinKarp_string.C (s1 : ByteArray) (sep2 : ByteArray) (H : Hp) (K : Int → Hp → Prop) : Prop := CallH prog 81 [.string s1, .string sep2] H (fun v H2 => liftI .i64 v fun r3 => K r3 H2)
abbrev strings_Builder_grow.num : FuncId := 82
def strings_Builder_grow.C (bq1 : Option Addr) (n2 : Int) (H : Hp) (K : Hp → Prop) : Prop := CallH prog 82 [.pointer bq1, .int .i64 n2] H (fun v H2 => tupV v fun vs => d0 vs (K H2))
abbrev math_bits_Mul64.num : FuncId := 84
def math_bits_Mul64.C (x1 : Int) (y2 : Int) (H : Hp) (K : Int → Int → Hp → Prop) : Prop := CallH prog 84 [.int .u64 x1, .int .u64 y2] H (fun v H2 => tupV v fun vs => d2 vs fun wv0 wv1 => liftI .u64 wv0 fun r3 => liftI .u64 wv1 fun r4 => K r3 r4 H2)
abbrev internal_stringslite_HasPrefix.num : FuncId := 85
def internal_stringslite_HasPrefix.C (s1 : ByteArray) (prefixq2 : ByteArray) (H : Hp) (K : Bool → Hp → Prop) : Prop := CallH prog 85 [.string s1, .string prefixq2] H (fun v H2 => liftB v fun r3 => K r3 H2)
abbrev slices_Backward_sector_write_sector_write_1.num : FuncId := 86
def slices_Backward_sector_write_sector_write_1.I (cap1 : Nat) (H : Hp) (G : Int → Int → ByteArray → Hp → (Al → Hp → Prop) → Prop) (K : Al → Hp → Prop) : Prop := ITER prog 86 [] [.pointer (some ⟨cap1, 0, none⟩)] H (fun vals H Kb => d2 vals fun w0 w1 => liftI .i64 w0 fun z2 => aggV w1 fun cs => d2 cs fun ww10 ww11 => liftI .i64 ww10 fun z3 => liftS ww11 fun z4 => G z2 z3 z4 H Kb) K
abbrev strings_CutPrefix.num : FuncId := 87
def strings_CutPrefix.C (s1 : ByteArray) (prefixq2 : ByteArray) (H : Hp) (K : ByteArray → Bool → Hp → Prop) : Prop := CallH prog 87 [.string s1, .string prefixq2] H (fun v H2 => tupV v fun vs => d2 vs fun wv0 wv1 => liftS wv0 fun r3 => liftB wv1 fun r4 => K r3 r4 H2)
abbrev codec_Reader_Num.num : FuncId := 88
def codec_Reader_Num.C (r1 : Option Addr) (most2 : Int) (H : Hp) (K : Int → Hp → Prop) : Prop := CallH prog 88 [.pointer r1, .int .i64 most2] H (fun v H2 => liftI .i64 v fun r3 => K r3 H2)
abbrev internal_abi_NoEscape.num : FuncId := 89
def internal_abi_NoEscape.C (a1 : Option Addr) (H : Hp) (K : Option Addr → Hp → Prop) : Prop := CallH prog 89 [.pointer a1] H (fun v H2 => liftP v fun r2 => K r2 H2)
abbrev internal_bytealg_IndexByteString.num : FuncId := 90
def internal_bytealg_IndexByteString.C (a1 : ByteArray) (a2 : Int) (H : Hp) (K : Int → Hp → Prop) : Prop := CallH prog 90 [.string a1, .int .u8 a2] H (fun v H2 => liftI .i64 v fun r3 => K r3 H2)
abbrev internal_bytealg_hashStr_string.num : FuncId := 91
def internal_bytealg_hashStr_string.C (sep1 : ByteArray) (H : Hp) (K : Int → Int → Hp → Prop) : Prop := CallH prog 91 [.string sep1] H (fun v H2 => tupV v fun vs => d2 vs fun wv0 wv1 => liftI .u32 wv0 fun r2 => liftI .u32 wv1 fun r3 => K r2 r3 H2)
abbrev internal_bytealg_MakeNoZero.num : FuncId := 92
def internal_bytealg_MakeNoZero.C (a1 : Int) (H : Hp) (K : Option Addr → Nat → Nat → Hp → Prop) : Prop := CallH prog 92 [.int .i64 a1] H (fun v H2 => liftL v fun rp2 rl3 rc4 => K rp2 rl3 rc4 H2)
abbrev internal_stringslite_CutPrefix.num : FuncId := 93
def internal_stringslite_CutPrefix.C (s1 : ByteArray) (prefixq2 : ByteArray) (H : Hp) (K : ByteArray → Bool → Hp → Prop) : Prop := CallH prog 93 [.string s1, .string prefixq2] H (fun v H2 => tupV v fun vs => d2 vs fun wv0 wv1 => liftS wv0 fun r3 => liftB wv1 fun r4 => K r3 r4 H2)
abbrev codec_Digit.num : FuncId := 94
def codec_Digit.C (bq1 : ByteArray) (H : Hp) (K : Int → ByteArray → Bool → Hp → Prop) : Prop := CallH prog 94 [.string bq1] H (fun v H2 => tupV v fun vs => d3 vs fun wv0 wv1 wv2 => liftI .i64 wv0 fun r2 => liftS wv1 fun r3 => liftB wv2 fun r4 => K r2 r3 r4 H2)
end
end Go.Proofs.Ytjfohhgmapipnaa
