/- The types of the program and the calls of its functions, as the reckoner has them. -/
import Derived.Test.YtcmooaimhloonaaDoorProg
import Derived.Test.YtcmooaimhloonaaDoorVcUse
namespace Go.Proofs.YtcmooaimhloonaaDoor
open Go.V
noncomputable section
@[reducible] noncomputable def prog : Program := Tryd.prog
theorem mix : prog.follows .mixedOrders = true := by kernel_rfl
def te_unit : TE := ⟨.tup [], 1, 0, [], []⟩
theorem te_unit.ok : TSpec prog 0 te_unit := TSpec.tup (i := Tryd.t0) (by kernel_rfl) (by kernel_rfl) (by kernel_rfl) (by kernel_rfl)
def te_int : TE := ⟨.sc, 1, 8, [.int .i64], [.int .i64 (0 : Int)]⟩
theorem te_int.ok : TSpec prog 3 te_int := TSpec.sc (i := Tryd.t3) (d := descOf Tryd.t3) (by kernel_rfl) (by kernel_rfl) (by kernel_rfl) (by kernel_rfl) (by kernel_rfl) (by kernel_rfl) (by kernel_rfl)
def te_bool : TE := ⟨.sc, 1, 1, [.bool], [.bool false]⟩
theorem te_bool.ok : TSpec prog 4 te_bool := TSpec.sc (i := Tryd.t4) (d := descOf Tryd.t4) (by kernel_rfl) (by kernel_rfl) (by kernel_rfl) (by kernel_rfl) (by kernel_rfl) (by kernel_rfl) (by kernel_rfl)
def te_uint8 : TE := ⟨.sc, 1, 1, [.int .u8], [.int .u8 (0 : Int)]⟩
theorem te_uint8.ok : TSpec prog 5 te_uint8 := TSpec.sc (i := Tryd.t5) (d := descOf Tryd.t5) (by kernel_rfl) (by kernel_rfl) (by kernel_rfl) (by kernel_rfl) (by kernel_rfl) (by kernel_rfl) (by kernel_rfl)
def te_sl_api_Pair : TE := ⟨.sl 30, 1, 24, [.slice], [.slice none 0 0]⟩
theorem te_sl_api_Pair.ok : TSpec prog 22 te_sl_api_Pair := TSpec.sl (i := Tryd.t22) (by kernel_rfl) (by kernel_rfl) (by kernel_rfl) (by kernel_rfl) (by kernel_rfl)
def te_sl_bool : TE := ⟨.sl 4, 1, 24, [.slice], [.slice none 0 0]⟩
theorem te_sl_bool.ok : TSpec prog 23 te_sl_bool := TSpec.sl (i := Tryd.t23) (by kernel_rfl) (by kernel_rfl) (by kernel_rfl) (by kernel_rfl) (by kernel_rfl)
def te_p_rel_Rel : TE := ⟨.sc, 1, 8, [.ptr], [.pointer none]⟩
theorem te_p_rel_Rel.ok : TSpec prog 25 te_p_rel_Rel := TSpec.sc (i := Tryd.t25) (d := descOf Tryd.t25) (by kernel_rfl) (by kernel_rfl) (by kernel_rfl) (by kernel_rfl) (by kernel_rfl) (by kernel_rfl) (by kernel_rfl)
def te_p_centoref2_Rel : TE := ⟨.sc, 1, 8, [.ptr], [.pointer none]⟩
theorem te_p_centoref2_Rel.ok : TSpec prog 27 te_p_centoref2_Rel := TSpec.sc (i := Tryd.t27) (d := descOf Tryd.t27) (by kernel_rfl) (by kernel_rfl) (by kernel_rfl) (by kernel_rfl) (by kernel_rfl) (by kernel_rfl) (by kernel_rfl)
def te_api_Pair : TE := ⟨.st [(0, 3), (1, 3)], 2, 16, [.int .i64, .int .i64], [.int .i64 (0 : Int), .int .i64 (0 : Int)]⟩
theorem te_api_Pair.ok : TSpec prog 30 te_api_Pair := TSpec.st (i := Tryd.t30) (fields := structOf Tryd.t29) (by kernel_rfl) (by kernel_rfl) (by kernel_rfl) (by kernel_rfl) (by kernel_rfl) (by kernel_rfl) (by kernel_rfl) (by kernel_rfl) (by kernel_rfl) (by kernel_rfl) (by kernel_rfl)
def te_funcint_bool : TE := ⟨.sc, 1, 8, [.any], [.nilFunc]⟩
theorem te_funcint_bool.ok : TSpec prog 33 te_funcint_bool := TSpec.sc (i := Tryd.t33) (d := descOf Tryd.t33) (by kernel_rfl) (by kernel_rfl) (by kernel_rfl) (by kernel_rfl) (by kernel_rfl) (by kernel_rfl) (by kernel_rfl)
def te_sl_sl_bool : TE := ⟨.sl 23, 1, 24, [.slice], [.slice none 0 0]⟩
theorem te_sl_sl_bool.ok : TSpec prog 34 te_sl_sl_bool := TSpec.sl (i := Tryd.t34) (by kernel_rfl) (by kernel_rfl) (by kernel_rfl) (by kernel_rfl) (by kernel_rfl)
def te_centoref2_Rel : TE := ⟨.st [(0, 3), (1, 34)], 2, 32, [.int .i64, .slice], [.int .i64 (0 : Int), .slice none 0 0]⟩
theorem te_centoref2_Rel.ok : TSpec prog 36 te_centoref2_Rel := TSpec.st (i := Tryd.t36) (fields := structOf Tryd.t35) (by kernel_rfl) (by kernel_rfl) (by kernel_rfl) (by kernel_rfl) (by kernel_rfl) (by kernel_rfl) (by kernel_rfl) (by kernel_rfl) (by kernel_rfl) (by kernel_rfl) (by kernel_rfl)
def te_funcint_int_bool : TE := ⟨.sc, 1, 8, [.any], [.nilFunc]⟩
theorem te_funcint_int_bool.ok : TSpec prog 37 te_funcint_int_bool := TSpec.sc (i := Tryd.t37) (d := descOf Tryd.t37) (by kernel_rfl) (by kernel_rfl) (by kernel_rfl) (by kernel_rfl) (by kernel_rfl) (by kernel_rfl) (by kernel_rfl)
def te_api_Errno : TE := ⟨.sc, 1, 8, [.int .i64], [.int .i64 (0 : Int)]⟩
theorem te_api_Errno.ok : TSpec prog 42 te_api_Errno := TSpec.sc (i := Tryd.t42) (d := descOf Tryd.t3) (by kernel_rfl) (by kernel_rfl) (by kernel_rfl) (by kernel_rfl) (by kernel_rfl) (by kernel_rfl) (by kernel_rfl)
def te_p_rel_Rel_api_Errno : TE := ⟨.tup [25, 42], 1, 0, [], []⟩
theorem te_p_rel_Rel_api_Errno.ok : TSpec prog 43 te_p_rel_Rel_api_Errno := TSpec.tup (i := Tryd.t43) (by kernel_rfl) (by kernel_rfl) (by kernel_rfl) (by kernel_rfl)
def te_p_centoref2_Rel_int : TE := ⟨.tup [27, 3], 1, 0, [], []⟩
theorem te_p_centoref2_Rel_int.ok : TSpec prog 46 te_p_centoref2_Rel_int := TSpec.tup (i := Tryd.t46) (by kernel_rfl) (by kernel_rfl) (by kernel_rfl) (by kernel_rfl)
def te_p_rel_Rel_p_centoref2_Rel : TE := ⟨.tup [25, 27], 1, 0, [], []⟩
theorem te_p_rel_Rel_p_centoref2_Rel.ok : TSpec prog 52 te_p_rel_Rel_p_centoref2_Rel := TSpec.tup (i := Tryd.t52) (by kernel_rfl) (by kernel_rfl) (by kernel_rfl) (by kernel_rfl)
def te_sl_sl_int : TE := ⟨.sl 58, 1, 24, [.slice], [.slice none 0 0]⟩
theorem te_sl_sl_int.ok : TSpec prog 54 te_sl_sl_int := TSpec.sl (i := Tryd.t54) (by kernel_rfl) (by kernel_rfl) (by kernel_rfl) (by kernel_rfl) (by kernel_rfl)
def te_sl_int : TE := ⟨.sl 3, 1, 24, [.slice], [.slice none 0 0]⟩
theorem te_sl_int.ok : TSpec prog 58 te_sl_int := TSpec.sl (i := Tryd.t58) (by kernel_rfl) (by kernel_rfl) (by kernel_rfl) (by kernel_rfl) (by kernel_rfl)
def te_sl_p_bits_Row : TE := ⟨.sl 69, 1, 24, [.slice], [.slice none 0 0]⟩
theorem te_sl_p_bits_Row.ok : TSpec prog 66 te_sl_p_bits_Row := TSpec.sl (i := Tryd.t66) (by kernel_rfl) (by kernel_rfl) (by kernel_rfl) (by kernel_rfl) (by kernel_rfl)
def te_rel_Rel : TE := ⟨.st [(0, 66)], 1, 24, [.slice], [.slice none 0 0]⟩
theorem te_rel_Rel.ok : TSpec prog 68 te_rel_Rel := TSpec.st (i := Tryd.t68) (fields := structOf Tryd.t67) (by kernel_rfl) (by kernel_rfl) (by kernel_rfl) (by kernel_rfl) (by kernel_rfl) (by kernel_rfl) (by kernel_rfl) (by kernel_rfl) (by kernel_rfl) (by kernel_rfl) (by kernel_rfl)
def te_p_bits_Row : TE := ⟨.sc, 1, 8, [.ptr], [.pointer none]⟩
theorem te_p_bits_Row.ok : TSpec prog 69 te_p_bits_Row := TSpec.sc (i := Tryd.t69) (d := descOf Tryd.t69) (by kernel_rfl) (by kernel_rfl) (by kernel_rfl) (by kernel_rfl) (by kernel_rfl) (by kernel_rfl) (by kernel_rfl)
def te_iter_Seq2_int_int : TE := ⟨.sc, 1, 8, [.any], [.nilFunc]⟩
theorem te_iter_Seq2_int_int.ok : TSpec prog 75 te_iter_Seq2_int_int := TSpec.sc (i := Tryd.t75) (d := descOf Tryd.t74) (by kernel_rfl) (by kernel_rfl) (by kernel_rfl) (by kernel_rfl) (by kernel_rfl) (by kernel_rfl) (by kernel_rfl)
def te_sl_uint64 : TE := ⟨.sl 89, 1, 24, [.slice], [.slice none 0 0]⟩
theorem te_sl_uint64.ok : TSpec prog 82 te_sl_uint64 := TSpec.sl (i := Tryd.t82) (by kernel_rfl) (by kernel_rfl) (by kernel_rfl) (by kernel_rfl) (by kernel_rfl)
def te_bits_Row : TE := ⟨.st [(0, 3), (1, 82)], 2, 32, [.int .i64, .slice], [.int .i64 (0 : Int), .slice none 0 0]⟩
theorem te_bits_Row.ok : TSpec prog 84 te_bits_Row := TSpec.st (i := Tryd.t84) (fields := structOf Tryd.t83) (by kernel_rfl) (by kernel_rfl) (by kernel_rfl) (by kernel_rfl) (by kernel_rfl) (by kernel_rfl) (by kernel_rfl) (by kernel_rfl) (by kernel_rfl) (by kernel_rfl) (by kernel_rfl)
def te_iter_Seq_int : TE := ⟨.sc, 1, 8, [.any], [.nilFunc]⟩
theorem te_iter_Seq_int.ok : TSpec prog 86 te_iter_Seq_int := TSpec.sc (i := Tryd.t86) (d := descOf Tryd.t85) (by kernel_rfl) (by kernel_rfl) (by kernel_rfl) (by kernel_rfl) (by kernel_rfl) (by kernel_rfl) (by kernel_rfl)
def te_uint64 : TE := ⟨.sc, 1, 8, [.int .u64], [.int .u64 (0 : Int)]⟩
theorem te_uint64.ok : TSpec prog 89 te_uint64 := TSpec.sc (i := Tryd.t89) (d := descOf Tryd.t89) (by kernel_rfl) (by kernel_rfl) (by kernel_rfl) (by kernel_rfl) (by kernel_rfl) (by kernel_rfl) (by kernel_rfl)
def te_64_uint8 : TE := ⟨.ar 64 5, 64, 64, [], [.int .u8 (0 : Int), .int .u8 (0 : Int), .int .u8 (0 : Int), .int .u8 (0 : Int), .int .u8 (0 : Int), .int .u8 (0 : Int), .int .u8 (0 : Int), .int .u8 (0 : Int), .int .u8 (0 : Int), .int .u8 (0 : Int), .int .u8 (0 : Int), .int .u8 (0 : Int), .int .u8 (0 : Int), .int .u8 (0 : Int), .int .u8 (0 : Int), .int .u8 (0 : Int), .int .u8 (0 : Int), .int .u8 (0 : Int), .int .u8 (0 : Int), .int .u8 (0 : Int), .int .u8 (0 : Int), .int .u8 (0 : Int), .int .u8 (0 : Int), .int .u8 (0 : Int), .int .u8 (0 : Int), .int .u8 (0 : Int), .int .u8 (0 : Int), .int .u8 (0 : Int), .int .u8 (0 : Int), .int .u8 (0 : Int), .int .u8 (0 : Int), .int .u8 (0 : Int), .int .u8 (0 : Int), .int .u8 (0 : Int), .int .u8 (0 : Int), .int .u8 (0 : Int), .int .u8 (0 : Int), .int .u8 (0 : Int), .int .u8 (0 : Int), .int .u8 (0 : Int), .int .u8 (0 : Int), .int .u8 (0 : Int), .int .u8 (0 : Int), .int .u8 (0 : Int), .int .u8 (0 : Int), .int .u8 (0 : Int), .int .u8 (0 : Int), .int .u8 (0 : Int), .int .u8 (0 : Int), .int .u8 (0 : Int), .int .u8 (0 : Int), .int .u8 (0 : Int), .int .u8 (0 : Int), .int .u8 (0 : Int), .int .u8 (0 : Int), .int .u8 (0 : Int), .int .u8 (0 : Int), .int .u8 (0 : Int), .int .u8 (0 : Int), .int .u8 (0 : Int), .int .u8 (0 : Int), .int .u8 (0 : Int), .int .u8 (0 : Int), .int .u8 (0 : Int)]⟩
theorem te_64_uint8.ok : TSpec prog 92 te_64_uint8 := TSpec.ar (i := Tryd.t92) (by kernel_rfl) (by kernel_rfl) (by kernel_rfl) (by kernel_rfl) (by kernel_rfl)
def tab : Tab := Tab.of [(0, te_unit), (3, te_int), (4, te_bool), (5, te_uint8), (22, te_sl_api_Pair), (23, te_sl_bool), (25, te_p_rel_Rel), (27, te_p_centoref2_Rel), (30, te_api_Pair), (33, te_funcint_bool), (34, te_sl_sl_bool), (36, te_centoref2_Rel), (37, te_funcint_int_bool), (42, te_api_Errno), (43, te_p_rel_Rel_api_Errno), (46, te_p_centoref2_Rel_int), (52, te_p_rel_Rel_p_centoref2_Rel), (54, te_sl_sl_int), (58, te_sl_int), (66, te_sl_p_bits_Row), (68, te_rel_Rel), (69, te_p_bits_Row), (75, te_iter_Seq2_int_int), (82, te_sl_uint64), (84, te_bits_Row), (86, te_iter_Seq_int), (89, te_uint64), (92, te_64_uint8)]
theorem tabOk : TOk prog tab := (TOk.cons te_unit.ok (TOk.cons te_int.ok (TOk.cons te_bool.ok (TOk.cons te_uint8.ok (TOk.cons te_sl_api_Pair.ok (TOk.cons te_sl_bool.ok (TOk.cons te_p_rel_Rel.ok (TOk.cons te_p_centoref2_Rel.ok (TOk.cons te_api_Pair.ok (TOk.cons te_funcint_bool.ok (TOk.cons te_sl_sl_bool.ok (TOk.cons te_centoref2_Rel.ok (TOk.cons te_funcint_int_bool.ok (TOk.cons te_api_Errno.ok (TOk.cons te_p_rel_Rel_api_Errno.ok (TOk.cons te_p_centoref2_Rel_int.ok (TOk.cons te_p_rel_Rel_p_centoref2_Rel.ok (TOk.cons te_sl_sl_int.ok (TOk.cons te_sl_int.ok (TOk.cons te_sl_p_bits_Row.ok (TOk.cons te_rel_Rel.ok (TOk.cons te_p_bits_Row.ok (TOk.cons te_iter_Seq2_int_int.ok (TOk.cons te_sl_uint64.ok (TOk.cons te_bits_Row.ok (TOk.cons te_iter_Seq_int.ok (TOk.cons te_uint64.ok (TOk.cons te_64_uint8.ok (TOk.nil _)))))))))))))))))))))))))))))
abbrev gTab : Nat := 0
abbrev centolaw2_RelPlays.num : FuncId := 3
def centolaw2_RelPlays.C (n1 : Int) (lp2 : Option Addr) (ll3 : Nat) (lc4 : Nat) (howp5 : Option Addr) (howl6 : Nat) (howc7 : Nat) (H : Hp) (K : Bool → Hp → Prop) : Prop := CallH prog 3 [.int .u8 n1, .slice lp2 ll3 lc4, .slice howp5 howl6 howc7] H (fun v H2 => liftB v fun r8 => K r8 H2)
abbrev centolaw2_RelWays.num : FuncId := 4
def centolaw2_RelWays.C (n1 : Int) (lp2 : Option Addr) (ll3 : Nat) (lc4 : Nat) (fromq5 : Int) (H : Hp) (K : Bool → Hp → Prop) : Prop := CallH prog 4 [.int .u8 n1, .slice lp2 ll3 lc4, .int .u8 fromq5] H (fun v H2 => liftB v fun r6 => K r6 H2)
abbrev centolaw2_RelJoins.num : FuncId := 5
def centolaw2_RelJoins.C (n1 : Int) (lp2 : Option Addr) (ll3 : Nat) (lc4 : Nat) (turn5 : Int) (H : Hp) (K : Bool → Hp → Prop) : Prop := CallH prog 5 [.int .u8 n1, .slice lp2 ll3 lc4, .int .u8 turn5] H (fun v H2 => liftB v fun r6 => K r6 H2)
abbrev centolaw2_RelTells.num : FuncId := 6
def centolaw2_RelTells.C (n1 : Int) (lp2 : Option Addr) (ll3 : Nat) (lc4 : Nat) (keepp5 : Option Addr) (keepl6 : Nat) (keepc7 : Nat) (a8 : Int) (bq9 : Int) (H : Hp) (K : Bool → Hp → Prop) : Prop := CallH prog 6 [.int .i64 n1, .slice lp2 ll3 lc4, .slice keepp5 keepl6 keepc7, .int .i64 a8, .int .i64 bq9] H (fun v H2 => liftB v fun r10 => K r10 H2)
abbrev centolaw2_RelOnly.num : FuncId := 7
def centolaw2_RelOnly.C (n1 : Int) (lp2 : Option Addr) (ll3 : Nat) (lc4 : Nat) (keepp5 : Option Addr) (keepl6 : Nat) (keepc7 : Nat) (H : Hp) (K : Bool → Hp → Prop) : Prop := CallH prog 7 [.int .u8 n1, .slice lp2 ll3 lc4, .slice keepp5 keepl6 keepc7] H (fun v H2 => liftB v fun r8 => K r8 H2)
abbrev centolaw3_OrderTells.num : FuncId := 8
def centolaw3_OrderTells.C (n1 : Int) (lp2 : Option Addr) (ll3 : Nat) (lc4 : Nat) (H : Hp) (K : Bool → Hp → Prop) : Prop := CallH prog 8 [.int .i64 n1, .slice lp2 ll3 lc4] H (fun v H2 => liftB v fun r5 => K r5 H2)
abbrev centolaw3_OrderSorted.num : FuncId := 9
def centolaw3_OrderSorted.C (n1 : Int) (lp2 : Option Addr) (ll3 : Nat) (lc4 : Nat) (H : Hp) (K : Bool → Hp → Prop) : Prop := CallH prog 9 [.int .u8 n1, .slice lp2 ll3 lc4] H (fun v H2 => liftB v fun r5 => K r5 H2)
abbrev centolaw3_OrderClasses.num : FuncId := 10
def centolaw3_OrderClasses.C (n1 : Int) (lp2 : Option Addr) (ll3 : Nat) (lc4 : Nat) (H : Hp) (K : Bool → Hp → Prop) : Prop := CallH prog 10 [.int .u8 n1, .slice lp2 ll3 lc4] H (fun v H2 => liftB v fun r5 => K r5 H2)
abbrev centolaw3_OrderRows.num : FuncId := 11
def centolaw3_OrderRows.C (n1 : Int) (turn2 : Int) (H : Hp) (K : Bool → Hp → Prop) : Prop := CallH prog 11 [.int .u8 n1, .int .u8 turn2] H (fun v H2 => liftB v fun r3 => K r3 H2)
abbrev centolaw3_OrderLeast.num : FuncId := 12
def centolaw3_OrderLeast.C (n1 : Int) (lp2 : Option Addr) (ll3 : Nat) (lc4 : Nat) (drop5 : Int) (H : Hp) (K : Bool → Hp → Prop) : Prop := CallH prog 12 [.int .u8 n1, .slice lp2 ll3 lc4, .int .u8 drop5] H (fun v H2 => liftB v fun r6 => K r6 H2)
abbrev centolaw2_known.num : FuncId := 13
def centolaw2_known.C  (H : Hp) (K : Bool → Hp → Prop) : Prop := CallH prog 13 [] H (fun v H2 => liftB v fun r1 => K r1 H2)
abbrev rel_New.num : FuncId := 14
def rel_New.C (n1 : Int) (H : Hp) (K : Option Addr → Hp → Prop) : Prop := CallH prog 14 [.int .i64 n1] H (fun v H2 => liftP v fun r2 => K r2 H2)
abbrev centoref2_New.num : FuncId := 15
def centoref2_New.C (n1 : Int) (H : Hp) (K : Option Addr → Hp → Prop) : Prop := CallH prog 15 [.int .i64 n1] H (fun v H2 => liftP v fun r2 => K r2 H2)
abbrev rel_Rel_Copy.num : FuncId := 16
def rel_Rel_Copy.C (r1 : Option Addr) (H : Hp) (K : Option Addr → Hp → Prop) : Prop := CallH prog 16 [.pointer r1] H (fun v H2 => liftP v fun r2 => K r2 H2)
abbrev centoref2_Rel_Copy.num : FuncId := 17
def centoref2_Rel_Copy.C (r1 : Option Addr) (H : Hp) (K : Option Addr → Hp → Prop) : Prop := CallH prog 17 [.pointer r1] H (fun v H2 => liftP v fun r2 => K r2 H2)
abbrev centoref2_Rel_Is.num : FuncId := 18
def centoref2_Rel_Is.C (r1 : Option Addr) (a2 : Int) (H : Hp) (K : Bool → Hp → Prop) : Prop := CallH prog 18 [.pointer r1, .int .i64 a2] H (fun v H2 => liftB v fun r3 => K r3 H2)
abbrev centoref2_Rel_Closure.num : FuncId := 19
def centoref2_Rel_Closure.C (r1 : Option Addr) (H : Hp) (K : Option Addr → Hp → Prop) : Prop := CallH prog 19 [.pointer r1] H (fun v H2 => liftP v fun r2 => K r2 H2)
abbrev rel_Rel_Join.num : FuncId := 20
def rel_Rel_Join.C (r1 : Option Addr) (a2 : Int) (bq3 : Int) (H : Hp) (K : Bool → Hp → Prop) : Prop := CallH prog 20 [.pointer r1, .int .i64 a2, .int .i64 bq3] H (fun v H2 => liftB v fun r4 => K r4 H2)
abbrev rel_Rel_Add.num : FuncId := 21
def rel_Rel_Add.C (r1 : Option Addr) (a2 : Int) (bq3 : Int) (H : Hp) (K : Bool → Hp → Prop) : Prop := CallH prog 21 [.pointer r1, .int .i64 a2, .int .i64 bq3] H (fun v H2 => liftB v fun r4 => K r4 H2)
abbrev centoref2_Rel_Same.num : FuncId := 22
def centoref2_Rel_Same.C (r1 : Option Addr) (oq2 : Option Addr) (H : Hp) (K : Bool → Hp → Prop) : Prop := CallH prog 22 [.pointer r1, .pointer oq2] H (fun v H2 => liftB v fun r3 => K r3 H2)
abbrev centolaw2_same.num : FuncId := 23
def centolaw2_same.C (ap1 : Option Addr) (al2 : Nat) (ac3 : Nat) (bp4 : Option Addr) (bl5 : Nat) (bcq6 : Nat) (H : Hp) (K : Bool → Hp → Prop) : Prop := CallH prog 23 [.slice ap1 al2 ac3, .slice bp4 bl5 bcq6] H (fun v H2 => liftB v fun r7 => K r7 H2)
abbrev rel_Rel_Pairs.num : FuncId := 24
def rel_Rel_Pairs.C (r1 : Option Addr) (H : Hp) (K : Option Addr → Nat → Nat → Hp → Prop) : Prop := CallH prog 24 [.pointer r1] H (fun v H2 => liftL v fun rp2 rl3 rc4 => K rp2 rl3 rc4 H2)
abbrev centoref2_Rel_Pairs.num : FuncId := 25
def centoref2_Rel_Pairs.C (r1 : Option Addr) (H : Hp) (K : Option Addr → Nat → Nat → Hp → Prop) : Prop := CallH prog 25 [.pointer r1] H (fun v H2 => liftL v fun rp2 rl3 rc4 => K rp2 rl3 rc4 H2)
abbrev rel_Of.num : FuncId := 26
def rel_Of.C (n1 : Int) (lp2 : Option Addr) (ll3 : Nat) (lc4 : Nat) (H : Hp) (K : Option Addr → Int → Hp → Prop) : Prop := CallH prog 26 [.int .i64 n1, .slice lp2 ll3 lc4] H (fun v H2 => tupV v fun vs => d2 vs fun wv0 wv1 => liftP wv0 fun r5 => liftI .i64 wv1 fun r6 => K r5 r6 H2)
abbrev rel_Rel_Closure.num : FuncId := 27
def rel_Rel_Closure.C (r1 : Option Addr) (H : Hp) (K : Option Addr → Hp → Prop) : Prop := CallH prog 27 [.pointer r1] H (fun v H2 => liftP v fun r2 => K r2 H2)
abbrev rel_Rel_Has.num : FuncId := 28
def rel_Rel_Has.C (r1 : Option Addr) (a2 : Int) (bq3 : Int) (H : Hp) (K : Bool → Hp → Prop) : Prop := CallH prog 28 [.pointer r1, .int .i64 a2, .int .i64 bq3] H (fun v H2 => liftB v fun r4 => K r4 H2)
abbrev rel_Rel_IsTransitive.num : FuncId := 29
def rel_Rel_IsTransitive.C (r1 : Option Addr) (H : Hp) (K : Bool → Hp → Prop) : Prop := CallH prog 29 [.pointer r1] H (fun v H2 => liftB v fun r2 => K r2 H2)
abbrev centoref2_Of.num : FuncId := 30
def centoref2_Of.C (n1 : Int) (lp2 : Option Addr) (ll3 : Nat) (lc4 : Nat) (H : Hp) (K : Option Addr → Int → Hp → Prop) : Prop := CallH prog 30 [.int .i64 n1, .slice lp2 ll3 lc4] H (fun v H2 => tupV v fun vs => d2 vs fun wv0 wv1 => liftP wv0 fun r5 => liftI .i64 wv1 fun r6 => K r5 r6 H2)
abbrev rel_Rel_Len.num : FuncId := 31
def rel_Rel_Len.C (r1 : Option Addr) (H : Hp) (K : Int → Hp → Prop) : Prop := CallH prog 31 [.pointer r1] H (fun v H2 => liftI .i64 v fun r2 => K r2 H2)
abbrev rel_Rel_Only.num : FuncId := 32
def rel_Rel_Only.C (r1 : Option Addr) (keepp2 : Option Addr) (keepl3 : Nat) (keepc4 : Nat) (H : Hp) (K : Option Addr → Hp → Prop) : Prop := CallH prog 32 [.pointer r1, .slice keepp2 keepl3 keepc4] H (fun v H2 => liftP v fun r5 => K r5 H2)
abbrev centoref2_Rel_Only.num : FuncId := 33
def centoref2_Rel_Only.C (r1 : Option Addr) (keepp2 : Option Addr) (keepl3 : Nat) (keepc4 : Nat) (H : Hp) (K : Option Addr → Hp → Prop) : Prop := CallH prog 33 [.pointer r1, .slice keepp2 keepl3 keepc4] H (fun v H2 => liftP v fun r5 => K r5 H2)
abbrev centoref2_Rel_Has.num : FuncId := 34
def centoref2_Rel_Has.C (r1 : Option Addr) (a2 : Int) (bq3 : Int) (H : Hp) (K : Bool → Hp → Prop) : Prop := CallH prog 34 [.pointer r1, .int .i64 a2, .int .i64 bq3] H (fun v H2 => liftB v fun r4 => K r4 H2)
abbrev centolaw3_known.num : FuncId := 35
def centolaw3_known.C  (H : Hp) (K : Bool → Hp → Prop) : Prop := CallH prog 35 [] H (fun v H2 => liftB v fun r1 => K r1 H2)
abbrev centolaw3_made.num : FuncId := 36
def centolaw3_made.C (n1 : Int) (lp2 : Option Addr) (ll3 : Nat) (lc4 : Nat) (H : Hp) (K : Option Addr → Option Addr → Hp → Prop) : Prop := CallH prog 36 [.int .i64 n1, .slice lp2 ll3 lc4] H (fun v H2 => tupV v fun vs => d2 vs fun wv0 wv1 => liftP wv0 fun r5 => liftP wv1 fun r6 => K r5 r6 H2)
abbrev order_Circles.num : FuncId := 37
def order_Circles.C (r1 : Option Addr) (H : Hp) (K : Option Addr → Nat → Nat → Hp → Prop) : Prop := CallH prog 37 [.pointer r1] H (fun v H2 => liftL v fun rp2 rl3 rc4 => K rp2 rl3 rc4 H2)
abbrev centoref2_Rel_Circles.num : FuncId := 38
def centoref2_Rel_Circles.C (r1 : Option Addr) (H : Hp) (K : Option Addr → Nat → Nat → Hp → Prop) : Prop := CallH prog 38 [.pointer r1] H (fun v H2 => liftL v fun rp2 rl3 rc4 => K rp2 rl3 rc4 H2)
abbrev centolaw3_same.num : FuncId := 39
def centolaw3_same.C (ap1 : Option Addr) (al2 : Nat) (ac3 : Nat) (bp4 : Option Addr) (bl5 : Nat) (bcq6 : Nat) (H : Hp) (K : Bool → Hp → Prop) : Prop := CallH prog 39 [.slice ap1 al2 ac3, .slice bp4 bl5 bcq6] H (fun v H2 => liftB v fun r7 => K r7 H2)
abbrev order_Of.num : FuncId := 40
def order_Of.C (r1 : Option Addr) (H : Hp) (K : Option Addr → Nat → Nat → Hp → Prop) : Prop := CallH prog 40 [.pointer r1] H (fun v H2 => liftL v fun rp2 rl3 rc4 => K rp2 rl3 rc4 H2)
abbrev centoref2_Rel_Classes.num : FuncId := 41
def centoref2_Rel_Classes.C (r1 : Option Addr) (H : Hp) (K : Option Addr → Nat → Nat → Hp → Prop) : Prop := CallH prog 41 [.pointer r1] H (fun v H2 => liftL v fun rp2 rl3 rc4 => K rp2 rl3 rc4 H2)
abbrev order_Sort.num : FuncId := 42
def order_Sort.C (r1 : Option Addr) (H : Hp) (K : Option Addr → Nat → Nat → Hp → Prop) : Prop := CallH prog 42 [.pointer r1] H (fun v H2 => liftL v fun rp2 rl3 rc4 => K rp2 rl3 rc4 H2)
abbrev centoref2_Rel_Sort.num : FuncId := 43
def centoref2_Rel_Sort.C (r1 : Option Addr) (H : Hp) (K : Option Addr → Nat → Nat → Hp → Prop) : Prop := CallH prog 43 [.pointer r1] H (fun v H2 => liftL v fun rp2 rl3 rc4 => K rp2 rl3 rc4 H2)
abbrev centolaw3_samePairs.num : FuncId := 44
def centolaw3_samePairs.C (ap1 : Option Addr) (al2 : Nat) (ac3 : Nat) (bp4 : Option Addr) (bl5 : Nat) (bcq6 : Nat) (H : Hp) (K : Bool → Hp → Prop) : Prop := CallH prog 44 [.slice ap1 al2 ac3, .slice bp4 bl5 bcq6] H (fun v H2 => liftB v fun r7 => K r7 H2)
abbrev order_Reduce.num : FuncId := 45
def order_Reduce.C (r1 : Option Addr) (H : Hp) (K : Option Addr → Nat → Nat → Hp → Prop) : Prop := CallH prog 45 [.pointer r1] H (fun v H2 => liftL v fun rp2 rl3 rc4 => K rp2 rl3 rc4 H2)
abbrev centoref2_Rel_Reduce.num : FuncId := 46
def centoref2_Rel_Reduce.C (r1 : Option Addr) (H : Hp) (K : Option Addr → Nat → Nat → Hp → Prop) : Prop := CallH prog 46 [.pointer r1] H (fun v H2 => liftL v fun rp2 rl3 rc4 => K rp2 rl3 rc4 H2)
abbrev order_IsOrder.num : FuncId := 47
def order_IsOrder.C (r1 : Option Addr) (H : Hp) (K : Bool → Hp → Prop) : Prop := CallH prog 47 [.pointer r1] H (fun v H2 => liftB v fun r2 => K r2 H2)
abbrev centoref2_Rel_IsOrder.num : FuncId := 48
def centoref2_Rel_IsOrder.C (r1 : Option Addr) (H : Hp) (K : Bool → Hp → Prop) : Prop := CallH prog 48 [.pointer r1] H (fun v H2 => liftB v fun r2 => K r2 H2)
abbrev order_IsTotal.num : FuncId := 49
def order_IsTotal.C (r1 : Option Addr) (H : Hp) (K : Bool → Hp → Prop) : Prop := CallH prog 49 [.pointer r1] H (fun v H2 => liftB v fun r2 => K r2 H2)
abbrev centoref2_Rel_IsTotal.num : FuncId := 50
def centoref2_Rel_IsTotal.C (r1 : Option Addr) (H : Hp) (K : Bool → Hp → Prop) : Prop := CallH prog 50 [.pointer r1] H (fun v H2 => liftB v fun r2 => K r2 H2)
abbrev bits_New.num : FuncId := 51
def bits_New.C (n1 : Int) (H : Hp) (K : Option Addr → Hp → Prop) : Prop := CallH prog 51 [.int .i64 n1] H (fun v H2 => liftP v fun r2 => K r2 H2)
abbrev bits_Row_Or.num : FuncId := 52
def bits_Row_Or.C (r1 : Option Addr) (oq2 : Option Addr) (H : Hp) (K : Bool → Hp → Prop) : Prop := CallH prog 52 [.pointer r1, .pointer oq2] H (fun v H2 => liftB v fun r3 => K r3 H2)
abbrev rel_Rel_there.num : FuncId := 53
def rel_Rel_there.C (r1 : Option Addr) (a2 : Int) (H : Hp) (K : Bool → Hp → Prop) : Prop := CallH prog 53 [.pointer r1, .int .i64 a2] H (fun v H2 => liftB v fun r3 => K r3 H2)
abbrev rel_Rel_same.num : FuncId := 54
def rel_Rel_same.C (r1 : Option Addr) (oq2 : Option Addr) (H : Hp) (K : Bool → Hp → Prop) : Prop := CallH prog 54 [.pointer r1, .pointer oq2] H (fun v H2 => liftB v fun r3 => K r3 H2)
abbrev bits_Row_Copy.num : FuncId := 55
def bits_Row_Copy.C (r1 : Option Addr) (H : Hp) (K : Option Addr → Hp → Prop) : Prop := CallH prog 55 [.pointer r1] H (fun v H2 => liftP v fun r2 => K r2 H2)
abbrev bits_Row_Put.num : FuncId := 56
def bits_Row_Put.C (r1 : Option Addr) (i2 : Int) (on3 : Bool) (H : Hp) (K : Hp → Prop) : Prop := CallH prog 56 [.pointer r1, .int .i64 i2, .bool on3] H (fun v H2 => tupV v fun vs => d0 vs (K H2))
abbrev rel_Rel_Each.num : FuncId := 57
def rel_Rel_Each.C (r1 : Option Addr) (H : Hp) (K : Value → Hp → Prop) : Prop := CallH prog 57 [.pointer r1] H (fun v H2 => (fun r2 => K r2 H2) v)
abbrev bits_Row_Has.num : FuncId := 58
def bits_Row_Has.C (r1 : Option Addr) (i2 : Int) (H : Hp) (K : Bool → Hp → Prop) : Prop := CallH prog 58 [.pointer r1, .int .i64 i2] H (fun v H2 => liftB v fun r3 => K r3 H2)
abbrev rel_Rel_Only_1.num : FuncId := 59
def rel_Rel_Only_1.C (i1 : Int) (cap2 : Nat) (H : Hp) (K : Bool → Hp → Prop) : Prop := CallH prog 59 [.int .i64 i1, .pointer (some ⟨cap2, 0, none⟩)] H (fun v H2 => liftB v fun r3 => K r3 H2)
abbrev centoref2_Some.num : FuncId := 60
def centoref2_Some.C (n1 : Int) (lp2 : Option Addr) (ll3 : Nat) (lc4 : Nat) (H : Hp) (K : Option Addr → Hp → Prop) : Prop := CallH prog 60 [.int .i64 n1, .slice lp2 ll3 lc4] H (fun v H2 => liftP v fun r5 => K r5 H2)
abbrev order_circles.num : FuncId := 61
def order_circles.C (c1 : Option Addr) (H : Hp) (K : Option Addr → Nat → Nat → Hp → Prop) : Prop := CallH prog 61 [.pointer c1] H (fun v H2 => liftL v fun rp2 rl3 rc4 => K rp2 rl3 rc4 H2)
abbrev order_closed.num : FuncId := 62
def order_closed.C (r1 : Option Addr) (H : Hp) (K : Option Addr → Hp → Prop) : Prop := CallH prog 62 [.pointer r1] H (fun v H2 => liftP v fun r2 => K r2 H2)
abbrev centoref2_Rel_one.num : FuncId := 63
def centoref2_Rel_one.C (r1 : Option Addr) (a2 : Int) (bq3 : Int) (H : Hp) (K : Bool → Hp → Prop) : Prop := CallH prog 63 [.pointer r1, .int .i64 a2, .int .i64 bq3] H (fun v H2 => liftB v fun r4 => K r4 H2)
abbrev order_first.num : FuncId := 64
def order_first.C (c1 : Option Addr) (classesp2 : Option Addr) (classesl3 : Nat) (classesc4 : Nat) (i5 : Int) (H : Hp) (K : Bool → Hp → Prop) : Prop := CallH prog 64 [.pointer c1, .slice classesp2 classesl3 classesc4, .int .i64 i5] H (fun v H2 => liftB v fun r6 => K r6 H2)
abbrev slices_Delete_int_int.num : FuncId := 65
def slices_Delete_int_int.C (sp1 : Option Addr) (sl2 : Nat) (sc3 : Nat) (i4 : Int) (j5 : Int) (H : Hp) (K : Option Addr → Nat → Nat → Hp → Prop) : Prop := CallH prog 65 [.slice sp1 sl2 sc3, .int .i64 i4, .int .i64 j5] H (fun v H2 => liftL v fun rp6 rl7 rc8 => K rp6 rl7 rc8 H2)
abbrev centoref2_Rel_free.num : FuncId := 66
def centoref2_Rel_free.C (r1 : Option Addr) (cp2 : Option Addr) (cl3 : Nat) (cc4 : Nat) (donep5 : Option Addr) (donel6 : Nat) (donec7 : Nat) (i8 : Int) (H : Hp) (K : Bool → Hp → Prop) : Prop := CallH prog 66 [.pointer r1, .slice cp2 cl3 cc4, .slice donep5 donel6 donec7, .int .i64 i8] H (fun v H2 => liftB v fun r9 => K r9 H2)
abbrev order_Reduce_1.num : FuncId := 67
def order_Reduce_1.C (a1 : Int) (bq2 : Int) (cap3 : Nat) (cap4 : Nat) (H : Hp) (K : Bool → Hp → Prop) : Prop := CallH prog 67 [.int .i64 a1, .int .i64 bq2, .pointer (some ⟨cap3, 0, none⟩), .pointer (some ⟨cap4, 0, none⟩)] H (fun v H2 => liftB v fun r5 => K r5 H2)
abbrev bits_Row_Each.num : FuncId := 68
def bits_Row_Each.C (r1 : Option Addr) (H : Hp) (K : Value → Hp → Prop) : Prop := CallH prog 68 [.pointer r1] H (fun v H2 => (fun r2 => K r2 H2) v)
abbrev bits_Row_there.num : FuncId := 69
def bits_Row_there.C (r1 : Option Addr) (i2 : Int) (H : Hp) (K : Bool → Hp → Prop) : Prop := CallH prog 69 [.pointer r1, .int .i64 i2] H (fun v H2 => liftB v fun r3 => K r3 H2)
abbrev bits_Row_Same.num : FuncId := 70
def bits_Row_Same.C (r1 : Option Addr) (oq2 : Option Addr) (H : Hp) (K : Bool → Hp → Prop) : Prop := CallH prog 70 [.pointer r1, .pointer oq2] H (fun v H2 => liftB v fun r3 => K r3 H2)
abbrev slices_Clone_uint64_uint64.num : FuncId := 71
def slices_Clone_uint64_uint64.C (sp1 : Option Addr) (sl2 : Nat) (sc3 : Nat) (H : Hp) (K : Option Addr → Nat → Nat → Hp → Prop) : Prop := CallH prog 71 [.slice sp1 sl2 sc3] H (fun v H2 => liftL v fun rp4 rl5 rc6 => K rp4 rl5 rc6 H2)
abbrev rel_Rel_Each_1.num : FuncId := 72
def rel_Rel_Each_1.I (cap1 : Nat) (H : Hp) (G : Int → Int → Hp → (Al → Hp → Prop) → Prop) (K : Al → Hp → Prop) : Prop := ITER prog 72 [] [.pointer (some ⟨cap1, 0, none⟩)] H (fun vals H Kb => d2 vals fun w0 w1 => liftI .i64 w0 fun z2 => liftI .i64 w1 fun z3 => G z2 z3 H Kb) K
abbrev rel_Rel_Behind.num : FuncId := 73
def rel_Rel_Behind.C (r1 : Option Addr) (a2 : Int) (H : Hp) (K : Value → Hp → Prop) : Prop := CallH prog 73 [.pointer r1, .int .i64 a2] H (fun v H2 => (fun r3 => K r3 H2) v)
abbrev bits_Row_Each_1.num : FuncId := 74
def bits_Row_Each_1.I (cap1 : Nat) (H : Hp) (G : Int → Hp → (Al → Hp → Prop) → Prop) (K : Al → Hp → Prop) : Prop := ITER prog 74 [] [.pointer (some ⟨cap1, 0, none⟩)] H (fun vals H Kb => d1 vals fun w0 => liftI .i64 w0 fun z2 => G z2 H Kb) K
abbrev math_bits_TrailingZeros64.num : FuncId := 75
def math_bits_TrailingZeros64.C (x1 : Int) (H : Hp) (K : Int → Hp → Prop) : Prop := CallH prog 75 [.int .u64 x1] H (fun v H2 => liftI .i64 v fun r2 => K r2 H2)
abbrev bits_Row_Len.num : FuncId := 76
def bits_Row_Len.C (r1 : Option Addr) (H : Hp) (K : Int → Hp → Prop) : Prop := CallH prog 76 [.pointer r1] H (fun v H2 => liftI .i64 v fun r2 => K r2 H2)
end
end Go.Proofs.YtcmooaimhloonaaDoor
