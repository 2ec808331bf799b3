/- The types of the program and the calls of its functions, as the reckoner has them. -/
import Derived.Test.YtimgnhleaekmhaaDoorProg
import Derived.Test.YtimgnhleaekmhaaDoorVcUse
namespace Go.Proofs.YtimgnhleaekmhaaDoor
open Go.V
noncomputable section
@[reducible] noncomputable def prog : Program := Tryd.prog
theorem mix : prog.follows .mixedOrders = true := by kernel_rfl
def te_unit : TE := ⟨.tup [], 1, 0, [], []⟩
theorem te_unit.ok : TSpec prog 0 te_unit := TSpec.tup (i := Tryd.t0) (by kernel_rfl) (by kernel_rfl) (by kernel_rfl) (by kernel_rfl)
def te_int : TE := ⟨.sc, 1, 8, [.int .i64], [.int .i64 (0 : Int)]⟩
theorem te_int.ok : TSpec prog 3 te_int := TSpec.sc (i := Tryd.t3) (d := descOf Tryd.t3) (by kernel_rfl) (by kernel_rfl) (by kernel_rfl) (by kernel_rfl) (by kernel_rfl) (by kernel_rfl) (by kernel_rfl)
def te_bool : TE := ⟨.sc, 1, 1, [.bool], [.bool false]⟩
theorem te_bool.ok : TSpec prog 4 te_bool := TSpec.sc (i := Tryd.t4) (d := descOf Tryd.t4) (by kernel_rfl) (by kernel_rfl) (by kernel_rfl) (by kernel_rfl) (by kernel_rfl) (by kernel_rfl) (by kernel_rfl)
def te_uint8 : TE := ⟨.sc, 1, 1, [.int .u8], [.int .u8 (0 : Int)]⟩
theorem te_uint8.ok : TSpec prog 5 te_uint8 := TSpec.sc (i := Tryd.t5) (d := descOf Tryd.t5) (by kernel_rfl) (by kernel_rfl) (by kernel_rfl) (by kernel_rfl) (by kernel_rfl) (by kernel_rfl) (by kernel_rfl)
def te_p_bits_Row : TE := ⟨.sc, 1, 8, [.ptr], [.pointer none]⟩
theorem te_p_bits_Row.ok : TSpec prog 23 te_p_bits_Row := TSpec.sc (i := Tryd.t23) (d := descOf Tryd.t23) (by kernel_rfl) (by kernel_rfl) (by kernel_rfl) (by kernel_rfl) (by kernel_rfl) (by kernel_rfl) (by kernel_rfl)
def te_funcint_bool : TE := ⟨.sc, 1, 8, [.any], [.nilFunc]⟩
theorem te_funcint_bool.ok : TSpec prog 27 te_funcint_bool := TSpec.sc (i := Tryd.t27) (d := descOf Tryd.t27) (by kernel_rfl) (by kernel_rfl) (by kernel_rfl) (by kernel_rfl) (by kernel_rfl) (by kernel_rfl) (by kernel_rfl)
def te_sl_centolaw1_Step : TE := ⟨.sl 34, 1, 24, [.slice], [.slice none 0 0]⟩
theorem te_sl_centolaw1_Step.ok : TSpec prog 30 te_sl_centolaw1_Step := TSpec.sl (i := Tryd.t30) (by kernel_rfl) (by kernel_rfl) (by kernel_rfl) (by kernel_rfl) (by kernel_rfl)
def te_sl_bool : TE := ⟨.sl 4, 1, 24, [.slice], [.slice none 0 0]⟩
theorem te_sl_bool.ok : TSpec prog 31 te_sl_bool := TSpec.sl (i := Tryd.t31) (by kernel_rfl) (by kernel_rfl) (by kernel_rfl) (by kernel_rfl) (by kernel_rfl)
def te_sl_int : TE := ⟨.sl 3, 1, 24, [.slice], [.slice none 0 0]⟩
theorem te_sl_int.ok : TSpec prog 32 te_sl_int := TSpec.sl (i := Tryd.t32) (by kernel_rfl) (by kernel_rfl) (by kernel_rfl) (by kernel_rfl) (by kernel_rfl)
def te_centolaw1_Step : TE := ⟨.st [(0, 3), (1, 3), (2, 4), (3, 32)], 4, 48, [.int .i64, .int .i64, .bool, .slice], [.int .i64 (0 : Int), .int .i64 (0 : Int), .bool false, .slice none 0 0]⟩
theorem te_centolaw1_Step.ok : TSpec prog 34 te_centolaw1_Step := TSpec.st (i := Tryd.t34) (fields := structOf Tryd.t33) (by kernel_rfl) (by kernel_rfl) (by kernel_rfl) (by kernel_rfl) (by kernel_rfl) (by kernel_rfl) (by kernel_rfl) (by kernel_rfl) (by kernel_rfl) (by kernel_rfl) (by kernel_rfl)
def te_sl_uint8 : TE := ⟨.sl 5, 1, 24, [.slice], [.slice none 0 0]⟩
theorem te_sl_uint8.ok : TSpec prog 40 te_sl_uint8 := TSpec.sl (i := Tryd.t40) (by kernel_rfl) (by kernel_rfl) (by kernel_rfl) (by kernel_rfl) (by kernel_rfl)
def te_sl_uint64 : TE := ⟨.sl 48, 1, 24, [.slice], [.slice none 0 0]⟩
theorem te_sl_uint64.ok : TSpec prog 45 te_sl_uint64 := TSpec.sl (i := Tryd.t45) (by kernel_rfl) (by kernel_rfl) (by kernel_rfl) (by kernel_rfl) (by kernel_rfl)
def te_bits_Row : TE := ⟨.st [(0, 3), (1, 45)], 2, 32, [.int .i64, .slice], [.int .i64 (0 : Int), .slice none 0 0]⟩
theorem te_bits_Row.ok : TSpec prog 47 te_bits_Row := TSpec.st (i := Tryd.t47) (fields := structOf Tryd.t46) (by kernel_rfl) (by kernel_rfl) (by kernel_rfl) (by kernel_rfl) (by kernel_rfl) (by kernel_rfl) (by kernel_rfl) (by kernel_rfl) (by kernel_rfl) (by kernel_rfl) (by kernel_rfl)
def te_uint64 : TE := ⟨.sc, 1, 8, [.int .u64], [.int .u64 (0 : Int)]⟩
theorem te_uint64.ok : TSpec prog 48 te_uint64 := TSpec.sc (i := Tryd.t48) (d := descOf Tryd.t48) (by kernel_rfl) (by kernel_rfl) (by kernel_rfl) (by kernel_rfl) (by kernel_rfl) (by kernel_rfl) (by kernel_rfl)
def te_iter_Seq_int : TE := ⟨.sc, 1, 8, [.any], [.nilFunc]⟩
theorem te_iter_Seq_int.ok : TSpec prog 51 te_iter_Seq_int := TSpec.sc (i := Tryd.t51) (d := descOf Tryd.t50) (by kernel_rfl) (by kernel_rfl) (by kernel_rfl) (by kernel_rfl) (by kernel_rfl) (by kernel_rfl) (by kernel_rfl)
def te_64_uint8 : TE := ⟨.ar 64 5, 64, 64, [], [.int .u8 (0 : Int), .int .u8 (0 : Int), .int .u8 (0 : Int), .int .u8 (0 : Int), .int .u8 (0 : Int), .int .u8 (0 : Int), .int .u8 (0 : Int), .int .u8 (0 : Int), .int .u8 (0 : Int), .int .u8 (0 : Int), .int .u8 (0 : Int), .int .u8 (0 : Int), .int .u8 (0 : Int), .int .u8 (0 : Int), .int .u8 (0 : Int), .int .u8 (0 : Int), .int .u8 (0 : Int), .int .u8 (0 : Int), .int .u8 (0 : Int), .int .u8 (0 : Int), .int .u8 (0 : Int), .int .u8 (0 : Int), .int .u8 (0 : Int), .int .u8 (0 : Int), .int .u8 (0 : Int), .int .u8 (0 : Int), .int .u8 (0 : Int), .int .u8 (0 : Int), .int .u8 (0 : Int), .int .u8 (0 : Int), .int .u8 (0 : Int), .int .u8 (0 : Int), .int .u8 (0 : Int), .int .u8 (0 : Int), .int .u8 (0 : Int), .int .u8 (0 : Int), .int .u8 (0 : Int), .int .u8 (0 : Int), .int .u8 (0 : Int), .int .u8 (0 : Int), .int .u8 (0 : Int), .int .u8 (0 : Int), .int .u8 (0 : Int), .int .u8 (0 : Int), .int .u8 (0 : Int), .int .u8 (0 : Int), .int .u8 (0 : Int), .int .u8 (0 : Int), .int .u8 (0 : Int), .int .u8 (0 : Int), .int .u8 (0 : Int), .int .u8 (0 : Int), .int .u8 (0 : Int), .int .u8 (0 : Int), .int .u8 (0 : Int), .int .u8 (0 : Int), .int .u8 (0 : Int), .int .u8 (0 : Int), .int .u8 (0 : Int), .int .u8 (0 : Int), .int .u8 (0 : Int), .int .u8 (0 : Int), .int .u8 (0 : Int), .int .u8 (0 : Int)]⟩
theorem te_64_uint8.ok : TSpec prog 56 te_64_uint8 := TSpec.ar (i := Tryd.t56) (by kernel_rfl) (by kernel_rfl) (by kernel_rfl) (by kernel_rfl) (by kernel_rfl)
def tab : Tab := Tab.of [(0, te_unit), (3, te_int), (4, te_bool), (5, te_uint8), (23, te_p_bits_Row), (27, te_funcint_bool), (30, te_sl_centolaw1_Step), (31, te_sl_bool), (32, te_sl_int), (34, te_centolaw1_Step), (40, te_sl_uint8), (45, te_sl_uint64), (47, te_bits_Row), (48, te_uint64), (51, te_iter_Seq_int), (56, te_64_uint8)]
theorem tabOk : TOk prog tab := (TOk.cons te_unit.ok (TOk.cons te_int.ok (TOk.cons te_bool.ok (TOk.cons te_uint8.ok (TOk.cons te_p_bits_Row.ok (TOk.cons te_funcint_bool.ok (TOk.cons te_sl_centolaw1_Step.ok (TOk.cons te_sl_bool.ok (TOk.cons te_sl_int.ok (TOk.cons te_centolaw1_Step.ok (TOk.cons te_sl_uint8.ok (TOk.cons te_sl_uint64.ok (TOk.cons te_bits_Row.ok (TOk.cons te_uint64.ok (TOk.cons te_iter_Seq_int.ok (TOk.cons te_64_uint8.ok (TOk.nil _)))))))))))))))))
abbrev gTab : Nat := 0
abbrev centolaw1_RowPlaces.num : FuncId := 3
def centolaw1_RowPlaces.C (n1 : Int) (atq2 : Int) (other3 : Int) (H : Hp) (K : Bool → Hp → Prop) : Prop := CallH prog 3 [.int .u8 n1, .int .u8 atq2, .int .u8 other3] H (fun v H2 => liftB v fun r4 => K r4 H2)
abbrev centolaw1_RowPlays.num : FuncId := 4
def centolaw1_RowPlays.C (n1 : Int) (lp2 : Option Addr) (ll3 : Nat) (lc4 : Nat) (mq5 : Int) (H : Hp) (K : Bool → Hp → Prop) : Prop := CallH prog 4 [.int .i64 n1, .slice lp2 ll3 lc4, .int .i64 mq5] H (fun v H2 => liftB v fun r6 => K r6 H2)
abbrev centolaw1_RowSets.num : FuncId := 5
def centolaw1_RowSets.C (ap1 : Option Addr) (al2 : Nat) (ac3 : Nat) (bp4 : Option Addr) (bl5 : Nat) (bcq6 : Nat) (cp7 : Option Addr) (cl8 : Nat) (cc9 : Nat) (H : Hp) (K : Bool → Hp → Prop) : Prop := CallH prog 5 [.slice ap1 al2 ac3, .slice bp4 bl5 bcq6, .slice cp7 cl8 cc9] H (fun v H2 => liftB v fun r10 => K r10 H2)
abbrev centolaw1_RowLengths.num : FuncId := 6
def centolaw1_RowLengths.C (n1 : Int) (mq2 : Int) (H : Hp) (K : Bool → Hp → Prop) : Prop := CallH prog 6 [.int .u8 n1, .int .u8 mq2] H (fun v H2 => liftB v fun r3 => K r3 H2)
abbrev centolaw1_known.num : FuncId := 7
def centolaw1_known.C  (H : Hp) (K : Bool → Hp → Prop) : Prop := CallH prog 7 [] H (fun v H2 => liftB v fun r1 => K r1 H2)
abbrev bits_New.num : FuncId := 8
def bits_New.C (n1 : Int) (H : Hp) (K : Option Addr → Hp → Prop) : Prop := CallH prog 8 [.int .i64 n1] H (fun v H2 => liftP v fun r2 => K r2 H2)
abbrev bits_Row_Put.num : FuncId := 9
def bits_Row_Put.C (r1 : Option Addr) (i2 : Int) (on3 : Bool) (H : Hp) (K : Hp → Prop) : Prop := CallH prog 9 [.pointer r1, .int .i64 i2, .bool on3] H (fun v H2 => tupV v fun vs => d0 vs (K H2))
abbrev bits_Row_Copy.num : FuncId := 10
def bits_Row_Copy.C (r1 : Option Addr) (H : Hp) (K : Option Addr → Hp → Prop) : Prop := CallH prog 10 [.pointer r1] H (fun v H2 => liftP v fun r2 => K r2 H2)
abbrev bits_Row_Has.num : FuncId := 11
def bits_Row_Has.C (r1 : Option Addr) (i2 : Int) (H : Hp) (K : Bool → Hp → Prop) : Prop := CallH prog 11 [.pointer r1, .int .i64 i2] H (fun v H2 => liftB v fun r3 => K r3 H2)
abbrev bits_Row_Count.num : FuncId := 12
def bits_Row_Count.C (r1 : Option Addr) (H : Hp) (K : Int → Hp → Prop) : Prop := CallH prog 12 [.pointer r1] H (fun v H2 => liftI .i64 v fun r2 => K r2 H2)
abbrev centolaw1_of.num : FuncId := 13
def centolaw1_of.C (n1 : Int) (lp2 : Option Addr) (ll3 : Nat) (lc4 : Nat) (H : Hp) (K : Option Addr → Hp → Prop) : Prop := CallH prog 13 [.int .i64 n1, .slice lp2 ll3 lc4] H (fun v H2 => liftP v fun r5 => K r5 H2)
abbrev bits_Row_Or.num : FuncId := 14
def bits_Row_Or.C (r1 : Option Addr) (oq2 : Option Addr) (H : Hp) (K : Bool → Hp → Prop) : Prop := CallH prog 14 [.pointer r1, .pointer oq2] H (fun v H2 => liftB v fun r3 => K r3 H2)
abbrev bits_Row_And.num : FuncId := 15
def bits_Row_And.C (r1 : Option Addr) (oq2 : Option Addr) (H : Hp) (K : Hp → Prop) : Prop := CallH prog 15 [.pointer r1, .pointer oq2] H (fun v H2 => tupV v fun vs => d0 vs (K H2))
abbrev centolaw1_told.num : FuncId := 16
def centolaw1_told.C (r1 : Option Addr) (inp2 : Option Addr) (inl3 : Nat) (inc4 : Nat) (H : Hp) (K : Bool → Hp → Prop) : Prop := CallH prog 16 [.pointer r1, .slice inp2 inl3 inc4] H (fun v H2 => liftB v fun r5 => K r5 H2)
abbrev bits_Row_Same.num : FuncId := 17
def bits_Row_Same.C (r1 : Option Addr) (oq2 : Option Addr) (H : Hp) (K : Bool → Hp → Prop) : Prop := CallH prog 17 [.pointer r1, .pointer oq2] H (fun v H2 => liftB v fun r3 => K r3 H2)
abbrev centolaw1_mod.num : FuncId := 18
def centolaw1_mod.C (lp1 : Option Addr) (ll2 : Nat) (lc3 : Nat) (H : Hp) (K : Option Addr → Hp → Prop) : Prop := CallH prog 18 [.slice lp1 ll2 lc3] H (fun v H2 => liftP v fun r4 => K r4 H2)
abbrev bits_Row_Len.num : FuncId := 19
def bits_Row_Len.C (r1 : Option Addr) (H : Hp) (K : Int → Hp → Prop) : Prop := CallH prog 19 [.pointer r1] H (fun v H2 => liftI .i64 v fun r2 => K r2 H2)
abbrev bits_Row_All.num : FuncId := 20
def bits_Row_All.C (r1 : Option Addr) (H : Hp) (K : Option Addr → Nat → Nat → Hp → Prop) : Prop := CallH prog 20 [.pointer r1] H (fun v H2 => liftL v fun rp2 rl3 rc4 => K rp2 rl3 rc4 H2)
abbrev bits_Row_there.num : FuncId := 21
def bits_Row_there.C (r1 : Option Addr) (i2 : Int) (H : Hp) (K : Bool → Hp → Prop) : Prop := CallH prog 21 [.pointer r1, .int .i64 i2] H (fun v H2 => liftB v fun r3 => K r3 H2)
abbrev slices_Clone_uint64_uint64.num : FuncId := 22
def slices_Clone_uint64_uint64.C (sp1 : Option Addr) (sl2 : Nat) (sc3 : Nat) (H : Hp) (K : Option Addr → Nat → Nat → Hp → Prop) : Prop := CallH prog 22 [.slice sp1 sl2 sc3] H (fun v H2 => liftL v fun rp4 rl5 rc6 => K rp4 rl5 rc6 H2)
abbrev bits_Row_Each.num : FuncId := 23
def bits_Row_Each.C (r1 : Option Addr) (H : Hp) (K : Value → Hp → Prop) : Prop := CallH prog 23 [.pointer r1] H (fun v H2 => (fun r2 => K r2 H2) v)
abbrev slices_Collect_int.num : FuncId := 24
def slices_Collect_int.C (seq1 : Value) (H : Hp) (K : Option Addr → Nat → Nat → Hp → Prop) : Prop := CallH prog 24 [seq1] H (fun v H2 => liftL v fun rp2 rl3 rc4 => K rp2 rl3 rc4 H2)
abbrev bits_Row_Each_1.num : FuncId := 25
def bits_Row_Each_1.I (cap1 : Nat) (H : Hp) (G : Int → Hp → (Al → Hp → Prop) → Prop) (K : Al → Hp → Prop) : Prop := ITER prog 25 [] [.pointer (some ⟨cap1, 0, none⟩)] H (fun vals H Kb => d1 vals fun w0 => liftI .i64 w0 fun z2 => G z2 H Kb) K
abbrev math_bits_TrailingZeros64.num : FuncId := 26
def math_bits_TrailingZeros64.C (x1 : Int) (H : Hp) (K : Int → Hp → Prop) : Prop := CallH prog 26 [.int .u64 x1] H (fun v H2 => liftI .i64 v fun r2 => K r2 H2)
abbrev slices_AppendSeq_int_int.num : FuncId := 27
def slices_AppendSeq_int_int.C (sp1 : Option Addr) (sl2 : Nat) (sc3 : Nat) (seq4 : Value) (H : Hp) (K : Option Addr → Nat → Nat → Hp → Prop) : Prop := CallH prog 27 [.slice sp1 sl2 sc3, seq4] H (fun v H2 => liftL v fun rp5 rl6 rc7 => K rp5 rl6 rc7 H2)
end
end Go.Proofs.YtimgnhleaekmhaaDoor
