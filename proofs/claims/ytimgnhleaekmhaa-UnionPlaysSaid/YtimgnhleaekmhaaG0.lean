/- The types of the program and the calls of its functions, as the reckoner has them. -/
import Derived.Test.YtimgnhleaekmhaaProg
import Derived.Test.YtimgnhleaekmhaaVcUse
namespace Go.Proofs.Ytimgnhleaekmhaa
open Go.V
noncomputable section
@[reducible] noncomputable def prog : Program := Try.prog
theorem mix : prog.follows .mixedOrders = true := by kernel_rfl
def te_int : TE := ⟨.sc, 1, 8, [.int .i64], [.int .i64 (0 : Int)]⟩
theorem te_int.ok : TSpec prog 3 te_int := TSpec.sc (i := Try.t3) (d := descOf Try.t3) (by kernel_rfl) (by kernel_rfl) (by kernel_rfl) (by kernel_rfl) (by kernel_rfl) (by kernel_rfl) (by kernel_rfl)
def te_bool : TE := ⟨.sc, 1, 1, [.bool], [.bool false]⟩
theorem te_bool.ok : TSpec prog 4 te_bool := TSpec.sc (i := Try.t4) (d := descOf Try.t4) (by kernel_rfl) (by kernel_rfl) (by kernel_rfl) (by kernel_rfl) (by kernel_rfl) (by kernel_rfl) (by kernel_rfl)
def te_uint8 : TE := ⟨.sc, 1, 1, [.int .u8], [.int .u8 (0 : Int)]⟩
theorem te_uint8.ok : TSpec prog 5 te_uint8 := TSpec.sc (i := Try.t5) (d := descOf Try.t5) (by kernel_rfl) (by kernel_rfl) (by kernel_rfl) (by kernel_rfl) (by kernel_rfl) (by kernel_rfl) (by kernel_rfl)
def te_string : TE := ⟨.sc, 1, 16, [.str], [.string .empty]⟩
theorem te_string.ok : TSpec prog 9 te_string := TSpec.sc (i := Try.t9) (d := descOf Try.t9) (by kernel_rfl) (by kernel_rfl) (by kernel_rfl) (by kernel_rfl) (by kernel_rfl) (by kernel_rfl) (by kernel_rfl)
def te_sl_uint8 : TE := ⟨.sl 5, 1, 24, [.slice], [.slice none 0 0]⟩
theorem te_sl_uint8.ok : TSpec prog 22 te_sl_uint8 := TSpec.sl (i := Try.t22) (by kernel_rfl) (by kernel_rfl) (by kernel_rfl) (by kernel_rfl) (by kernel_rfl)
def te_sl_api_Pair : TE := ⟨.sl 33, 1, 24, [.slice], [.slice none 0 0]⟩
theorem te_sl_api_Pair.ok : TSpec prog 23 te_sl_api_Pair := TSpec.sl (i := Try.t23) (by kernel_rfl) (by kernel_rfl) (by kernel_rfl) (by kernel_rfl) (by kernel_rfl)
def te_sl_string : TE := ⟨.sl 9, 1, 24, [.slice], [.slice none 0 0]⟩
theorem te_sl_string.ok : TSpec prog 25 te_sl_string := TSpec.sl (i := Try.t25) (by kernel_rfl) (by kernel_rfl) (by kernel_rfl) (by kernel_rfl) (by kernel_rfl)
def te_api_Pair : TE := ⟨.st [(0, 3), (1, 3)], 2, 16, [.int .i64, .int .i64], [.int .i64 (0 : Int), .int .i64 (0 : Int)]⟩
theorem te_api_Pair.ok : TSpec prog 33 te_api_Pair := TSpec.st (i := Try.t33) (fields := structOf Try.t32) (by kernel_rfl) (by kernel_rfl) (by kernel_rfl) (by kernel_rfl) (by kernel_rfl) (by kernel_rfl) (by kernel_rfl) (by kernel_rfl) (by kernel_rfl) (by kernel_rfl) (by kernel_rfl)
def te_p_union_Union : TE := ⟨.sc, 1, 8, [.ptr], [.pointer none]⟩
theorem te_p_union_Union.ok : TSpec prog 37 te_p_union_Union := TSpec.sc (i := Try.t37) (d := descOf Try.t37) (by kernel_rfl) (by kernel_rfl) (by kernel_rfl) (by kernel_rfl) (by kernel_rfl) (by kernel_rfl) (by kernel_rfl)
def te_sl_sl_int : TE := ⟨.sl 47, 1, 24, [.slice], [.slice none 0 0]⟩
theorem te_sl_sl_int.ok : TSpec prog 41 te_sl_sl_int := TSpec.sl (i := Try.t41) (by kernel_rfl) (by kernel_rfl) (by kernel_rfl) (by kernel_rfl) (by kernel_rfl)
def te_p_centoref7_Union : TE := ⟨.sc, 1, 8, [.ptr], [.pointer none]⟩
theorem te_p_centoref7_Union.ok : TSpec prog 44 te_p_centoref7_Union := TSpec.sc (i := Try.t44) (d := descOf Try.t44) (by kernel_rfl) (by kernel_rfl) (by kernel_rfl) (by kernel_rfl) (by kernel_rfl) (by kernel_rfl) (by kernel_rfl)
def te_sl_int : TE := ⟨.sl 3, 1, 24, [.slice], [.slice none 0 0]⟩
theorem te_sl_int.ok : TSpec prog 47 te_sl_int := TSpec.sl (i := Try.t47) (by kernel_rfl) (by kernel_rfl) (by kernel_rfl) (by kernel_rfl) (by kernel_rfl)
def te_centoref7_Union : TE := ⟨.st [(0, 47)], 1, 24, [.slice], [.slice none 0 0]⟩
theorem te_centoref7_Union.ok : TSpec prog 49 te_centoref7_Union := TSpec.st (i := Try.t49) (fields := structOf Try.t48) (by kernel_rfl) (by kernel_rfl) (by kernel_rfl) (by kernel_rfl) (by kernel_rfl) (by kernel_rfl) (by kernel_rfl) (by kernel_rfl) (by kernel_rfl) (by kernel_rfl) (by kernel_rfl)
def te_p_match_table : TE := ⟨.sc, 1, 8, [.ptr], [.pointer none]⟩
theorem te_p_match_table.ok : TSpec prog 54 te_p_match_table := TSpec.sc (i := Try.t54) (d := descOf Try.t54) (by kernel_rfl) (by kernel_rfl) (by kernel_rfl) (by kernel_rfl) (by kernel_rfl) (by kernel_rfl) (by kernel_rfl)
def te_201_uint8 : TE := ⟨.ar 201 5, 201, 201, [], zeroL Try.t56⟩
theorem te_201_uint8.ok : TSpec prog 56 te_201_uint8 := TSpec.ar (i := Try.t56) (by kernel_rfl) (by kernel_rfl) (by kernel_rfl) (by kernel_rfl) (by kernel_rfl)
def te_int_int : TE := ⟨.tup [3, 3], 1, 0, [], []⟩
theorem te_int_int.ok : TSpec prog 58 te_int_int := TSpec.tup (i := Try.t58) (by kernel_rfl) (by kernel_rfl) (by kernel_rfl) (by kernel_rfl)
def te_union_Union : TE := ⟨.st [(0, 47)], 1, 24, [.slice], [.slice none 0 0]⟩
theorem te_union_Union.ok : TSpec prog 62 te_union_Union := TSpec.st (i := Try.t62) (fields := structOf Try.t61) (by kernel_rfl) (by kernel_rfl) (by kernel_rfl) (by kernel_rfl) (by kernel_rfl) (by kernel_rfl) (by kernel_rfl) (by kernel_rfl) (by kernel_rfl) (by kernel_rfl) (by kernel_rfl)
def te_iter_Seq_int : TE := ⟨.sc, 1, 8, [.any], [.nilFunc]⟩
theorem te_iter_Seq_int.ok : TSpec prog 64 te_iter_Seq_int := TSpec.sc (i := Try.t64) (d := descOf Try.t63) (by kernel_rfl) (by kernel_rfl) (by kernel_rfl) (by kernel_rfl) (by kernel_rfl) (by kernel_rfl) (by kernel_rfl)
def te_match_table : TE := ⟨.ar 201 56, 40401, 40401, [], zeroL Try.t68⟩
theorem te_match_table.ok : TSpec prog 68 te_match_table := TSpec.ar (i := Try.t68) (by kernel_rfl) (by kernel_rfl) (by kernel_rfl) (by kernel_rfl) (by kernel_rfl)
def te_funcint_bool : TE := ⟨.sc, 1, 8, [.any], [.nilFunc]⟩
theorem te_funcint_bool.ok : TSpec prog 69 te_funcint_bool := TSpec.sc (i := Try.t69) (d := descOf Try.t69) (by kernel_rfl) (by kernel_rfl) (by kernel_rfl) (by kernel_rfl) (by kernel_rfl) (by kernel_rfl) (by kernel_rfl)
def tab : Tab := Tab.of [(3, te_int), (4, te_bool), (5, te_uint8), (9, te_string), (22, te_sl_uint8), (23, te_sl_api_Pair), (25, te_sl_string), (33, te_api_Pair), (37, te_p_union_Union), (41, te_sl_sl_int), (44, te_p_centoref7_Union), (47, te_sl_int), (49, te_centoref7_Union), (54, te_p_match_table), (56, te_201_uint8), (58, te_int_int), (62, te_union_Union), (64, te_iter_Seq_int), (68, te_match_table), (69, te_funcint_bool)]
theorem tabOk : TOk prog tab := (TOk.cons te_int.ok (TOk.cons te_bool.ok (TOk.cons te_uint8.ok (TOk.cons te_string.ok (TOk.cons te_sl_uint8.ok (TOk.cons te_sl_api_Pair.ok (TOk.cons te_sl_string.ok (TOk.cons te_api_Pair.ok (TOk.cons te_p_union_Union.ok (TOk.cons te_sl_sl_int.ok (TOk.cons te_p_centoref7_Union.ok (TOk.cons te_sl_int.ok (TOk.cons te_centoref7_Union.ok (TOk.cons te_p_match_table.ok (TOk.cons te_201_uint8.ok (TOk.cons te_int_int.ok (TOk.cons te_union_Union.ok (TOk.cons te_iter_Seq_int.ok (TOk.cons te_match_table.ok (TOk.cons te_funcint_bool.ok (TOk.nil _)))))))))))))))))))))
abbrev centolaw11_MatchTells.num : FuncId := 3
def centolaw11_MatchTells.C (xp1 : Option Addr) (xl2 : Nat) (xc3 : Nat) (yp4 : Option Addr) (yl5 : Nat) (yc6 : Nat) (lp7 : Option Addr) (ll8 : Nat) (lc9 : Nat) (H : Hp) (K : Bool → Hp → Prop) : Prop := CallH prog 3 [.slice xp1 xl2 xc3, .slice yp4 yl5 yc6, .slice lp7 ll8 lc9] H (fun v H2 => liftB v fun r10 => K r10 H2)
abbrev centolaw11_MatchLongest.num : FuncId := 4
def centolaw11_MatchLongest.C (xp1 : Option Addr) (xl2 : Nat) (xc3 : Nat) (yp4 : Option Addr) (yl5 : Nat) (yc6 : Nat) (lp7 : Option Addr) (ll8 : Nat) (lc9 : Nat) (H : Hp) (K : Bool → Hp → Prop) : Prop := CallH prog 4 [.slice xp1 xl2 xc3, .slice yp4 yl5 yc6, .slice lp7 ll8 lc9] H (fun v H2 => liftB v fun r10 => K r10 H2)
abbrev centolaw11_MatchParts.num : FuncId := 5
def centolaw11_MatchParts.C (xp1 : Option Addr) (xl2 : Nat) (xc3 : Nat) (betweenp4 : Option Addr) (betweenl5 : Nat) (betweenc6 : Nat) (more7 : Int) (H : Hp) (K : Bool → Hp → Prop) : Prop := CallH prog 5 [.slice xp1 xl2 xc3, .slice betweenp4 betweenl5 betweenc6, .int .u8 more7] H (fun v H2 => liftB v fun r8 => K r8 H2)
abbrev centolaw11_MatchApart.num : FuncId := 6
def centolaw11_MatchApart.C (n1 : Int) (mq2 : Int) (atq3 : Int) (H : Hp) (K : Bool → Hp → Prop) : Prop := CallH prog 6 [.int .u8 n1, .int .u8 mq2, .int .u8 atq3] H (fun v H2 => liftB v fun r4 => K r4 H2)
abbrev centolaw11_MatchFirst.num : FuncId := 7
def centolaw11_MatchFirst.C (n1 : Int) (mq2 : Int) (H : Hp) (K : Bool → Hp → Prop) : Prop := CallH prog 7 [.int .u8 n1, .int .u8 mq2] H (fun v H2 => liftB v fun r3 => K r3 H2)
abbrev centolaw6_UnionOrder.num : FuncId := 8
def centolaw6_UnionOrder.C (n1 : Int) (lp2 : Option Addr) (ll3 : Nat) (lc4 : Nat) (turn5 : Int) (H : Hp) (K : Bool → Hp → Prop) : Prop := CallH prog 8 [.int .u8 n1, .slice lp2 ll3 lc4, .int .u8 turn5] H (fun v H2 => liftB v fun r6 => K r6 H2)
abbrev centolaw6_UnionPlays.num : FuncId := 9
def centolaw6_UnionPlays.C (n1 : Int) (lp2 : Option Addr) (ll3 : Nat) (lc4 : Nat) (a5 : Int) (bq6 : Int) (H : Hp) (K : Bool → Hp → Prop) : Prop := CallH prog 9 [.int .u8 n1, .slice lp2 ll3 lc4, .int .i64 a5, .int .i64 bq6] H (fun v H2 => liftB v fun r7 => K r7 H2)
abbrev centolaw11_known.num : FuncId := 10
def centolaw11_known.C  (H : Hp) (K : Bool → Hp → Prop) : Prop := CallH prog 10 [] H (fun v H2 => liftB v fun r1 => K r1 H2)
abbrev centolaw11_texts.num : FuncId := 11
def centolaw11_texts.C (ap1 : Option Addr) (al2 : Nat) (ac3 : Nat) (H : Hp) (K : Option Addr → Nat → Nat → Hp → Prop) : Prop := CallH prog 11 [.slice ap1 al2 ac3] H (fun v H2 => liftL v fun rp4 rl5 rc6 => K rp4 rl5 rc6 H2)
abbrev centolaw11_same.num : FuncId := 12
def centolaw11_same.C (ap1 : Option Addr) (al2 : Nat) (ac3 : Nat) (bp4 : Option Addr) (bl5 : Nat) (bcq6 : Nat) (H : Hp) (K : Bool → Hp → Prop) : Prop := CallH prog 12 [.slice ap1 al2 ac3, .slice bp4 bl5 bcq6] H (fun v H2 => liftB v fun r7 => K r7 H2)
abbrev match_Longest.num : FuncId := 13
def match_Longest.C (ap1 : Option Addr) (al2 : Nat) (ac3 : Nat) (bp4 : Option Addr) (bl5 : Nat) (bcq6 : Nat) (H : Hp) (K : Option Addr → Nat → Nat → Hp → Prop) : Prop := CallH prog 13 [.slice ap1 al2 ac3, .slice bp4 bl5 bcq6] H (fun v H2 => liftL v fun rp7 rl8 rc9 => K rp7 rl8 rc9 H2)
abbrev centoref10_Longest.num : FuncId := 14
def centoref10_Longest.C (xp1 : Option Addr) (xl2 : Nat) (xc3 : Nat) (yp4 : Option Addr) (yl5 : Nat) (yc6 : Nat) (H : Hp) (K : Option Addr → Nat → Nat → Hp → Prop) : Prop := CallH prog 14 [.slice xp1 xl2 xc3, .slice yp4 yl5 yc6] H (fun v H2 => liftL v fun rp7 rl8 rc9 => K rp7 rl8 rc9 H2)
abbrev match_Length.num : FuncId := 15
def match_Length.C (ap1 : Option Addr) (al2 : Nat) (ac3 : Nat) (bp4 : Option Addr) (bl5 : Nat) (bcq6 : Nat) (H : Hp) (K : Int → Hp → Prop) : Prop := CallH prog 15 [.slice ap1 al2 ac3, .slice bp4 bl5 bcq6] H (fun v H2 => liftI .i64 v fun r7 => K r7 H2)
abbrev centoref10_Length.num : FuncId := 16
def centoref10_Length.C (ap1 : Option Addr) (al2 : Nat) (ac3 : Nat) (bp4 : Option Addr) (bl5 : Nat) (bcq6 : Nat) (H : Hp) (K : Int → Hp → Prop) : Prop := CallH prog 16 [.slice ap1 al2 ac3, .slice bp4 bl5 bcq6] H (fun v H2 => liftI .i64 v fun r7 => K r7 H2)
abbrev match_Is.num : FuncId := 17
def match_Is.C (ap1 : Option Addr) (al2 : Nat) (ac3 : Nat) (bp4 : Option Addr) (bl5 : Nat) (bcq6 : Nat) (lp7 : Option Addr) (ll8 : Nat) (lc9 : Nat) (H : Hp) (K : Bool → Hp → Prop) : Prop := CallH prog 17 [.slice ap1 al2 ac3, .slice bp4 bl5 bcq6, .slice lp7 ll8 lc9] H (fun v H2 => liftB v fun r10 => K r10 H2)
abbrev centoref10_Is.num : FuncId := 18
def centoref10_Is.C (xp1 : Option Addr) (xl2 : Nat) (xc3 : Nat) (yp4 : Option Addr) (yl5 : Nat) (yc6 : Nat) (lp7 : Option Addr) (ll8 : Nat) (lc9 : Nat) (H : Hp) (K : Bool → Hp → Prop) : Prop := CallH prog 18 [.slice xp1 xl2 xc3, .slice yp4 yl5 yc6, .slice lp7 ll8 lc9] H (fun v H2 => liftB v fun r10 => K r10 H2)
abbrev centolaw6_known.num : FuncId := 19
def centolaw6_known.C  (H : Hp) (K : Bool → Hp → Prop) : Prop := CallH prog 19 [] H (fun v H2 => liftB v fun r1 => K r1 H2)
abbrev union_New.num : FuncId := 20
def union_New.C (n1 : Int) (H : Hp) (K : Option Addr → Hp → Prop) : Prop := CallH prog 20 [.int .i64 n1] H (fun v H2 => liftP v fun r2 => K r2 H2)
abbrev union_Union_Join.num : FuncId := 21
def union_Union_Join.C (u1 : Option Addr) (a2 : Int) (bq3 : Int) (H : Hp) (K : Bool → Hp → Prop) : Prop := CallH prog 21 [.pointer u1, .int .i64 a2, .int .i64 bq3] H (fun v H2 => liftB v fun r4 => K r4 H2)
abbrev union_Union_Least.num : FuncId := 22
def union_Union_Least.C (u1 : Option Addr) (a2 : Int) (H : Hp) (K : Int → Hp → Prop) : Prop := CallH prog 22 [.pointer u1, .int .i64 a2] H (fun v H2 => liftI .i64 v fun r3 => K r3 H2)
abbrev union_Union_Same.num : FuncId := 23
def union_Union_Same.C (u1 : Option Addr) (a2 : Int) (bq3 : Int) (H : Hp) (K : Bool → Hp → Prop) : Prop := CallH prog 23 [.pointer u1, .int .i64 a2, .int .i64 bq3] H (fun v H2 => liftB v fun r4 => K r4 H2)
abbrev union_Union_Classes.num : FuncId := 24
def union_Union_Classes.C (u1 : Option Addr) (H : Hp) (K : Option Addr → Nat → Nat → Hp → Prop) : Prop := CallH prog 24 [.pointer u1] H (fun v H2 => liftL v fun rp2 rl3 rc4 => K rp2 rl3 rc4 H2)
abbrev centoref7_New.num : FuncId := 25
def centoref7_New.C (n1 : Int) (H : Hp) (K : Option Addr → Hp → Prop) : Prop := CallH prog 25 [.int .i64 n1] H (fun v H2 => liftP v fun r2 => K r2 H2)
abbrev union_Union_Copy.num : FuncId := 26
def union_Union_Copy.C (u1 : Option Addr) (H : Hp) (K : Option Addr → Hp → Prop) : Prop := CallH prog 26 [.pointer u1] H (fun v H2 => liftP v fun r2 => K r2 H2)
abbrev centoref7_Union_Join.num : FuncId := 27
def centoref7_Union_Join.C (u1 : Option Addr) (a2 : Int) (bq3 : Int) (H : Hp) (K : Bool → Hp → Prop) : Prop := CallH prog 27 [.pointer u1, .int .i64 a2, .int .i64 bq3] H (fun v H2 => liftB v fun r4 => K r4 H2)
abbrev centolaw6_classes.num : FuncId := 28
def centolaw6_classes.C (u1 : Option Addr) (mq2 : Option Addr) (H : Hp) (K : Bool → Hp → Prop) : Prop := CallH prog 28 [.pointer u1, .pointer mq2] H (fun v H2 => liftB v fun r3 => K r3 H2)
abbrev union_Union_Len.num : FuncId := 29
def union_Union_Len.C (u1 : Option Addr) (H : Hp) (K : Int → Hp → Prop) : Prop := CallH prog 29 [.pointer u1] H (fun v H2 => liftI .i64 v fun r2 => K r2 H2)
abbrev match_first.num : FuncId := 30
def match_first.C (lp1 : Option Addr) (ll2 : Nat) (lc3 : Nat) (H : Hp) (K : Option Addr → Nat → Nat → Hp → Prop) : Prop := CallH prog 30 [.slice lp1 ll2 lc3] H (fun v H2 => liftL v fun rp4 rl5 rc6 => K rp4 rl5 rc6 H2)
abbrev match_of.num : FuncId := 31
def match_of.C (ap1 : Option Addr) (al2 : Nat) (ac3 : Nat) (bp4 : Option Addr) (bl5 : Nat) (bcq6 : Nat) (H : Hp) (K : Option Addr → Hp → Prop) : Prop := CallH prog 31 [.slice ap1 al2 ac3, .slice bp4 bl5 bcq6] H (fun v H2 => liftP v fun r7 => K r7 H2)
abbrev centoref10_first.num : FuncId := 32
def centoref10_first.C (lp1 : Option Addr) (ll2 : Nat) (lc3 : Nat) (H : Hp) (K : Option Addr → Nat → Nat → Hp → Prop) : Prop := CallH prog 32 [.slice lp1 ll2 lc3] H (fun v H2 => liftL v fun rp4 rl5 rc6 => K rp4 rl5 rc6 H2)
abbrev centoref10_table.num : FuncId := 33
def centoref10_table.C (ap1 : Option Addr) (al2 : Nat) (ac3 : Nat) (bp4 : Option Addr) (bl5 : Nat) (bcq6 : Nat) (H : Hp) (K : Option Addr → Nat → Nat → Hp → Prop) : Prop := CallH prog 33 [.slice ap1 al2 ac3, .slice bp4 bl5 bcq6] H (fun v H2 => liftL v fun rp7 rl8 rc9 => K rp7 rl8 rc9 H2)
abbrev centoref10_next.num : FuncId := 34
def centoref10_next.C (ap1 : Option Addr) (al2 : Nat) (ac3 : Nat) (bp4 : Option Addr) (bl5 : Nat) (bcq6 : Nat) (tp7 : Option Addr) (tl8 : Nat) (tc9 : Nat) (i10 : Int) (k11 : Int) (H : Hp) (K : Int → Int → Hp → Prop) : Prop := CallH prog 34 [.slice ap1 al2 ac3, .slice bp4 bl5 bcq6, .slice tp7 tl8 tc9, .int .i64 i10, .int .i64 k11] H (fun v H2 => tupV v fun vs => d2 vs fun wv0 wv1 => liftI .i64 wv0 fun r12 => liftI .i64 wv1 fun r13 => K r12 r13 H2)
abbrev union_Union_Places.num : FuncId := 35
def union_Union_Places.C (u1 : Option Addr) (H : Hp) (K : Option Addr → Nat → Nat → Hp → Prop) : Prop := CallH prog 35 [.pointer u1] H (fun v H2 => liftL v fun rp2 rl3 rc4 => K rp2 rl3 rc4 H2)
abbrev union_Union_way.num : FuncId := 36
def union_Union_way.C (u1 : Option Addr) (a2 : Int) (H : Hp) (K : Value → Hp → Prop) : Prop := CallH prog 36 [.pointer u1, .int .i64 a2] H (fun v H2 => (fun r3 => K r3 H2) v)
abbrev slices_Clone_int_int.num : FuncId := 37
def slices_Clone_int_int.C (sp1 : Option Addr) (sl2 : Nat) (sc3 : Nat) (H : Hp) (K : Option Addr → Nat → Nat → Hp → Prop) : Prop := CallH prog 37 [.slice sp1 sl2 sc3] H (fun v H2 => liftL v fun rp4 rl5 rc6 => K rp4 rl5 rc6 H2)
abbrev centoref7_Union_Places.num : FuncId := 38
def centoref7_Union_Places.C (u1 : Option Addr) (H : Hp) (K : Option Addr → Nat → Nat → Hp → Prop) : Prop := CallH prog 38 [.pointer u1] H (fun v H2 => liftL v fun rp2 rl3 rc4 => K rp2 rl3 rc4 H2)
abbrev union_Union_way_1.num : FuncId := 39
def union_Union_way_1.I (cap1 : Nat) (cap2 : Nat) (H : Hp) (G : Int → Hp → (Al → Hp → Prop) → Prop) (K : Al → Hp → Prop) : Prop := ITER prog 39 [] [.pointer (some ⟨cap1, 0, none⟩), .pointer (some ⟨cap2, 0, none⟩)] H (fun vals H Kb => d1 vals fun w0 => liftI .i64 w0 fun z3 => G z3 H Kb) K
end
end Go.Proofs.Ytimgnhleaekmhaa
